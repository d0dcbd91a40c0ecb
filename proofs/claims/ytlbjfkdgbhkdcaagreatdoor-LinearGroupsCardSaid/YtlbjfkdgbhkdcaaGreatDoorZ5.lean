/-
  Texts of the proof, part 5. Conditions: each lemma names its own.
-/
import Derived.Test.YtlbjfkdgbhkdcaaGreatDoorZ3
import Derived.Test.YtlbjfkdgbhkdcaaGreatDoorZ4
import Derived.Lib.SlicesS
import Derived.Ground.GgzProg
import Derived.Ground.SlgmProg
import Derived.Shelf.SlIterI.Nil
import Derived.Shelf.SlIterI.Sorted
import Derived.Shelf.SortM.Plain
import Derived.Shelf.SortM.SortNone
import Derived.Shelf.SlGeneric
import Derived.Test.YtlbjfkdgbhkdcaaGreatDoorProg
import Derived.OpenShut
import Derived.ShutString
import Derived.ChangeOld
import Derived.Deep.Slices
import Derived.Lib.SmallJoins
import Derived.Test.YtlbjfkdgbhkdcaaGreatDoorRows
import Derived.Test.YtlbjfkdgbhkdcaaGreatDoorTie
import Derived.Stop.LaidErr
import Derived.LaidMore
import Derived.MakeChecks
import Derived.Stop.Joined
import Derived.SevenTiedAt
import Derived.Maps.RangeWalk
set_option linter.unusedVariables false
set_option linter.unusedSimpArgs false
set_option maxRecDepth 100000
set_option maxHeartbeats 16000000
namespace Go.Proofs.YtlbjfkdgbhkdcaaGreatDoor
open Go.RowKit Go.MapKept
open Go.ChangeMaps (setBlock)
theorem IsPrg.slices5 {w:World} {pv:Value} {p:ProgV} (h:IsPrg w pv p):∃ vo vn vc ro rn rc,pv=.agg #[.slice vo vn vc,.slice ro rn rc]:=by
 obtain ⟨vv,rv,rfl,hv,hr⟩:=h
 obtain ⟨vo,vc,rfl,-⟩:=hv.shape
 obtain ⟨ro,rc,rfl,-⟩:=hr.shape
 exact ⟨vo,_,vc,ro,_,rc,rfl⟩
theorem termsB_coef {n:Int}:∀ {l:List TermV} {last:Int},termsB n last l=true->∀ k,k<l.length->limB (l.getD k term0).coef=true
 | [],_,_,k,hk=>by simp at hk
 | t :: l,last,h,k,hk=>by
  unfold termsB at h
  simp only [Bool.and_eq_true] at h
  cases k with
  | zero=>exact h.1.2
  | succ k=>exact termsB_coef h.2 k (by simpa using hk)
theorem step_appS {w:World} {ops:Array Oper} {o:Oper} {a:Act} {K:Act->World->Prop} {Q:Exit->Act->World->Prop} {E:Prop} (hgd:o.guard=none) (s x:Operand)
  (ho:o.op=.call { callee:=.builtin .append,args:=#[s,x],argTypes:=#[56,56] }) (base:Nat) (v:Value) (l:List ByteArray) (hs:a.eval s=v) (hown:SRow w base v l) (y:ByteArray) {b:Nat} {c:Nat} (hx:a.eval x=.slice (some ⟨b,0,none⟩) 1 c) (hc:w.cell? ⟨b,0,none⟩=some (.string y)) (hl:l.length<=100000) (hbase:base<=w.heap.size)
  (h:∀ v' w',SRow w' base v' (l++[y])->Ext (fun k=>v.ownBlock=some k) w w'->(v'.ownBlock=v.ownBlock∨v'.ownBlock=some w.heap.size)->K (a.put o.dst v') w') :
  if Region.wanted o (yielded ops a.tmps)=true then Oper.wp Tryz.prog o a w K Q else E:=by
 obtain ⟨i0,hi0,hz0,hz1,hz2⟩:=info_parts Tryz.infoString
 refine step_append_any hgd s x 56 ho base 9 i0 _ 1 16 Tryz.underlying56 hi0 hz0 hz1 hz2 rfl (by decide) v l.length (l.map Value.string) hs hown (some ⟨b,0,none⟩) 1 c (fun e=>by cases e) [.string y] hx rfl (.inr ⟨_,rfl,fun j u hu=>?_⟩) (fun u hu=>by simp at hu; subst hu; rfl) (by unfold maxLen; omega) (by omega) hbase (fun v' w' g1 g2 g3=>h v' w' ?_ ?_ g3)
 ·match j,hu with
  | 0,hu =>
   cases hu
   rw [Addr.add_lit]
   exact hc
  | j+1,hu=>simp at hu
 ·unfold SRow
  rw [List.length_append,List.map_append]
  exact g1
 ·exact (Ext.refl (fun k=>v.ownBlock=some k) w).grown g2 (fun k hk _=>hk)
def Strs (w:World) (v:Value) (l:List ByteArray):Prop:=Sl w v 1 (l.map cS)
theorem SRow.strs {w:World} {base:Nat} {v:Value} {l:List ByteArray} (h:SRow w base v l):Strs w v l:=by
 rcases h.2 with ⟨rfl,h0⟩ | ⟨g,cap,cur,rfl,hb,hg,hnc,hcm,hcs,htake⟩
 ·exact ⟨none,0,by rw [List.length_map,h0],by rw [List.length_map,h0]; exact Nat.le_refl _,by unfold maxLen; decide,fun _=>rfl,fun h=>by rw [List.length_map,h0] at h; exact absurd h (Nat.lt_irrefl 0)⟩
 ·refine ⟨some ⟨g,0,none⟩,cap,by rw [List.length_map],by rw [List.length_map]; exact hnc,hcm,(fun e=>by cases e),fun _=>⟨g,0,rfl,blk_lt hg,fun i r hi j u hu=>?_⟩⟩
  rw [List.getElem?_map] at hi
  obtain ⟨x,hx,rfl⟩:=Option.map_eq_some_iff.1 hi
  have hi':i<l.length:=(List.getElem?_eq_some_iff.1 hx).1
  match j,hu with
  | 0,hu =>
   cases hu
   rw [Nat.zero_add,Nat.mul_one,Nat.add_zero,cell_of_cells hg,<- Array.getElem?_toList]
   have h2:(cur.toList.take (l.length*1))[i]?=some (.string x):=by
    rw [htake,List.getElem?_map,hx]; rfl
   rw [List.getElem?_take_of_lt (by omega)] at h2
   exact h2
  | j+1,hu=>simp [cS] at hu
def upT (v:VarV):ByteArray:=if v.op then ⟨#[111,112,101,110,41]⟩ else numT v.up++⟨#[93]⟩
def kindT (v:VarV):ByteArray:=if v.ig then ⟨#[105,110,116,101,103,101,114]⟩ else ⟨#[114,101,97,108]⟩
def varT (i:Nat) (v:VarV):ByteArray:=⟨#[120]⟩++numT i++⟨#[32,105,110,32,91]⟩++numT v.lo++⟨#[44,32]⟩++upT v++⟨#[32]⟩++kindT v++⟨#[32,99,111,115,116,32]⟩++numT v.co
def signT (k:Int):ByteArray:=if k=0 then ⟨#[60,61]⟩ else if k=1 then ⟨#[62,61]⟩ else ⟨#[61]⟩
def rowT (r:RowV):ByteArray:=r.name++⟨#[32,40]⟩++numT r.group++⟨#[41,58,32]⟩++termsT r.terms++⟨#[32]⟩++signT r.kind++⟨#[32]⟩++numT r.bound
def varsT (p:ProgV) (k:Nat):List ByteArray:=(List.range k).map fun i=>varT i (p.v i)
def rowsT (p:ProgV) (k:Nat):List ByteArray:=(List.range k).map fun i=>rowT (p.r i)
def fmtT (p:ProgV):List ByteArray:=if validB p then varsT p p.vars.length++rowsT p p.rows.length else []
theorem varsT_len (p:ProgV) (k:Nat):(varsT p k).length=k:=by simp [varsT]
theorem rowsT_len (p:ProgV) (k:Nat):(rowsT p k).length=k:=by simp [rowsT]
theorem varsT_next (p:ProgV) (k:Nat):varsT p (k+1)=varsT p k++[varT k (p.v k)]:=by
 unfold varsT
 rw [List.range_succ,List.map_append]; rfl
theorem rowsT_next (p:ProgV) (k:Nat):rowsT p (k+1)=rowsT p k++[rowT (p.r k)]:=by
 unfold rowsT
 rw [List.range_succ,List.map_append]; rfl
theorem upT_size {v:VarV} (h:InR v.up):(upT v).size<=30:=by
 have:=numT_size h
 unfold upT
 split
 ·decide
 ·rw [app_size]; show _+1<=_; omega
theorem kindT_size (v:VarV):(kindT v).size<=7:=by
 unfold kindT
 split <;> decide
theorem signT_size (k:Int):(signT k).size<=2:=by
 unfold signT
 split
 ·decide
 ·split <;> decide
theorem termsT_size {ts:List TermV} (hv:∀ t ∈ ts,InR t.var) (hc:∀ t ∈ ts,limB t.coef=true):(termsT ts).size<=1+ts.length*51:=by
 unfold termsT
 split
 ·show 1<=_; omega
 ·have h:=join_le (l:=(partsT ts ts.length).map (·.data.toList)) (c:=50) (fun x hx=>by
   obtain ⟨y,hy,rfl⟩:=List.mem_map.1 hx
   obtain ⟨i,hi,rfl⟩:=List.mem_map.1 hy
   have hin:i<ts.length:=List.mem_range.1 hi
   have hm:ts.getD i term0 ∈ ts:=by rw [getD_lt hin term0]; exact List.getElem_mem _
   exact termT_size (hv _ hm) (hc _ hm))
  rw [List.length_map,partsT_len] at h
  show (Lib.join _ _).toArray.size<=_
  rw [List.size_toArray]
  omega
def StrsPost (w:World) (l:List ByteArray) (r:Ending) (w':World):Prop:=∃ v,r=.returned v/\Strs w' v l/\XF w w'
theorem sb_at {w:World} {sb:Nat} (h:blk w sb=some (.cells #[.string ⟨#[60,61]⟩,.string ⟨#[62,61]⟩,.string ⟨#[61]⟩] 9 (0,0))) {k:Nat} (hk:k<=2):w.cell? ⟨sb,k,none⟩=some (.string (signT k)):=by
 rcases k with _ | _ | _ | k
 ·exact cellq h 0 rfl
 ·exact cellq h 1 rfl
 ·exact cellq h 2 rfl
 ·omega
theorem Format_any (w:World) (pv:Value) (p:ProgV) (hp:IsPrg w pv p) (ht:Tab10 w) (hT:∀ i,i<p.rows.length->(p.r i).terms.length<=1000):Calls Tryz.prog 22 #[pv] w (StrsPost w (fmtT p)):=by
 obtain ⟨vo,vn,vc,ro,rn,rc,rfl⟩:=hp.slices5
 have HLn:=bH (show p.vars.length=vn/\p.rows.length=rn from by
  obtain ⟨vv,rv,e,h,h2⟩:=hp
  cases e
  obtain ⟨_,_,e,_⟩:=h.shape
  obtain ⟨_,_,e2,_⟩:=h2.shape
  cases e; cases e2
  exact ⟨rfl,rfl⟩)
 have hxa:=(Ext.refl (fun _=>False) w).alloc (.cells #[.slice vo vn vc,.slice ro rn rc] 25)
 have HB:=bH (bI (hp.keep hxa) (bI (blk_alloc_at w (.cells #[.slice vo vn vc,.slice ro rn rc] 25)) hxa))
 have HTm:=bH hT
 have HTb:=bH (fun W (hW:XF w W)=>ht.keep hW)
 clear hp hxa hT ht
 go_enter Tryz.func22,Tryz.ntmps22
 go_upto_region 1 with fail
 generalize w.alloc (.cells #[.slice vo vn vc,.slice ro rn rc] 25)=w1 at *
 obtain ⟨pb,hpb⟩:∃ q,w.heap.size=q:=⟨_,rfl⟩
 rw [hpb] at HB ⊢
 have HPb:=bH hpb
 clear hpb
 have p0:w1.cell? ⟨pb,0,none⟩=some (.slice vo vn vc):=cellq HB.out.2.1 0 rfl
 have p1:w1.cell? ⟨pb,1,none⟩=some (.slice ro rn rc):=cellq HB.out.2.1 1 rfl
 have HVa:=bH (Valid_any w1 (.agg #[.slice vo vn vc,.slice ro rn rc]) p HB.out.1)
 obtain ⟨vb,hvb⟩:∃ vb,validB p=vb:=⟨_,rfl⟩
 rw [hvb] at HVa
 have HVb:=bH hvb
 clear hvb
 cases vb with
 | false =>
  go_wp2_with (go_at_call 15; refine HVa.out.mono ?_; rintro q2 w2 ⟨rfl,hx2⟩)
  go_ret
  exact ⟨_,rfl,by unfold fmtT; rw [HVb.out]; exact (show SRow w2 0 (.slice none 0 0) [] from World.ownsRow_nil _ _ _ 1).strs,HB.out.2.2.trans hx2⟩
 | true =>
 have HFm:=bH (show fmtT p=varsT p vn++rowsT p rn from by unfold fmtT; rw [HVb.out,HLn.out.1,HLn.out.2]; rfl)
 have hnm:=HVb.out
 unfold validB at hnm
 simp only [Bool.and_eq_true,decide_eq_true_eq] at hnm
 have hn4:vn<=400:=by have:=hnm.1.1.1; have:=HLn.out.1; omega
 have hm4:rn<=4000:=by have:=hnm.1.1.2; have:=HLn.out.2; omega
 clear hnm
 rw [HFm.out]
 go_upto_region 4 with (go_at_call 15; refine HVa.out.mono ?_; rintro q2 w2 ⟨rfl,hx2⟩; replace p0:=cell_keep p0 hx2; replace p1:=cell_keep p1 hx2)
 have HP:=bH (bI (HB.out.1.keep hx2) (bI (blk_keep HB.out.2.1 hx2) (HB.out.2.2.trans hx2)))
 clear hx2 HVa HB
 go_wp2_with fail
 go_loopg [17,3,4,5,6,7] vn (fun gg v17 v3 v4 v5 v6 v7 wr=>∃ (k:Nat) (v:Value),k<=vn/\gg=vn - k/\v17=.int .i64 k/\v=v3/\SRow wr w2.heap.size v (varsT p k)/\XF w2 wr)
 case atStart=>exact ⟨0,_,Nat.zero_le _,rfl,rfl,rfl,World.ownsRow_nil _ _ _ 1,Ext.refl _ _⟩
 case round =>
  clear p0 p1
  obtain ⟨i,v,hi,rfl,rfl,rfl,hs,hx⟩:=hrel
  have HM0:=bH (bI hs hx)
  clear hs hx
  by_cases hin:i<vn
  ·have i0:(i:Int)<(vn:Int):=by omega
   have i1:(0:Int)<=(i:Int):=by omega
   have hVs:Vrs wr (.slice vo vn vc) p.vars:=by
    obtain ⟨vv,rv,e,h,h2⟩:=HP.out.1.keep HM0.out.2
    cases e
    exact h
   obtain ⟨b,off,rfl,-,e0,e1,e2,e3,e4,hok⟩:=hVs.atp i (by rw [HLn.out.1]; exact hin)
   clear hVs
   obtain ⟨x,hxv⟩:∃ x,p.v i=x:=⟨_,rfl⟩
   have HNx:=bH (varsT_next p i)
   rw [hxv] at e0 e1 e2 e3 e4 hok HNx
   clear hxv
   obtain ⟨lo,up,op,ig,co⟩:=x
   dsimp only at e0 e1 e2 e3 e4
   have HOk:=bH hok
   obtain ⟨h1,h2,h3⟩:=hok
   dsimp only at h1 h2 h3
   have hxa:=(Ext.refl (fun _=>False) wr).alloc (.cells #[.int .i64 lo,.int .i64 up,.bool op,.bool ig,.int .i64 co] 60)
   have HA0:=bH (bI (blk_alloc_at wr (.cells #[.int .i64 lo,.int .i64 up,.bool op,.bool ig,.int .i64 co] 60)) (bI (HM0.out.1.keep hxa) (bI (HM0.out.2.trans hxa) (fun k hk=>Nat.ne_of_lt (World.ownsRow.lt HM0.out.1 k hk).2:∀ k,v.ownBlock=some k->k≠wr.heap.size))))
   clear hxa
   go_upto_region 7 with fail
   generalize wr.alloc (.cells #[.int .i64 lo,.int .i64 up,.bool op,.bool ig,.int .i64 co] 60)=w4 at *
   generalize wr.heap.size=xb at *
   clear e0 e1 e2 e3 e4
   have e1:=cellq HA0.out.1 1 rfl
   have hs1:=numT_size h2
   have hq1:¬ 9223372036854775807<(numT up).size+1:=by omega
   have HNu:=bH (number_any w4 up h2 (HTb.out _ (HP.out.2.2.trans HA0.out.2.2.1)))
   go_upto_if 27 with (go_at_call 42; refine HNu.out.mono ?_; rintro q5 w5 ⟨rfl,hx5⟩; have e2:=cell_keep (cellq HA0.out.1 2 rfl) hx5)
   have HA:=bH (bI (blk_keep HA0.out.1 hx5) (bI (HA0.out.2.1.keep hx5) (bI (HA0.out.2.2.1.trans hx5) HA0.out.2.2.2)))
   clear hx5 HA0 e1 e2 HNu hq1 hs1 HM0
   have e3:=cellq HA.out.1 3 rfl
   go_cut [6] (fun v6 wx=>v6=.string (upT ⟨lo,up,op,ig,co⟩)/\wx=w5)
   case first =>
    cases op
    ·go_wp2
     go_meet
     exact ⟨rfl,rfl⟩
    ·go_wp2
     go_meet
     exact ⟨rfl,rfl⟩
   case rest =>
   obtain ⟨rfl,rfl⟩:=hcut
   go_upto_if 29 with fail
   go_cut [7] (fun v7 wx=>v7=.string (kindT ⟨lo,up,op,ig,co⟩)/\wx=wc)
   case first =>
    cases ig
    ·go_wp2
     go_meet
     exact ⟨rfl,rfl⟩
    ·go_wp2
     go_meet
     exact ⟨rfl,rfl⟩
   case rest =>
   obtain ⟨rfl,rfl⟩:=hcut
   have hu1:=upT_size (v:=⟨lo,up,op,ig,co⟩) h2
   have hk1:=kindT_size ⟨lo,up,op,ig,co⟩
   obtain ⟨us,hus⟩:∃ s,upT ⟨lo,up,op,ig,co⟩=s:=⟨_,rfl⟩
   obtain ⟨ks,hks⟩:∃ s,kindT ⟨lo,up,op,ig,co⟩=s:=⟨_,rfl⟩
   have HU:=bH (show varT i ⟨lo,up,op,ig,co⟩=⟨#[120]⟩++numT i++⟨#[32,105,110,32,91]⟩++numT lo++⟨#[44,32]⟩++us++⟨#[32]⟩++ks++⟨#[32,99,111,115,116,32]⟩++numT co from by unfold varT; rw [hus,hks])
   rw [hus] at hu1 ⊢
   rw [hks] at hk1 ⊢
   clear hus hks e3
   have hi1:InR (i:Int):=by unfold InR; omega
   have ha1:=numT_size hi1
   have ha2:=numT_size h1
   have ha3:=numT_size h3
   have hz0:¬ 9223372036854775807<1+(numT i).size:=by omega
   have hz1:¬ 9223372036854775807<1+(numT i).size+5:=by omega
   have hz2:¬ 9223372036854775807<1+(numT i).size+5+(numT lo).size:=by omega
   have hz3:¬ 9223372036854775807<1+(numT i).size+5+(numT lo).size+2:=by omega
   have hz4:¬ 9223372036854775807<1+(numT i).size+5+(numT lo).size+2+us.size:=by omega
   have hz5:¬ 9223372036854775807<1+(numT i).size+5+(numT lo).size+2+us.size+1:=by omega
   have hz6:¬ 9223372036854775807<1+(numT i).size+5+(numT lo).size+2+us.size+1+ks.size:=by omega
   have hz7:¬ 9223372036854775807<1+(numT i).size+5+(numT lo).size+2+us.size+1+ks.size+6:=by omega
   have hz8:¬ 9223372036854775807<1+(numT i).size+5+(numT lo).size+2+us.size+1+ks.size+6+(numT co).size:=by omega
   clear ha1 ha2 ha3 hu1 hk1
   have HLo:=bH (fun k (hk:v.ownBlock=some k)=>(World.ownsRow.lt HA.out.2.1 k hk).1)
   have HEx:=bH (fun W (hW:Ext (fun k=>v.ownBlock=some k) wc W)=>(HA.out.2.2.1.own hW (fun k hk=>HLo.out k hk):XF w2 W))
   have HI1:=bH (fun W (hW:Ext (fun k=>v.ownBlock=some k) wc W)=>itoa_any W i hi1 (HTb.out _ (HP.out.2.2.trans (HEx.out W hW))))
   have HN1:=bH (fun W (hW:Ext (fun k=>v.ownBlock=some k) wc W)=>number_any W lo h1 (HTb.out _ (HP.out.2.2.trans (HEx.out W hW))))
   have HN2:=bH (fun W (hW:Ext (fun k=>v.ownBlock=some k) wc W)=>number_any W co h3 (HTb.out _ (HP.out.2.2.trans (HEx.out W hW))))
   have HLw:=bH HA.out.2.2.1.size
   have HLl:=bH (show (varsT p i).length<=100000 from by rw [varsT_len]; omega)
   have e0:=cqo (S:=fun k=>v.ownBlock=some k) (cellq HA.out.1 0 rfl) (fun e=>HA.out.2.2.2 _ e rfl)
   have e4:=cqo (S:=fun k=>v.ownBlock=some k) (cellq HA.out.1 4 rfl) (fun e=>HA.out.2.2.2 _ e rfl)
   have hs0:=HA.out.2.1.keep ((Ext.refl (fun _=>False) wc).drew)
   clear h1 h2 h3 hi1
   go_upto_region 12 with fail
   refine wp_region_held_drew (S:=(Ext (fun k=>v.ownBlock=some k) wc)) (by kernel_rfl) ((Ext.refl _ wc).drew) (fun hHeld=>?_)
   refine ht 0 (h:=(ht 1 (h:=(ht 5 (h:=(ht 6 (h:=(ht 10 (h:=(ht 13 (h:=(ht 16 (h:=(ht 17 (h:=?_)))))))))))))))
   (try go_frame)
   refine hst 2 (h:=fun K hK=>?_)
   (go_simp; go_at_call 43; (with_reducible refine (HI1.out _ hHeld).mono ?_); rintro q1 w11 ⟨rfl,hx1⟩; have hX1:=hHeld.trans (ext_any hx1 _); have hs1:=hs0.keep hx1)
   refine hK.out _ _ (hX1) (fun hHeld=>?_)
   clear hK K
   (try go_frame)
   refine ht 3 (h:=(ht 4 (h:=?_)))
   (try go_frame)
   refine hst 7 (h:=fun K hK=>?_)
   (go_simp; go_at_call 42; (with_reducible refine (HN1.out _ hX1).mono ?_); rintro q2 w12 ⟨rfl,hx2⟩; have hX2:=hX1.trans (ext_any hx2 _); have hs2:=hs1.keep hx2)
   refine hK.out _ _ (hX2) (fun hHeld=>?_)
   clear hK K
   (try go_frame)
   refine ht 8 (h:=(ht 9 (h:=(ht 11 (h:=(ht 12 (h:=(ht 14 (h:=(ht 15 (h:=?_)))))))))))
   (try go_frame)
   refine hst 18 (h:=fun K hK=>?_)
   (go_simp; go_at_call 42; (with_reducible refine (HN2.out _ hX2).mono ?_); rintro q3 w13 ⟨rfl,hx3⟩; have hX3:=hX2.trans (ext_any hx3 _); have hs3:=hs2.keep hx3)
   refine hK.out _ _ (hX3) (fun hHeld=>?_)
   clear hK K
   (try go_frame)
   refine ht 19 (h:=?_)
   (try go_frame)
   refine hst 20 (h:=fun K hK=>?_)
   (go_simp; obtain ⟨S,hS⟩:∃ S,⟨#[120]⟩++numT i++⟨#[32,105,110,32,91]⟩++numT lo++⟨#[44,32]⟩++us++⟨#[32]⟩++ks++⟨#[32,99,111,115,116,32]⟩++numT co=S:=⟨_,rfl⟩; rw [hS]; have HSx:=bH hS; clear hS; have hxa:=(Ext.refl (fun _=>False) w13).alloc (.cells #[.string S] 9); have HAl:=bH (blk_alloc_at w13 (.cells #[.string S] 9)); have HS:=bH (hs3.keep hxa); have hXa:=hX3.trans (ext_any hxa _); have HLs:=bH hXa.size; have HLe:=bH (show w2.heap.size<=(w13.alloc (.cells #[.string S] 9)).heap.size from Nat.le_trans HLw.out hXa.size); clear hxa)
   refine hK.out _ _ (hXa) (fun hHeld=>?_)
   clear hK K
   (try go_frame)
   refine hst 21 (h:=fun K hK=>?_)
   refine step_appS rfl (.tmp 30) (.tmp 50) rfl w2.heap.size v (varsT p i) rfl HS.out S rfl (cellq HAl.out 0 rfl) HLl.out HLe.out (fun v9 w9 hs9 hx9 hl9=>?_); have hxo:=hXa.trans hx9; have HN:=bH (bI hs9 (bI hxo hl9))
   refine hK.out _ _ (hxo) (fun hHeld=>?_)
   clear hK K
   (try go_frame)
   refine ht 22 (h:=?_)
   (try go_frame)
   refine wpAnyH_done (by kernel_rfl) ?_ _
   have HF:=bH (HEx.out _ HN.out.2.1)
   go_wp2
   go_roundg (vn - (i+1))
   case measure=>omega
   case rel=>exact ⟨i+1,_,by omega,rfl,by go_num,rfl,by rw [HNx.out,HU.out,HSx.out]; exact HN.out.1,HF.out⟩
  ·obtain rfl:vn=i:=by omega
   obtain ⟨wo,rfl⟩:∃ x,x=wr:=⟨_,rfl⟩
   have hxs:=(Ext.refl (fun _=>False) wo).alloc (.cells #[.string ⟨#[60,61]⟩,.string ⟨#[62,61]⟩,.string ⟨#[61]⟩] 9)
   have HS0:=bH (bI (blk_alloc_at wo (.cells #[.string ⟨#[60,61]⟩,.string ⟨#[62,61]⟩,.string ⟨#[61]⟩] 9)) (bI (HM0.out.1.keep hxs) (bI (HM0.out.2.trans hxs) (fun k hk=>Nat.ne_of_lt (World.ownsRow.lt HM0.out.1 k hk).2:∀ k,v.ownBlock=some k->k≠wo.heap.size))))
   clear hxs
   go_upto_region 15 with fail
   generalize wo.alloc (.cells #[.string ⟨#[60,61]⟩,.string ⟨#[62,61]⟩,.string ⟨#[61]⟩] 9)=w3 at *
   generalize wo.heap.size=sb at *
   have p0:=cellq (blk_keep HP.out.2.1 HS0.out.2.2.1) 0 rfl
   have p1:=cellq (blk_keep HP.out.2.1 HS0.out.2.2.1) 1 rfl
   go_wp2_with fail
   go_loopg [57,3,10] rn (fun gg v57 v3 v10 wr=>∃ (k:Nat) (v:Value),k<=rn/\gg=rn - k/\v57=.int .i64 k/\v=v3/\SRow wr w2.heap.size v (varsT p vn++rowsT p k)/\XF w2 wr/\blk wr sb=some (.cells #[.string ⟨#[60,61]⟩,.string ⟨#[62,61]⟩,.string ⟨#[61]⟩] 9 (0,0))/\∀ q,v.ownBlock=some q->q≠sb)
   case atStart=>exact ⟨0,_,Nat.zero_le _,rfl,rfl,rfl,by show SRow w3 _ _ (varsT p vn++[]); rw [List.append_nil]; exact HS0.out.2.1,HS0.out.2.2.1,HS0.out.1,HS0.out.2.2.2⟩
   case round =>
    clear p0 p1 HS0 HM0 v
    obtain ⟨i,v,hi,rfl,rfl,rfl,hs,hx,hsb,hne⟩:=hrel
    have HM0:=bH (bI hs (bI hx (bI hsb hne)))
    clear hs hx hsb hne
    by_cases hin:i<rn
    ·have i0:(i:Int)<(rn:Int):=by omega
     have i1:(0:Int)<=(i:Int):=by omega
     have hRs:Rws wr (.slice ro rn rc) p.rows:=by
      obtain ⟨vv,rv,e,h,h2⟩:=HP.out.1.keep HM0.out.2.1
      cases e
      exact h2
     have hil:i<p.rows.length:=by rw [HLn.out.2]; exact hin
     obtain ⟨b,off,ta,tc,rfl,-,e0,e1,e2,e3,e4,hok,hT⟩:=hRs.atp i hil
     clear hRs
     have hrB:=valid_row HVb.out hil
     have htl:=HTm.out i hil
     obtain ⟨r,hrv⟩:∃ r,p.r i=r:=⟨_,rfl⟩
     have HNx:=bH (rowsT_next p i)
     rw [hrv] at e0 e1 e2 e3 e4 hok HNx hT hrB htl
     clear hrv
     obtain ⟨nm,gr,kd,tms,bd⟩:=r
     dsimp only at e0 e1 e2 e3 e4 hT htl
     obtain ⟨h1,h2,-,h3⟩:=hok
     dsimp only at h1 h2 h3
     unfold rowB at hrB
     simp only [Bool.and_eq_true,decide_eq_true_eq] at hrB
     have hnm:nm.size<=80:=hrB.1.1.1.2
     obtain ⟨k,rfl⟩:∃ k:Nat,kd=k:=⟨kd.toNat,by omega⟩
     have hk2:k<=2:=by omega
     have hcf:∀ t ∈ tms,limB t.coef=true:=fun t ht=>by
      obtain ⟨q,hq,rfl⟩:=List.getElem_of_mem ht
      have:=((termsB_coef hrB.2) q hq)
      rwa [getD_lt hq term0] at this
     have hts1:=termsT_size (fun t ht=>(hT.2 t ht).var) hcf
     have htl2:=htl
     obtain ⟨tl,htl'⟩:∃ n,tms.length=n:=⟨_,rfl⟩
     rw [htl'] at e3 hts1 htl hT
     have HTT:=bH (bI hT (bI htl2 hcf))
     clear htl2
     have hxa:=(Ext.refl (fun _=>False) wr).alloc (.cells #[.string nm,.int .i64 gr,.int .i64 k,.slice ta tl tc,.int .i64 bd] 53)
     have HA:=bH (bI (blk_alloc_at wr (.cells #[.string nm,.int .i64 gr,.int .i64 k,.slice ta tl tc,.int .i64 bd] 53)) (bI (HM0.out.1.keep hxa) (bI (HM0.out.2.1.trans hxa) (bI (fun k hk=>Nat.ne_of_lt (World.ownsRow.lt HM0.out.1 k hk).2:∀ k,v.ownBlock=some k->k≠wr.heap.size) (bI (blk_keep HM0.out.2.2.1 hxa) HM0.out.2.2.2)))))
     have HTk:=bH (HTT.out.1.keep hxa)
     clear hxa hrB hT hcf
     go_upto_region 18 with fail
     generalize wr.alloc (.cells #[.string nm,.int .i64 gr,.int .i64 k,.slice ta tl tc,.int .i64 bd] 53)=w5 at *
     generalize wr.heap.size=xb at *
     clear e0 e1 e2 e3 e4 HM0
     obtain ⟨sg,hsg⟩:∃ s,signT k=s:=⟨_,rfl⟩
     have hg1:sg.size<=2:=by rw [<- hsg]; exact signT_size k
     have hsc:=sb_at HA.out.2.2.2.2.1 hk2
     rw [hsg] at hsc
     obtain ⟨ts,hts⟩:∃ s,termsT tms=s:=⟨_,rfl⟩
     have HU:=bH (show rowT ⟨nm,gr,k,tms,bd⟩=nm++⟨#[32,40]⟩++numT gr++⟨#[41,58,32]⟩++ts++⟨#[32]⟩++sg++⟨#[32]⟩++numT bd from by unfold rowT; rw [hsg,hts])
     rw [hts] at hts1
     have ha1:=numT_size h2
     have ha3:=numT_size h3
     have hz0:¬ 9223372036854775807<nm.size+2:=by omega
     have hz1:¬ 9223372036854775807<nm.size+2+(numT gr).size:=by omega
     have hz2:¬ 9223372036854775807<nm.size+2+(numT gr).size+3:=by omega
     have hz3:¬ 9223372036854775807<nm.size+2+(numT gr).size+3+ts.size:=by omega
     have hz4:¬ 9223372036854775807<nm.size+2+(numT gr).size+3+ts.size+1:=by omega
     have hz5:¬ 9223372036854775807<nm.size+2+(numT gr).size+3+ts.size+1+sg.size:=by omega
     have hz6:¬ 9223372036854775807<nm.size+2+(numT gr).size+3+ts.size+1+sg.size+1:=by omega
     have hz7:¬ 9223372036854775807<nm.size+2+(numT gr).size+3+ts.size+1+sg.size+1+(numT bd).size:=by omega
     clear ha1 ha3 hg1 hnm hts1
     have HLo:=bH (fun k (hk:v.ownBlock=some k)=>(World.ownsRow.lt HA.out.2.1 k hk).1)
     have HEx:=bH (fun W (hW:Ext (fun k=>v.ownBlock=some k) w5 W)=>(HA.out.2.2.1.own hW (fun k hk=>HLo.out k hk):XF w2 W))
     have HI1:=bH (fun W (hW:Ext (fun k=>v.ownBlock=some k) w5 W)=>itoa_any W gr h2 (HTb.out _ (HP.out.2.2.trans (HEx.out W hW))))
     have HN2:=bH (fun W (hW:Ext (fun k=>v.ownBlock=some k) w5 W)=>number_any W bd h3 (HTb.out _ (HP.out.2.2.trans (HEx.out W hW))))
     have HT1:=bH (fun W (hW:Ext (fun k=>v.ownBlock=some k) w5 W) (hx:XF w5.drew W)=>hts ▸ terms_any W (.slice ta tl tc) tms (HTk.out.keep ((Ext.refl (fun _=>False) w5).drew.trans hx)) HTT.out.2.1 HTT.out.2.2 (HTb.out _ (HP.out.2.2.trans (HEx.out W hW))))
     have HLw:=bH HA.out.2.2.1.size
     have HLl:=bH (show (varsT p vn++rowsT p i).length<=100000 from by rw [List.length_append,varsT_len,rowsT_len]; omega)
     have e0:=cqo (S:=fun k=>v.ownBlock=some k) (cellq HA.out.1 0 rfl) (fun e=>HA.out.2.2.2.1 _ e rfl)
     have e1:=cqo (S:=fun k=>v.ownBlock=some k) (cellq HA.out.1 1 rfl) (fun e=>HA.out.2.2.2.1 _ e rfl)
     have e2:=cqo (S:=fun k=>v.ownBlock=some k) (cellq HA.out.1 2 rfl) (fun e=>HA.out.2.2.2.1 _ e rfl)
     have e3:=cqo (S:=fun k=>v.ownBlock=some k) (cellq HA.out.1 3 rfl) (fun e=>HA.out.2.2.2.1 _ e rfl)
     have e4:=cqo (S:=fun k=>v.ownBlock=some k) (cellq HA.out.1 4 rfl) (fun e=>HA.out.2.2.2.1 _ e rfl)
     have e5:=cqo (S:=fun k=>v.ownBlock=some k) hsc (fun e=>HA.out.2.2.2.2.2 _ e rfl)
     simp only [List.getElem_toArray,List.getElem_cons_zero,List.getElem_cons_succ] at e0 e1 e2 e3 e4
     have k3:(k:Int)<3:=by omega
     have k4:(0:Int)<=(k:Int):=by omega
     have HSb:=bH (blk_lt HA.out.2.2.2.2.1)
     have hs0:=HA.out.2.1.keep ((Ext.refl (fun _=>False) w5).drew)
     clear h1 h2 h3 hsg hts hsc
     refine wp_region_held_drew (S:=(Ext (fun k=>v.ownBlock=some k) w5)) (by kernel_rfl) ((Ext.refl _ w5).drew) (fun hHeld=>?_)
     refine ht 0 (h:=(ht 1 (h:=(ht 2 (h:=(ht 3 (h:=(ht 4 (h:=(ht 5 (h:=(ht 9 (h:=(ht 10 (h:=(ht 14 (h:=(ht 15 (h:=(ht 16 (h:=(ht 17 (h:=(ht 18 (h:=(ht 21 (h:=(ht 22 (h:=?_)))))))))))))))))))))))))))))
     (try go_frame)
     refine hst 6 (h:=fun K hK=>?_)
     (go_simp; go_at_call 43; (with_reducible refine (HI1.out _ hHeld).mono ?_); rintro q1 w11 ⟨rfl,hx1⟩; have hX1:=hHeld.trans (ext_any hx1 _); have hs1:=hs0.keep hx1)
     refine hK.out _ _ (hX1) (fun hHeld=>?_)
     clear hK K
     (try go_frame)
     refine ht 7 (h:=(ht 8 (h:=?_)))
     (try go_frame)
     refine hst 11 (h:=fun K hK=>?_)
     (go_simp; go_at_call 44; (with_reducible refine (HT1.out _ hX1 hx1).mono ?_); rintro q2 w12 ⟨rfl,hx2⟩; have hX2:=hX1.trans (ext_any hx2 _); have hs2:=hs1.keep hx2)
     refine hK.out _ _ (hX2) (fun hHeld=>?_)
     clear hK K
     (try go_frame)
     refine ht 12 (h:=(ht 13 (h:=(ht 19 (h:=(ht 20 (h:=?_)))))))
     (try go_frame)
     refine hst 23 (h:=fun K hK=>?_)
     (go_simp; go_at_call 42; (with_reducible refine (HN2.out _ hX2).mono ?_); rintro q3 w13 ⟨rfl,hx3⟩; have hX3:=hX2.trans (ext_any hx3 _); have hs3:=hs2.keep hx3)
     refine hK.out _ _ (hX3) (fun hHeld=>?_)
     clear hK K
     (try go_frame)
     refine ht 24 (h:=?_)
     (try go_frame)
     refine hst 25 (h:=fun K hK=>?_)
     (go_simp; obtain ⟨S,hS⟩:∃ S,nm++⟨#[32,40]⟩++numT gr++⟨#[41,58,32]⟩++ts++⟨#[32]⟩++sg++⟨#[32]⟩++numT bd=S:=⟨_,rfl⟩; rw [hS]; have HSx:=bH hS; clear hS; have hxa:=(Ext.refl (fun _=>False) w13).alloc (.cells #[.string S] 9); have HAl:=bH (blk_alloc_at w13 (.cells #[.string S] 9)); have HS:=bH (hs3.keep hxa); have hXa:=hX3.trans (ext_any hxa _); have HLs:=bH hXa.size; have HLe:=bH (show w2.heap.size<=(w13.alloc (.cells #[.string S] 9)).heap.size from Nat.le_trans HLw.out hXa.size); clear hxa)
     refine hK.out _ _ (hXa) (fun hHeld=>?_)
     clear hK K
     (try go_frame)
     refine hst 26 (h:=fun K hK=>?_)
     refine step_appS rfl (.tmp 61) (.tmp 86) rfl w2.heap.size v (varsT p vn++rowsT p i) rfl HS.out S rfl (cellq HAl.out 0 rfl) HLl.out HLe.out (fun v9 w9 hs9 hx9 hl9=>?_); have hxo:=hXa.trans hx9; have HN:=bH (bI hs9 (bI hxo hl9))
     refine hK.out _ _ (hxo) (fun hHeld=>?_)
     clear hK K
     (try go_frame)
     refine ht 27 (h:=?_)
     (try go_frame)
     refine wpAnyH_done (by kernel_rfl) ?_ _
     have HF:=bH (HEx.out _ HN.out.2.1)
     have HSk:=bH (((ext_any HF.out (fun _=>False)):XF w2 w9))
     have HSc:=bH ((HN.out.2.1.blk (HSb.out) (fun e=>HA.out.2.2.2.2.2 _ e rfl)).trans HA.out.2.2.2.2.1)
     have HNw:=bH (show ∀ q,v9.ownBlock=some q->q≠sb from fun q hq=>by
      rcases HN.out.2.2 with e | e
      ·exact HA.out.2.2.2.2.2 q (by rw [<- e]; exact hq)
      ·rw [e] at hq
       have:=Option.some.inj hq
       have:=HSb.out
       have:=HLs.out
       omega)
     go_wp2
     go_roundg (rn - (i+1))
     case measure=>omega
     case rel=>exact ⟨i+1,_,by omega,rfl,by go_num,rfl,by rw [HNx.out,HU.out,HSx.out,<- List.append_assoc]; exact HN.out.1,HF.out,HSc.out,HNw.out⟩
    ·obtain rfl:rn=i:=by omega
     go_wp2
     go_ret
     exact ⟨_,rfl,by rw [HFm.out]; exact HM0.out.1.strs,HP.out.2.2.trans HM0.out.2.1⟩
theorem Strs.shape {w:World} {v:Value} {l:List ByteArray} (h:Strs w v l):∃ ao c,v=.slice ao l.length c/\l.length<=maxLen:=by
 obtain ⟨ao,c,rfl,h1,h2,_⟩:=h
 rw [List.length_map] at h1 ⊢
 exact ⟨ao,c,rfl,Nat.le_trans h1 h2⟩
theorem Strs.keep {w w':World} {v:Value} {l:List ByteArray} (h:Strs w v l) (hx:XF w w'):Strs w' v l:=Sl.keep h hx
theorem Strs.at_ {w:World} {ao:Option Addr} {n c:Nat} {l:List ByteArray} (h:Strs w (.slice ao n c) l) {i:Nat} (hi:i<l.length):∃ b off,ao=some ⟨b,off,none⟩/\w.cell? ⟨b,off+i,none⟩=some (.string (l.getD i ⟨#[]⟩)):=by
 obtain ⟨b,off,h1,h2,h3⟩:=Sl.at h (i:=i) (r:=cS l[i]) (by rw [List.getElem?_map,List.getElem?_eq_getElem hi]; rfl)
 refine ⟨b,off,h1,?_⟩
 have:=h3 0 _ rfl
 rw [Nat.mul_one,Nat.add_zero] at this
 rw [getD_lt hi]
 exact this
theorem strs_eq {a b:List ByteArray} {n:Nat} (ha:a.length=n) (hb:b.length=n) (h:∀ i,i<n->a.getD i ⟨#[]⟩=b.getD i ⟨#[]⟩):a=b:=by
 refine List.ext_getElem (by omega) fun i h1 h2=>?_
 have:=h i (by omega)
 rwa [getD_lt h1,getD_lt h2] at this
theorem Lines_any (w:World) (av bv:Value) (a b:List ByteArray) (ha:Strs w av a) (hb:Strs w bv b):Calls Tryz.prog 21 #[av,bv] w (BoolPost w (decide (a=b))):=by
 obtain ⟨ao,ac,rfl,ham⟩:=ha.shape
 obtain ⟨bo,bc,rfl,hbm⟩:=hb.shape
 have hmax:maxLen<=9223372036854775807:=by unfold maxLen; decide
 have HA:=bH (bI ha hb)
 clear ha hb
 obtain ⟨n,hn⟩:∃ n,a.length=n:=⟨_,rfl⟩
 obtain ⟨m,hm⟩:∃ m,b.length=m:=⟨_,rfl⟩
 have HN:=bH (bI hn hm)
 rw [hn] at HA ham ⊢
 rw [hm] at HA hbm ⊢
 clear hn hm
 by_cases hnm:n=m
 ·subst hnm
  have n1:(n:Int)<=9223372036854775807:=by omega
  go_enter Tryz.func21,Tryz.ntmps21
  go_upto_region 3 with fail
  go_wp2_with fail
  go_loopg [5] n (fun gg v5 wr=>∃ k:Nat,k<=n/\gg=n - k/\v5=.int .i64 k/\(∀ i,i<k->a.getD i ⟨#[]⟩=b.getD i ⟨#[]⟩)/\XF w wr)
  case atStart=>exact ⟨0,Nat.zero_le _,rfl,rfl,fun i hi=>absurd hi (Nat.not_lt_zero i),Ext.refl _ _⟩
  case round =>
   obtain ⟨k,hk,rfl,rfl,hall,hx⟩:=hrel
   have HAl:=bH (bI hall hx)
   clear hall hx
   by_cases hkn:k<n
   ·have k0:(k:Int)<(n:Int):=by omega
    have k1:(0:Int)<=(k:Int):=by omega
    obtain ⟨b1,o1,rfl,e0⟩:=(HA.out.1.keep HAl.out.2).at_ (i:=k) (by rw [HN.out.1]; exact hkn)
    obtain ⟨b2,o2,rfl,e1⟩:=(HA.out.2.keep HAl.out.2).at_ (i:=k) (by rw [HN.out.2]; exact hkn)
    by_cases he:a.getD k ⟨#[]⟩=b.getD k ⟨#[]⟩
    ·have HE:=bH he
     rw [he] at e0
     clear he
     generalize b.getD k ⟨#[]⟩=s at e0 e1
     have hq:(s.toList == s.toList)=true:=by simp
     go_upto_region 6 with fail
     go_quiet (fail)
     go_wp2
     go_roundg (n - (k+1))
     case measure=>omega
     case rel=>exact ⟨k+1,by omega,rfl,by go_num,fun i hi=>by
      by_cases e:i=k
      ·subst e; exact HE.out
      ·exact HAl.out.1 i (by omega),HAl.out.2.trans (Ext.drewN (Ext.refl _ wr) _)⟩
    ·have HE:=bH he
     obtain ⟨s,hs⟩:∃ s,a.getD k ⟨#[]⟩=s:=⟨_,rfl⟩
     obtain ⟨t,ht⟩:∃ t,b.getD k ⟨#[]⟩=t:=⟨_,rfl⟩
     rw [hs] at e0 he
     rw [ht] at e1 he
     clear hs ht
     have he2:(s.toList == t.toList)=false:=(Lib.bytes_beq_false_iff s t).2 he
     go_upto_region 6 with fail
     go_quiet (fail)
     go_wp2
     go_ret
     exact ⟨ret_bool (by rw [decide_eq_false (fun e=>HE.out (by rw [e]))]),HAl.out.2.trans (Ext.drewN (Ext.refl _ wr) _)⟩
   ·obtain rfl:n=k:=by omega
    go_wp2
    go_ret
    exact ⟨ret_bool (by rw [decide_eq_true (strs_eq HN.out.1 HN.out.2 HAl.out.1)]),HAl.out.2⟩
 ·have h1:¬ ((n:Int)=(m:Int)):=by omega
  have h2:((n:Int) == (m:Int))=false:=by simpa using h1
  have h3:decide ((n:Int)=(m:Int))=false:=by simpa using h1
  have HE:=bH hnm
  clear hnm
  go_enter Tryz.func21,Tryz.ntmps21
  go_wp2
  go_ret
  exact ⟨ret_bool (by rw [decide_eq_false (fun e=>HE.out (by rw [<- HN.out.1,<- HN.out.2,e]))]),Ext.refl _ _⟩
def ex4V:List VarV:=[⟨0,3,false,false,2⟩,⟨1,0,true,false,-1⟩]
def ex4T:List TermV:=[⟨0,1⟩,⟨1,-2⟩]
def ex4R:RowV:=⟨⟨#[114]⟩,4,0,ex4T,-2⟩
def ex4:ProgV:=⟨ex4V,[ex4R]⟩
def ex4X:List Rat:=listTo 2 (qOf [0,1])
theorem example4_any (w:World):Calls Tryz.prog 13 #[] w (PrgPost w ex4):=by
 have hx:=Ext.refl (fun _=>False) w
 go_enter Tryz.func13,Tryz.ntmps13
 go_wp2
 (try simp only [Exit.inBlock,Exit.then])
 obtain ⟨bs,hbs⟩:∃ bs,w.heap.size=bs:=⟨_,rfl⟩
 have hx4:=(((hx.alloc (.cells #[.slice (some ⟨w.heap.size+1,0,none⟩) 2 2,.slice (some ⟨w.heap.size+1+1+1,0,none⟩) 1 1] 25)).alloc (.cells #[.int .i64 0,.int .i64 3,.bool false,.bool false,.int .i64 2,.int .i64 1,.int .i64 0,.bool true,.bool false,.int .i64 (-1)] 60)).alloc (.cells #[.int .i64 0,.int .i64 1,.int .i64 1,.int .i64 (-2)] 63)).alloc (.cells #[.string ⟨#[114]⟩,.int .i64 4,.int .i64 0,.slice (some ⟨w.heap.size+1+1,0,none⟩) 2 2,.int .i64 (-2)] 53)
 obtain ⟨W,hW⟩:∃ W,(((w.alloc (.cells #[.slice (some ⟨w.heap.size+1,0,none⟩) 2 2,.slice (some ⟨w.heap.size+1+1+1,0,none⟩) 1 1] 25)).alloc (.cells #[.int .i64 0,.int .i64 3,.bool false,.bool false,.int .i64 2,.int .i64 1,.int .i64 0,.bool true,.bool false,.int .i64 (-1)] 60)).alloc (.cells #[.int .i64 0,.int .i64 1,.int .i64 1,.int .i64 (-2)] 63)).alloc (.cells #[.string ⟨#[114]⟩,.int .i64 4,.int .i64 0,.slice (some ⟨w.heap.size+1+1,0,none⟩) 2 2,.int .i64 (-2)] 53)=W:=⟨_,rfl⟩
 have b0:blk W w.heap.size=some (.cells #[.slice (some ⟨w.heap.size+1,0,none⟩) 2 2,.slice (some ⟨w.heap.size+1+1+1,0,none⟩) 1 1] 25 (0,0)):=by
  rw [<- hW]
  refine (blk_alloc_past _ _ _ (by simp [World.size_alloc] <;> omega)).trans ((blk_alloc_past _ _ _ (by simp [World.size_alloc] <;> omega)).trans ((blk_alloc_past _ _ _ (by simp)).trans (blk_alloc_at _ _)))
 have b1:blk W (w.heap.size+1)=some (.cells #[.int .i64 0,.int .i64 3,.bool false,.bool false,.int .i64 2,.int .i64 1,.int .i64 0,.bool true,.bool false,.int .i64 (-1)] 60 (0,0)):=by
  rw [<- hW]
  refine (blk_alloc_past _ _ _ (by simp [World.size_alloc] <;> omega)).trans ((blk_alloc_past _ _ _ (by simp [World.size_alloc] <;> omega)).trans (blk_alloc_at' _ _ _ (by simp [World.size_alloc])))
 have b2:blk W (w.heap.size+1+1)=some (.cells #[.int .i64 0,.int .i64 1,.int .i64 1,.int .i64 (-2)] 63 (0,0)):=by
  rw [<- hW]
  refine (blk_alloc_past _ _ _ (by simp [World.size_alloc] <;> omega)).trans (blk_alloc_at' _ _ _ (by simp [World.size_alloc]))
 have b3:blk W (w.heap.size+1+1+1)=some (.cells #[.string ⟨#[114]⟩,.int .i64 4,.int .i64 0,.slice (some ⟨w.heap.size+1+1,0,none⟩) 2 2,.int .i64 (-2)] 53 (0,0)):=by
  rw [<- hW]
  exact blk_alloc_at' _ _ _ (by simp [World.size_alloc])
 rw [hW] at hx4 ⊢
 have hs:w.heap.size+1+1+1<W.heap.size:=blk_lt b3
 clear hW
 rw [hbs] at b0 b1 b2 b3 hs ⊢
 refine bodyPost_ret (results_cell_row rfl _ W bs 25 _ (0,0) _ rfl b0 Tryz.underlying25 rfl (by kernel_rfl)) rfl ?_
 refine ⟨_,rfl,⟨_,_,rfl,⟨⟨_,_,rfl,Nat.le_refl _,(by unfold maxLen; decide),(fun e=>by cases e),fun _=>⟨bs+1,0,rfl,by omega,?_⟩⟩,?_⟩,⟨[.slice (some ⟨bs+1+1,0,none⟩) 2 2],rfl,⟨_,_,rfl,Nat.le_refl _,(by unfold maxLen; decide),(fun e=>by cases e),fun _=>⟨bs+1+1+1,0,rfl,by omega,?_⟩⟩,?_⟩⟩,hx4⟩
 ·intro i r hi j u hu
  match i,hi with
  | 0,hi=>cases hi; match j,hu with
   | 0,hu=>cases hu; exact cellq b1 0 rfl
   | 1,hu=>cases hu; exact cellq b1 1 rfl
   | 2,hu=>cases hu; exact cellq b1 2 rfl
   | 3,hu=>cases hu; exact cellq b1 3 rfl
   | 4,hu=>cases hu; exact cellq b1 4 rfl
  | 1,hi=>cases hi; match j,hu with
   | 0,hu=>cases hu; exact cellq b1 5 rfl
   | 1,hu=>cases hu; exact cellq b1 6 rfl
   | 2,hu=>cases hu; exact cellq b1 7 rfl
   | 3,hu=>cases hu; exact cellq b1 8 rfl
   | 4,hu=>cases hu; exact cellq b1 9 rfl
 ·intro x hx
  simp [ex4,ex4V] at hx
  rcases hx with rfl | rfl <;> exact ⟨by unfold InR; decide,by unfold InR; decide,by unfold InR; decide⟩
 ·intro i r hi j u hu
  match i,hi with
  | 0,hi=>cases hi; match j,hu with
   | 0,hu=>cases hu; exact cellq b3 0 rfl
   | 1,hu=>cases hu; exact cellq b3 1 rfl
   | 2,hu=>cases hu; exact cellq b3 2 rfl
   | 3,hu=>cases hu; exact cellq b3 3 rfl
   | 4,hu=>cases hu; exact cellq b3 4 rfl
 ·intro i r tv hr ht
  match i,hr,ht with
  | 0,hr,ht =>
   cases hr; cases ht
   refine ⟨⟨⟨_,_,rfl,Nat.le_refl _,(by unfold maxLen; decide),(fun e=>by cases e),fun _=>⟨bs+1+1,0,rfl,by omega,?_⟩⟩,?_⟩,⟨(by show (1:Nat)<=maxLen; unfold maxLen; decide),by unfold InR; decide,by unfold InR; decide,by unfold InR; decide⟩⟩
   ·intro i r hi j u hu
    match i,hi with
    | 0,hi=>cases hi; match j,hu with
     | 0,hu=>cases hu; exact cellq b2 0 rfl
     | 1,hu=>cases hu; exact cellq b2 1 rfl
    | 1,hi=>cases hi; match j,hu with
     | 0,hu=>cases hu; exact cellq b2 2 rfl
     | 1,hu=>cases hu; exact cellq b2 3 rfl
   ·intro x hx
    have hx:x ∈ ex4T:=hx; simp [ex4T] at hx
    rcases hx with rfl | rfl <;> exact ⟨by unfold InR; decide,by unfold InR; decide⟩
theorem numT_1 {k:Nat} (h:k<10):numT k=⟨#[UInt8.ofNat (48+k)]⟩:=by
 unfold numT
 rw [Lib.itoa_nonneg,Lib.decDigits_one h]
theorem numT_m {k:Nat} (h:k<10) (h1:1<=k):numT (-(k:Int))=⟨#[45,UInt8.ofNat (48+k)]⟩:=by
 unfold numT
 rw [Lib.itoa_neg k h1,Lib.decDigits_one h]
theorem ex4_valid:validB ex4=true:=by decide +kernel
theorem ex4_viol:violQ ex4 ex4X=[]:=by decide +kernel
theorem ex4_in:insideB ex4 ex4X=true:=by decide +kernel
theorem ex4_dot:dotQ ex4T ex4X=((-2:Int):Rat):=by decide +kernel
def ex4L:List ByteArray:=[⟨#[120,48,32,105,110,32,91,48,44,32,51,93,32,114,101,97,108,32,99,111,115,116,32,50]⟩,⟨#[120,49,32,105,110,32,91,49,44,32,111,112,101,110,41,32,114,101,97,108,32,99,111,115,116,32,45,49]⟩,⟨#[114,32,40,52,41,58,32,120,48,32,45,32,50,32,120,49,32,60,61,32,45,50]⟩]
theorem ex4_fmt:fmtT ex4=ex4L:=by
 have n0:=numT_1 (k:=0) (by decide)
 have n1:=numT_1 (k:=1) (by decide)
 have n2:=numT_1 (k:=2) (by decide)
 have n3:=numT_1 (k:=3) (by decide)
 have n4:=numT_1 (k:=4) (by decide)
 have m1:=numT_m (k:=1) (by decide) (by decide)
 have m2:=numT_m (k:=2) (by decide) (by decide)
 have v0:varT 0 ⟨0,3,false,false,2⟩=ex4L.getD 0 ⟨#[]⟩:=by
  show ⟨#[120]⟩++numT (0:Nat)++⟨#[32,105,110,32,91]⟩++numT (0:Nat)++⟨#[44,32]⟩++(numT (3:Nat)++⟨#[93]⟩)++⟨#[32]⟩++⟨#[114,101,97,108]⟩++⟨#[32,99,111,115,116,32]⟩++numT (2:Nat)=_
  rw [n0,n3,n2]
  decide +kernel
 have v1:varT 1 ⟨1,0,true,false,-1⟩=ex4L.getD 1 ⟨#[]⟩:=by
  show ⟨#[120]⟩++numT (1:Nat)++⟨#[32,105,110,32,91]⟩++numT (1:Nat)++⟨#[44,32]⟩++⟨#[111,112,101,110,41]⟩++⟨#[32]⟩++⟨#[114,101,97,108]⟩++⟨#[32,99,111,115,116,32]⟩++numT (-((1:Nat):Int))=_
  rw [n1,m1]
  decide +kernel
 have t0:termT 0 ⟨0,1⟩=⟨#[120,48]⟩:=by
  show ⟨#[120]⟩++numT (0:Nat)=_
  rw [n0]
  decide +kernel
 have t1:termT 1 ⟨1,-2⟩=⟨#[45,32,50,32,120,49]⟩:=by
  show ⟨#[45,32]⟩++(numT (2:Nat)++⟨#[32]⟩++(⟨#[120]⟩++numT (1:Nat)))=_
  rw [n2,n1]
  decide +kernel
 have tt:termsT ex4T=⟨#[120,48,32,45,32,50,32,120,49]⟩:=by
  have hp:partsT ex4T ex4T.length=[termT 0 ⟨0,1⟩,termT 1 ⟨1,-2⟩]:=rfl
  unfold termsT
  rw [if_neg (by unfold ex4T; simp),hp,t0,t1]
  decide +kernel
 have r0:rowT ex4R=ex4L.getD 2 ⟨#[]⟩:=by
  show (⟨#[114]⟩:ByteArray)++⟨#[32,40]⟩++numT (4:Nat)++⟨#[41,58,32]⟩++termsT ex4T++⟨#[32]⟩++⟨#[60,61]⟩++⟨#[32]⟩++numT (-((2:Nat):Int))=_
  rw [n4,tt,m2]
  decide +kernel
 have e:fmtT ex4=[varT 0 ⟨0,3,false,false,2⟩,varT 1 ⟨1,0,true,false,-1⟩,rowT ex4R]:=by
  unfold fmtT
  rw [ex4_valid]
  rfl
 rw [e,v0,v1,r0]
 rfl
theorem ex4L_strs {w:World} {b:Nat} (h:blk w b=some (.cells #[.string (ex4L.getD 0 ⟨#[]⟩),.string (ex4L.getD 1 ⟨#[]⟩),.string (ex4L.getD 2 ⟨#[]⟩)] 9 (0,0))):Strs w (.slice (some ⟨b,0,none⟩) 3 3) ex4L:=by
 refine ⟨some ⟨b,0,none⟩,3,rfl,Nat.le_refl _,by unfold maxLen; decide,(fun e=>by cases e),fun _=>⟨b,0,rfl,blk_lt h,fun i r hi j u hu=>?_⟩⟩
 match i,hi with
 | 0,hi=>cases hi; match j,hu with
  | 0,hu=>cases hu; exact cellq h 0 rfl
 | 1,hi=>cases hi; match j,hu with
  | 0,hu=>cases hu; exact cellq h 1 rfl
 | 2,hi=>cases hi; match j,hu with
  | 0,hu=>cases hu; exact cellq h 2 rfl
theorem awake4_any (w:World) (ht:Tab10 w):Calls Tryz.prog 4 #[] w (BoolPost w true):=by
 have HTb:=bH (fun W (hW:XF w W)=>ht.keep hW)
 clear ht
 have HEx:=bH (fun W=>example4_any W)
 have hIx:∀ x ∈ [(0:Int),1],InR x:=fun x hx=>by
  simp at hx
  rcases hx with rfl | rfl <;> exact ⟨by decide,by decide⟩
 have HIn:=bH (fun W b (hc:∀ i,i<2->W.cell? ⟨b,i,none⟩=some (.int .i64 ([(0:Int),1].getD i 0)))=>show Calls Tryz.prog 14 #[.slice (some ⟨b,0,none⟩) 2 2] W (RatsPost W ex4X 2) from Ints_any W b 2 [0,1] 2 hc hIx (by decide) (by decide))
 clear hIx
 go_enter Tryz.func4,Tryz.ntmps4
 go_upto_region 2 with (go_at_call 13; refine (HEx.out _).mono ?_; rintro q1 w1 ⟨v1,rfl,hp1,hx1⟩; obtain ⟨vo,vn,vc,ro,rn,rc,rfl⟩:=hp1.slices5)
 have hlen:vn=2/\rn=1:=by
  obtain ⟨vv,rv,e,h,h2⟩:=hp1
  cases e
  obtain ⟨_,_,e,_⟩:=h.shape
  obtain ⟨_,_,e2,_⟩:=h2.shape
  cases e; cases e2
  exact ⟨rfl,rfl⟩
 obtain ⟨rfl,rfl⟩:=hlen
 have hxa:=(Ext.refl (fun _=>False) w1).alloc (.cells #[.slice vo 2 vc,.slice ro 1 rc] 25)
 have HP:=bH (bI (hp1.keep hxa) (bI (blk_alloc_at w1 (.cells #[.slice vo 2 vc,.slice ro 1 rc] 25)) (hx1.trans hxa)))
 clear hp1 hx1 hxa
 generalize w1.alloc (.cells #[.slice vo 2 vc,.slice ro 1 rc] 25)=w2 at *
 generalize w1.heap.size=pb at *
 have hxb:=(Ext.refl (fun _=>False) w2).alloc (.cells #[.int .i64 0,.int .i64 1] 2)
 have HI2:=bH (HIn.out (w2.alloc (.cells #[.int .i64 0,.int .i64 1] 2)) w2.heap.size (fun i hi=>by
  match i,hi with
  | 0,_=>exact cellq (blk_alloc_at w2 (.cells #[.int .i64 0,.int .i64 1] 2)) 0 rfl
  | 1,_=>exact cellq (blk_alloc_at w2 (.cells #[.int .i64 0,.int .i64 1] 2)) 1 rfl))
 go_upto_region 3 with (go_at_call 14; refine HI2.out.mono ?_; rintro q3 w3 ⟨v3,rfl,hr3,hx3⟩; obtain ⟨xo,xc,rfl,-⟩:=hr3.shape)
 have HX:=bH (bI (HP.out.1.keep (hxb.trans hx3)) (bI (blk_keep HP.out.2.1 (hxb.trans hx3)) (bI (HP.out.2.2.trans (hxb.trans hx3)) hr3)))
 clear hxb hx3 hr3 HI2 HP HIn HEx
 rw [show ex4X.length=2 from rfl] at HX ⊢
 have HVa:=bH (fun W (hW:XF w3 W)=>show Calls Tryz.prog 15 #[.agg #[.slice vo 2 vc,.slice ro 1 rc]] W (BoolPost W true) from ex4_valid ▸ Valid_any W _ ex4 (HX.out.1.keep hW))
 have HVi:=bH (fun W (hW:XF w3 W)=>Violated_any W _ _ ex4 ex4X 2 2 (HX.out.1.keep hW) (HX.out.2.2.2.keep hW) (by decide) (fun i hi=>by
  match i,hi with
  | 0,_=>decide) (by decide) (by decide))
 rw [ex4_viol] at HVi
 have HIs:=bH (fun W (hW:XF w3 W)=>show Calls Tryz.prog 17 #[.agg #[.slice vo 2 vc,.slice ro 1 rc],.slice xo 2 xc] W (BoolPost W true) from ex4_in ▸ Inside_any W _ _ ex4 ex4X 2 (HX.out.1.keep hW) (HX.out.2.2.2.keep hW) (by decide) (by decide))
 have HFm:=bH (fun W (hW:XF w3 W)=>show Calls Tryz.prog 22 #[.agg #[.slice vo 2 vc,.slice ro 1 rc]] W (StrsPost W ex4L) from ex4_fmt ▸ Format_any W _ ex4 (HX.out.1.keep hW) (HTb.out W (HX.out.2.2.1.trans hW)) (fun i hi=>by
  match i,hi with
  | 0,_=>decide))
 have HFr:=bH (fun W=>Rrfrom_any W (-2) (by decide) (by decide))
 have hRw:Rws w3 (.slice ro 1 rc) ex4.rows:=by
  obtain ⟨vv,rv,e,h,h2⟩:=HX.out.1
  cases e
  exact h2
 obtain ⟨b,off,ta,tc,rfl,hlt,e0,e1,e2,e3,e4,hok,hT⟩:=hRw.atp (p:=ex4) 0 (by decide)
 have hT2:Tms w3 (.slice ta 2 tc) ex4T:=hT
 have HDo:=bH (fun W (hW:XF w3 W)=>show Calls Tryz.prog 19 #[.slice ta 2 tc,.slice xo 2 xc] W (RatPost W ((-2:Int):Rat)) from ex4_dot ▸ Dot_any W _ _ ex4T ex4X 2 (hT2.keep hW) (HX.out.2.2.2.keep hW) (by decide) (by decide))
 have HSm:=bH (fun W u v (hu:IsRat W u ((-2:Int):Rat)) (hv:IsRat W v ((-2:Int):Rat))=>show Calls Tryz.prog 18 #[u,v] W (BoolPost W true) from by
  have h:=Rrsame_any W u v _ _ 2 hu hv (Sz.int (k:=-2) ⟨by decide,by decide⟩) (Sz.int (k:=-2) ⟨by decide,by decide⟩) (by decide)
  rw [decide_eq_true rfl] at h
  exact h)
 have HLi:=bH (fun W u b (hu:Strs W u ex4L) (hv:blk W b=some (.cells #[.string (ex4L.getD 0 ⟨#[]⟩),.string (ex4L.getD 1 ⟨#[]⟩),.string (ex4L.getD 2 ⟨#[]⟩)] 9 (0,0)))=>show Calls Tryz.prog 21 #[u,.slice (some ⟨b,0,none⟩) 3 3] W (BoolPost W true) from by
  have h:=Lines_any W u _ ex4L ex4L hu (ex4L_strs hv)
  rw [decide_eq_true rfl] at h
  exact h)
 have r3:w3.cell? ⟨b,off+3,none⟩=some (.slice ta 2 tc):=by have h:=e3; rw [show off+0*5+3=off+3 by omega] at h; exact h
 have p0:=cellq HX.out.2.1 0 rfl
 have p1:=cellq HX.out.2.1 1 rfl
 clear e0 e1 e2 e3 e4 hok hT hT2 hRw hlt
 go_wp2_with (first | (go_at_call 15; refine (HVa.out _ (Ext.refl _ _)).mono ?_; rintro q4 w4 ⟨rfl,hx4⟩; replace p0:=cell_keep p0 hx4; replace p1:=cell_keep p1 hx4; replace r3:=cell_keep r3 hx4) | (go_at_call 16; refine (HVi.out _ hx4).mono ?_; rintro q5 w5 ⟨v5,rfl,hn5,hx5⟩; obtain ⟨qo,qc,rfl⟩:=hn5.shape; have hX5:=hx4.trans hx5; replace p0:=cell_keep p0 hx5; replace p1:=cell_keep p1 hx5; replace r3:=cell_keep r3 hx5) | (go_at_call 17; refine (HIs.out _ hX5).mono ?_; rintro q6 w6 ⟨rfl,hx6⟩; have hX6:=hX5.trans hx6; replace p0:=cell_keep p0 hx6; replace p1:=cell_keep p1 hx6; replace r3:=cell_keep r3 hx6) | (go_at_call 19; refine (HDo.out _ hX6).mono ?_; rintro q7 w7 ⟨v7,rfl,h7,hx7⟩; obtain ⟨n7,a7,l7,c7,a7',l7',c7',rfl⟩:=h7.shape; have hX7:=hX6.trans hx7; replace p0:=cell_keep p0 hx7; replace p1:=cell_keep p1 hx7; replace r3:=cell_keep r3 hx7) | (go_at_call 20; refine (HFr.out _).mono ?_; rintro q8 w8 ⟨v8,rfl,h8,hx8⟩; obtain ⟨n8,a8,l8,c8,a8',l8',c8',rfl⟩:=h8.shape; have hX8:=hX7.trans hx8; replace p0:=cell_keep p0 hx8; replace p1:=cell_keep p1 hx8; replace r3:=cell_keep r3 hx8) | (go_at_call 18; refine (HSm.out _ _ _ (h7.keep hx8) h8).mono ?_; rintro q9 w9 ⟨rfl,hx9⟩; have hX9:=hX8.trans hx9; replace p0:=cell_keep p0 hx9; replace p1:=cell_keep p1 hx9; replace r3:=cell_keep r3 hx9) | (go_at_call 22; refine (HFm.out _ hX9).mono ?_; rintro q10 w10 ⟨v10,rfl,hs10,hx10⟩; obtain ⟨fo,fc,rfl,-⟩:=hs10.shape; have hX10:=hX9.trans hx10) | (go_at_call 21; refine (HLi.out _ _ _ (hs10.keep ((Ext.refl (fun _=>False) w10).alloc _)) (blk_alloc_at w10 _)).mono ?_; rintro q11 w11 ⟨rfl,hx11⟩))
 go_ret
 exact ⟨rfl,HX.out.2.2.1.trans ((hX10.trans ((Ext.refl (fun _=>False) w10).alloc _)).trans hx11)⟩
def GrpPost (w:World) (p:ProgV) (r:Ending) (w':World):Prop:=∃ v,r=.returned v/\Inz w' v (groupsP p)/\XF w w'
theorem few_parts68 {p:ProgV} (h:fewP p 6 8=true):(∀ i,i<p.rows.length->(p.r i).terms.length<=12)/\p.vars.length<=6/\p.rows.length<=8:=by
 unfold fewP at h
 simp only [Bool.and_eq_true,decide_eq_true_eq,List.all_eq_true] at h
 refine ⟨fun i hi=>?_,h.1.2,h.2⟩
 have hm:p.r i ∈ p.rows:=by
  unfold ProgV.r
  rw [getD_lt hi]; exact List.getElem_mem hi
 have:=h.1.1 _ hm
 unfold fewRow at this
 simp only [Bool.and_eq_true,decide_eq_true_eq] at this
 omega
theorem lgroups_core (hGl:∀ W pv p,IsPrg W pv p->p.rows.length<=8->Calls Tryz.prog 8 #[pv] W (GrpPost W p)) (hGr:∀ W pv p,IsPrg W pv p->p.rows.length<=8->Calls Tryz.prog 9 #[pv] W (GrpPost W p))
  (w:World) (pv dv:Value) (p:ProgV) (d:List Int) (hp:IsPrg w pv p) (hd:Inz w dv d) (ht:Tab10 w):Calls Tryz.prog 3 #[pv,dv] w (BoolPost w true):=by
 obtain ⟨dq,dc,rfl,-⟩:=hd.shape
 obtain ⟨dn,hdn⟩:∃ n,d.length=n:=⟨_,rfl⟩
 rw [hdn] at hd ⊢
 clear hdn
 have HDw:=bH hd
 clear hd
 have HGL:=bH hGl
 have HGR:=bH hGr
 clear hGl hGr
 obtain ⟨vo,vn,vc,ro,rn,rc,rfl⟩:=hp.slicesP
 have HLn:=bH (show p.vars.length=vn/\p.rows.length=rn from by
  obtain ⟨vv,rv,e,h,h2⟩:=hp
  cases e
  obtain ⟨_,_,e,_⟩:=h.shape
  obtain ⟨_,_,e2,_⟩:=h2.shape
  cases e; cases e2
  exact ⟨rfl,rfl⟩)
 have hxa:=(Ext.refl (fun _=>False) w).alloc (.cells #[.slice vo vn vc,.slice ro rn rc] 25)
 have HB:=bH (bI (hp.keep hxa) (bI (blk_alloc_at w (.cells #[.slice vo vn vc,.slice ro rn rc] 25)) hxa))
 have HTb:=bH (fun W (hW:XF w W)=>ht.keep hW)
 clear hp hxa ht
 go_enter Tryz.func3,Tryz.ntmps3
 go_upto_region 1 with fail
 generalize w.alloc (.cells #[.slice vo vn vc,.slice ro rn rc] 25)=w1 at *
 obtain ⟨pb,hpb⟩:∃ q,w.heap.size=q:=⟨_,rfl⟩
 rw [hpb] at HB ⊢
 have HPb:=bH (Nat.le_of_eq hpb)
 clear hpb
 have p0:w1.cell? ⟨pb,0,none⟩=some (.slice vo vn vc):=cellq HB.out.2.1 0 rfl
 have p1:w1.cell? ⟨pb,1,none⟩=some (.slice ro rn rc):=cellq HB.out.2.1 1 rfl
 have HC0:=bH (fun W (hW:XF w1 W)=>show Calls Tryz.prog 5 #[(.agg #[.slice vo vn vc,.slice ro rn rc]),.int .i64 6,.int .i64 8] W (BoolPost W (fewP p 6 8)) from FewP_any W (.agg #[.slice vo vn vc,.slice ro rn rc]) p 6 8 (by decide) (by decide) (HB.out.1.keep hW))
 obtain ⟨b0,hb0⟩:∃ b,fewP p 6 8=b:=⟨_,rfl⟩
 rw [hb0] at HC0
 have HG0:=bH hb0
 clear hb0
 cases b0 with
 | false =>
  go_upto_region 2 with (first | (go_at_call 4; refine (awake4_any _ (HTb.out _ HB.out.2.2)).mono ?_; rintro q2 w2 ⟨rfl,hx2⟩; replace p0:=cell_keep p0 hx2; replace p1:=cell_keep p1 hx2) | (go_at_call 5; (with_reducible refine (HC0.out _ (hx2)).mono ?_); rintro q3 w3 ⟨rfl,hx3⟩; replace p0:=cell_keep p0 hx3; replace p1:=cell_keep p1 hx3))
  go_wp2_with (go_at_call 4; refine (awake4_any _ (HTb.out _ (HB.out.2.2.trans (hx2.trans hx3)))).mono ?_; rintro r8 w8 ⟨rfl,hx8⟩)
  go_ret
  exact ⟨rfl,(HB.out.2.2.trans (hx2.trans hx3)).trans hx8⟩
 | true =>
 by_cases hd8:8<dn
 ·have hd9:(8:Int)<(dn:Int):=by omega
  go_upto_region 2 with (first | (go_at_call 4; refine (awake4_any _ (HTb.out _ HB.out.2.2)).mono ?_; rintro q2 w2 ⟨rfl,hx2⟩; replace p0:=cell_keep p0 hx2; replace p1:=cell_keep p1 hx2) | (go_at_call 5; (with_reducible refine (HC0.out _ (hx2)).mono ?_); rintro q3 w3 ⟨rfl,hx3⟩; replace p0:=cell_keep p0 hx3; replace p1:=cell_keep p1 hx3))
  go_wp2_with (go_at_call 4; refine (awake4_any _ (HTb.out _ (HB.out.2.2.trans (hx2.trans hx3)))).mono ?_; rintro r8 w8 ⟨rfl,hx8⟩)
  go_ret
  exact ⟨rfl,(HB.out.2.2.trans (hx2.trans hx3)).trans hx8⟩
 have hd9:¬ (8:Int)<(dn:Int):=by omega
 go_upto_region 3 with (first | (go_at_call 4; refine (awake4_any _ (HTb.out _ HB.out.2.2)).mono ?_; rintro q2 w2 ⟨rfl,hx2⟩; replace p0:=cell_keep p0 hx2; replace p1:=cell_keep p1 hx2) | (go_at_call 5; (with_reducible refine (HC0.out _ (hx2)).mono ?_); rintro q3 w3 ⟨rfl,hx3⟩; replace p0:=cell_keep p0 hx3; replace p1:=cell_keep p1 hx3))
 have HX:=bH (hx2.trans hx3)
 clear hx2 hx3 HC0 hd8 hd9
 obtain ⟨hT,hn6,hm8⟩:=few_parts68 HG0.out
 have HSm0:=bH (bI hn6 (bI hm8 hT))
 clear hn6 hm8 hT
 have HWl:=bH (LWithout_any w3 (.agg #[.slice vo vn vc,.slice ro rn rc]) (.slice dq dn dc) p d (HB.out.1.keep HX.out) (HDw.out.keep (HB.out.2.2.trans HX.out)) (by have:=HSm0.out.1; omega) (by have:=HSm0.out.2.1; omega) (fun i hi=>by have:=HSm0.out.2.2 i hi; omega))
 go_upto_region 4 with (go_at_call 6; refine HWl.out.mono ?_; rintro q4 w4 ⟨v4,rfl,h4,hx4⟩; obtain ⟨xo,xn,xc,uo,un,uc,rfl⟩:=h4.slicesP)
 have hxa:=(Ext.refl (fun _=>False) w4).alloc (.cells #[.slice xo xn xc,.slice uo un uc] 25)
 have HQ:=bH (bI (h4.keep hxa) (bI (blk_alloc_at w4 (.cells #[.slice xo xn xc,.slice uo un uc] 25)) (HX.out.trans (hx4.trans hxa))))
 clear h4 hx4 hxa HWl p0 p1
 generalize w4.alloc (.cells #[.slice xo xn xc,.slice uo un uc] 25)=w5 at *
 generalize w4.heap.size=qb at *
 have hbl:=blk_keep HB.out.2.1 HQ.out.2.2
 have p0:=cqo (S:=fun _=>False) (cellq hbl 0 rfl) id
 have p1:=cqo (S:=fun _=>False) (cellq hbl 1 rfl) id
 have q0:=cqo (S:=fun _=>False) (cellq HQ.out.2.1 0 rfl) id
 have q1:=cqo (S:=fun _=>False) (cellq HQ.out.2.1 1 rfl) id
 clear hbl
 have HGl:=bH (fun W (hW:XF w5 W)=>HGL.out W (.agg #[.slice vo vn vc,.slice ro rn rc]) p (HB.out.1.keep (HQ.out.2.2.trans hW)) HSm0.out.2.1)
 have HGr:=bH (fun W (hW:XF w5 W)=>HGR.out W (.agg #[.slice vo vn vc,.slice ro rn rc]) p (HB.out.1.keep (HQ.out.2.2.trans hW)) HSm0.out.2.1)
 have HIe:=bH (fun W a b (ha:Inz W a (groupsP p)) (hb:Inz W b (groupsP p))=>show Calls Tryz.prog 7 #[a,b] W (BoolPost W true) from by have h:=Ints4_any W a b _ _ ha hb; rwa [decide_eq_true rfl] at h)
 have HWr:=bH (fun W (hW:XF w5 W)=>Without4_any W (.agg #[.slice vo vn vc,.slice ro rn rc]) (.slice dq dn dc) p d (HB.out.1.keep (HQ.out.2.2.trans hW)) (HDw.out.keep ((HB.out.2.2.trans HQ.out.2.2).trans hW)) (by have:=HSm0.out.1; omega) (by have:=HSm0.out.2.1; omega))
 have HSm:=bH (fun W b (hW:XF w5 W) (hb:IsPrg W b (withoutP p d))=>Same4_any W (.agg #[.slice xo xn xc,.slice uo un uc]) b (withoutP p d) (HQ.out.1.keep hW) hb)
 refine wp_region_held_drew (S:=(XF w5)) (by kernel_rfl) ((Ext.refl _ w5).drew) (fun hHeld=>?_)
 refine ht 0 (h:=(ht 2 (h:=?_)))
 (try go_frame)
 refine hst 1 (h:=fun K hK=>?_)
 (go_simp; go_at_call 8; (with_reducible refine (HGl.out _ hHeld).mono ?_); rintro q11 w11 ⟨v11,rfl,h11,hx11⟩; have hX11:=hHeld.trans hx11; obtain ⟨a11,c11,rfl,-⟩:=h11.shape)
 refine hK.out _ _ (hX11) (fun hHeld=>?_)
 clear hK K
 (try go_frame)
 refine hst 3 (h:=fun K hK=>?_)
 (go_simp; go_at_call 9; (with_reducible refine (HGr.out _ hX11).mono ?_); rintro q12 w12 ⟨v12,rfl,h12,hx12⟩; have hX12:=hX11.trans hx12; obtain ⟨a12,c12,rfl,-⟩:=h12.shape)
 refine hK.out _ _ (hX12) (fun hHeld=>?_)
 clear hK K
 (try go_frame)
 refine hst 4 (h:=fun K hK=>?_)
 (go_simp; go_at_call 7; (with_reducible refine (HIe.out _ _ _ (h11.keep hx12) h12).mono ?_); rintro q13 w13 ⟨rfl,hx13⟩; have hX13:=hX12.trans hx13)
 refine hK.out _ _ (hX13) (fun hHeld=>?_)
 clear hK K
 (try go_frame)
 refine ht 5 (h:=(ht 6 (h:=?_)))
 (try go_frame)
 refine ht 7 (h:=?_)
 (try go_frame)
 refine ht 8 (h:=?_)
 (try go_frame)
 refine ht 9 (h:=?_)
 (try go_frame)
 refine hst 10 (h:=fun K hK=>?_)
 (go_simp; go_at_call 11; (with_reducible refine (HWr.out _ hX13).mono ?_); rintro q14 w14 ⟨v14,rfl,h14,hx14⟩; have hX14:=hX13.trans hx14; obtain ⟨yo,yn,yc,zo,zn,zc,rfl⟩:=h14.slicesP)
 refine hK.out _ _ (hX14) (fun hHeld=>?_)
 clear hK K
 (try go_frame)
 refine hst 11 (h:=fun K hK=>?_)
 (go_simp; go_at_call 10; (with_reducible refine (HSm.out _ _ hX14 h14).mono ?_); rintro q15 w15 ⟨rfl,hx15⟩; have hX15:=hX14.trans hx15)
 refine hK.out _ _ (hX15) (fun hHeld=>?_)
 clear hK K
 (try go_frame)
 refine ht 12 (h:=(ht 13 (h:=?_)))
 (try go_frame)
 refine wpAnyH_done (by kernel_rfl) ?_ _
 have HX5:=bH hX15
 clear hX15 hx15 hX14 hx14 hX13 hx13 hX12 hx12 hX11 hx11 h11 h12 h14 hHeld
 obtain ⟨w6,rfl⟩:∃ x,x=w15:=⟨_,rfl⟩
 replace q0:=q0 _ HX5.out
 replace q1:=q1 _ HX5.out
 have HGq:=bH (HGL.out w6 (.agg #[.slice xo xn xc,.slice uo un uc]) (withoutP p d) (HQ.out.1.keep HX5.out) (Nat.le_trans (List.length_filter_le _ _) HSm0.out.2.1))
 go_upto_region 7 with (go_at_call 8; refine HGq.out.mono ?_; rintro q7 w7 ⟨v7,rfl,h7,hx7⟩; obtain ⟨ga,gc,rfl,hgm⟩:=h7.shape)
 have HZ:=bH (bI h7 (HX5.out.trans hx7))
 clear h7 hx7 HGq q0 q1 p0 p1 HWr HSm HIe HGr
 obtain ⟨gn,hgn⟩:∃ n,(groupsP (withoutP p d)).length=n:=⟨_,rfl⟩
 have HGn:=bH hgn
 rw [hgn] at HZ hgm ⊢
 clear hgn
 have hmax:maxLen<=9223372036854775807:=by unfold maxLen; decide
 go_wp2_with fail
 go_loopg [41,7] gn (fun gg v41 v7 wr=>∃ k:Nat,k<=gn/\gg=gn - k/\v41=.int .i64 k/\XF w7 wr)
 case atStart=>exact ⟨0,Nat.zero_le _,rfl,rfl,Ext.refl _ _⟩
 case round =>
  obtain ⟨k,hk,rfl,rfl,hx⟩:=hrel
  have HXr:=bH (HZ.out.2.trans hx)
  have HXk:=bH hx
  clear hx
  have hblr:=blk_keep HB.out.2.1 (HQ.out.2.2.trans HXr.out)
  have p0:=cellq hblr 0 rfl
  have p1:=cellq hblr 1 rfl
  by_cases hkn:k<gn
  ·have k0:(k:Int)<(gn:Int):=by omega
   have k1:(0:Int)<=(k:Int):=by omega
   have hkl:k<(groupsP (withoutP p d)).length:=by rw [HGn.out]; exact hkn
   obtain ⟨b1,o1,rfl,e0⟩:=(HZ.out.1.keep HXk.out).at_ (i:=k) hkl
   have HM:=bH (groups_without (p:=p) (d:=d) (g:=(groupsP (withoutP p d)).getD k 0) (by rw [getD_lt hkl]; exact List.getElem_mem _))
   generalize (groupsP (withoutP p d)).getD k 0=g at *
   clear hkl
   have HHd:=bH (fun W (hW:XF w5 W)=>show Calls Tryz.prog 12 #[.slice dq dn dc,.int .i64 g] W (BoolPost W false) from by have h:=Has_any W (.slice dq dn dc) d g (HDw.out.keep ((HB.out.2.2.trans HQ.out.2.2).trans hW)); rwa [decide_eq_false HM.out.1] at h)
   have HHg:=bH (fun W a (ha:Inz W a (groupsP p))=>show Calls Tryz.prog 12 #[a,.int .i64 g] W (BoolPost W true) from by have h:=Has_any W a _ g ha; rwa [decide_eq_true HM.out.2] at h)
   go_wp2_with (first | (go_at_call 12; (first | ((with_reducible refine (HHd.out _ HXr.out).mono ?_); rintro q21 w21 ⟨rfl,hx21⟩; replace p0:=cell_keep p0 hx21; replace p1:=cell_keep p1 hx21) | ((with_reducible refine (HHg.out _ _ h22).mono ?_); rintro q23 w23 ⟨rfl,hx23⟩))) | (go_at_call 8; (with_reducible refine (HGl.out _ (HXr.out.trans hx21)).mono ?_); rintro q22 w22 ⟨v22,rfl,h22,hx22⟩; obtain ⟨a22,c22,rfl,-⟩:=h22.shape))
   go_roundg (gn - (k+1))
   case measure=>omega
   case rel=>exact ⟨k+1,by omega,rfl,by go_num,HXk.out.trans ((hx21.trans hx22).trans hx23)⟩
  ·obtain rfl:gn=k:=by omega
   obtain ⟨wo,rfl⟩:∃ x,x=wr:=⟨_,rfl⟩
   replace p0:=cqo (S:=fun _=>False) p0 id
   replace p1:=cqo (S:=fun _=>False) p1 id
   have HWl:=bH (fun W (hW:XF wo W)=>show Calls Tryz.prog 6 #[(.agg #[.slice vo vn vc,.slice ro rn rc]),.slice none 0 0] W (fun r w'=>∃ v,r=.returned v/\IsPrg w' v p/\XF W w') from by
    have h:=LWithout_any W (.agg #[.slice vo vn vc,.slice ro rn rc]) (.slice none 0 0) p [] (HB.out.1.keep (HQ.out.2.2.trans (HXr.out.trans hW))) ⟨none,0,rfl,Nat.le_refl _,Nat.zero_le _,fun _=>rfl,fun h=>absurd h (by decide)⟩ (by have:=HSm0.out.1; omega) (by have:=HSm0.out.2.1; omega) (fun i hi=>by have:=HSm0.out.2.2 i hi; omega)
    rwa [without_nil] at h)
   have HSe:=bH (fun W a (hW:XF wo W) (ha:IsPrg W a p)=>Same4_any W a (.agg #[.slice vo vn vc,.slice ro rn rc]) p ha (HB.out.1.keep (HQ.out.2.2.trans (HXr.out.trans hW))))
   go_upto_region 12 with fail
   refine wp_region_held_drew (S:=(XF wo)) (by kernel_rfl) ((Ext.refl _ wo).drew) (fun hHeld=>?_)
   refine ht 0 (h:=(ht 2 (h:=?_)))
   (try go_frame)
   refine hst 1 (h:=fun K hK=>?_)
   (go_simp; go_at_call 6; (with_reducible refine (HWl.out _ hHeld).mono ?_); rintro q31 w31 ⟨v31,rfl,h31,hx31⟩; have hX31:=hHeld.trans hx31; obtain ⟨yo,yn,yc,zo,zn,zc,rfl⟩:=h31.slicesP)
   refine hK.out _ _ (hX31) (fun hHeld=>?_)
   clear hK K
   (try go_frame)
   refine hst 3 (h:=fun K hK=>?_)
   (go_simp; go_at_call 10; (with_reducible refine (HSe.out _ _ hX31 h31).mono ?_); rintro q32 w32 ⟨rfl,hx32⟩; have hX32:=hX31.trans hx32)
   refine hK.out _ _ (hX32) (fun hHeld=>?_)
   clear hK K
   (try go_frame)
   refine ht 4 (h:=?_)
   (try go_frame)
   refine wpAnyH_done (by kernel_rfl) ?_ _
   go_wp2
   go_ret
   exact ⟨rfl,((HB.out.2.2.trans HQ.out.2.2).trans HXr.out).trans hX32⟩
theorem cI_len (x:Int):(cI x).length=1:=rfl
theorem cI_one (x:Int):∀ u ∈ cI x,u.oneCell'=true:=fun u hu=>by
 rw [List.mem_singleton.1 hu]; rfl
theorem step_append_list {w:World} {ops:Array Oper} {o:Oper} {a:Act} {K:Act->World->Prop} {Q:Exit->Act->World->Prop} {E:Prop} {β:Type} {f:β->List Value} {T ts:TypeId} {z:Value} {size bytes:Nat} {l:List β} (hgd:o.guard=none) (s x:Operand)
  (ho:o.op=.call { callee:=.builtin .append,args:=#[s,x],argTypes:=#[ts,ts] }) (hf:∀ x,(f x).length=size) (l2:List β) (h1:∀ x ∈ l2,∀ u ∈ f x,u.oneCell'=true) (ht:Tryz.prog.underlying ts=some (.slice T)) (hi:(Tryz.prog.info? T).map (fun i=>(i.zero,i.size,i.bytes))=some (some z,size,bytes)) (hz:z.cells.size=size) (hsz:0<size) (hbs:bytes<=1000)
  (base:Nat) (v:Value) (hs:a.eval s=v) (hown:w.ownsRow base T size v l.length (l.flatMap f)) (ao:Option Addr) (n c:Nat) (hx:a.eval x=.slice ao n c) (hsl:Sl w (.slice ao n c) size (l2.map f)) (hl:l.length+l2.length<=1000) (hbase:base<=w.heap.size)
  (h:∀ v' w',w'.ownsRow base T size v' (l++l2).length ((l++l2).flatMap f)->Ext (fun k=>v.ownBlock=some k) w w'->(v'.ownBlock=v.ownBlock∨v'.ownBlock=some w.heap.size)->K (a.put o.dst v') w') :
  if Region.wanted o (yielded ops a.tmps)=true then Oper.wp Tryz.prog o a w K Q else E:=by
 obtain ⟨i0,hi0,hz0,hz1,hz2⟩:=info_parts hi
 obtain ⟨rfl,hc,hnews⟩:=sl_lies hsz hf hsl
 refine step_append_any hgd s x ts ho base T i0 z size bytes ht hi0 hz0 hz1 hz2 hz hsz v l.length (l.flatMap f) hs hown ao l2.length c hc (l2.flatMap f) hx (fm_length hf l2) hnews (fun u hu=>?_) (by unfold maxLen; omega) (Nat.le_trans (Nat.mul_le_mul hl hbs) (by decide)) hbase (fun v' w' g1 g2 g3=>h v' w' ?_ ?_ g3)
 ·obtain ⟨x,hm,hu⟩:=List.mem_flatMap.1 hu
  exact h1 x hm u hu
 ·rw [List.length_append,List.flatMap_append]
  exact g1
 ·exact (Ext.refl (fun k=>v.ownBlock=some k) w).grown g2 (fun k hk _=>hk)
structure InsSt (w0 w:World) (B:Nat) (v:Value) (l:List Int):Prop where
 base:w0.heap.size=B
 ext:XF w0 w
 own:w.ownsRow B 3 1 v l.length (l.flatMap cI)
section
variable {w0 w w':World} {B:Nat} {v v':Value} {l l':List Int}
theorem InsSt.low (h:InsSt w0 w B v l):B<=w.heap.size:=by rw [<- h.base]; exact h.ext.size
theorem InsSt.lt (h:InsSt w0 w B v l):∀ g,v.ownBlock=some g->g<w.heap.size:=fun g e=>(World.ownsRow.lt h.own g e).2
theorem InsSt.new {s:Nat} (hB:w0.heap.size=B) (hx:XF w0 w) (hb:blk w s=some (.cells #[] 3 (0,0))) (hs:w0.heap.size<=s):InsSt w0 w B (.slice (some ⟨s,0,none⟩) 0 0) [] :=
 ⟨hB,hx,ownsRow_empty 1 (by rw [<- hB]; exact hs) hb⟩
theorem InsSt.keep (h:InsSt w0 w B v l) (hx:XF w w'):InsSt w0 w' B v l:=⟨h.base,h.ext.trans hx,ownsRow_ext h.own hx (fun _ _ e=>e)⟩
theorem InsSt.app (h:InsSt w0 w B v l) (g1:w'.ownsRow B 3 1 v' l'.length (l'.flatMap cI)) (g2:Ext (fun k=>v.ownBlock=some k) w w'):InsSt w0 w' B v' l' :=
 ⟨h.base,h.ext.own g2 (fun k e=>by rw [h.base]; exact (World.ownsRow.lt h.own k e).1),g1⟩
theorem InsSt.inz (h:InsSt w0 w B v l):Inz w v l:=own_sl cI_len h.own
theorem InsSt.shape (h:InsSt w0 w B v l) (hl:0<l.length):∃ b c,v=.slice (some ⟨b,0,none⟩) l.length c:=by
 rcases h.own.2 with ⟨_,h0⟩ | ⟨g,cap,cur,rfl,_⟩
 ·omega
 ·exact ⟨g,cap,rfl⟩
end
theorem cells_one {w:World} {s:Nat} {g:Int} (h:blk w s=some (.cells #[.int .i64 g] 3 (0,0))):∀ j u,(cI g)[j]?=some u->w.cell? ((⟨s,0,none⟩:Addr).add j)=some u:=fun j u hu=>by
 match j,hu with
 | 0,hu=>cases hu; exact cellq h 0 rfl
 | j+1,hu=>simp [cI] at hu
theorem Inz.cap {w:World} {ao:Option Addr} {n c:Nat} {l:List Int} (h:Inz w (.slice ao n c) l):l.length=n/\n<=c/\c<=maxLen:=by
 obtain ⟨ao',c',e,h1,h2,h3,h4⟩:=h
 cases e
 rw [List.length_map] at h1 ⊢
 exact ⟨rfl,h1,h2⟩
theorem Inz.nil {w:World} {ao:Option Addr} {c:Nat} (hc:c<=maxLen) (h0:ao=none->c=0):Inz w (.slice ao 0 c) []:=⟨ao,c,rfl,Nat.zero_le _,hc,h0,fun h=>absurd h (Nat.lt_irrefl 0)⟩
theorem Inz.dropIf {w:World} {b n c:Nat} {l:List Int} (h:Inz w (.slice (some ⟨b,0,none⟩) n c) l) {k:Nat} (hk:k<=n):Inz w (.slice (if c=k then some ⟨b,0,none⟩ else some ⟨b,k,none⟩) (n - k) (c - k)) (l.drop k):=by
 have ⟨h1,h2,h3⟩:=h.cap
 by_cases e:c=k
 ·rw [if_pos e,List.drop_eq_nil_of_le (by omega),show n - k=0 by omega]
  exact Inz.nil (by omega) (fun e=>by cases e)
 ·rw [if_neg e]
  have:=h.drop hk
  rwa [Nat.zero_add] at this
theorem insG_at:∀ {l:List Int} {k:Nat} {g:Int},k<=l.length->(∀ i,i<k->l.getD i 0<g)->(k<l.length->¬ l.getD k 0<g)->insG l g=l.take k++[g]++l.drop k
 | [],k,g,hk,_,_=>by simp [insG]
 | y :: l,0,g,_,_,h=>by
  have h0:¬ y<g:=h (Nat.succ_pos _)
  rw [insG_cons,if_neg h0]; rfl
 | y :: l,k+1,g,hk,h1,h2=>by
  have h0:y<g:=h1 0 (Nat.succ_pos _)
  rw [insG_cons,if_pos h0,insG_at (k:=k) (Nat.le_of_succ_le_succ hk) (fun i hi=>h1 (i+1) (by omega)) (fun hi=>h2 (by simp only [List.length_cons]; omega))]
  rfl
theorem insG_length (l:List Int) (g:Int):(insG l g).length=l.length+1:=by
 unfold insG
 have h:=congrArg List.length (List.takeWhile_append_dropWhile (p:=fun x=>decide (x<g)) (l:=l))
 rw [List.length_append] at h ⊢
 rw [List.length_cons]; omega
theorem grp_snoc {p:ProgV} {i:Nat} (hi:i<p.rows.length):((p.rows.take (i+1)).map (·.group)).foldl grpF []=grpF (((p.rows.take i).map (·.group)).foldl grpF []) (p.r i).group:=by
 rw [List.take_succ_eq_append_getElem hi,List.map_append,List.foldl_append]
 unfold ProgV.r
 rw [getD_lt hi]; rfl
theorem Groups4_any (w:World) (pv:Value) (p:ProgV) (hp:IsPrg w pv p) (hm:p.rows.length<=8):Calls Tryz.prog 9 #[pv] w (GrpPost w p):=by
 obtain ⟨vo,vn,vc,ro,rn,rc,rfl⟩:=hp.slicesP
 obtain ⟨hvs,hrs,hl1,hl2⟩:=prg_parts hp
 rw [hl2] at hm
 have HLn:=bH hl2
 have HPw:=bH hrs
 clear hp hvs hrs hl1 hl2
 have hxa:=(Ext.refl (fun _=>False) w).alloc (.cells #[.slice vo vn vc,.slice ro rn rc] 25)
 have hxb:=(Ext.refl (fun _=>False) (w.alloc (.cells #[.slice vo vn vc,.slice ro rn rc] 25))).alloc (.cells #[] 3)
 have hb2:blk ((w.alloc (.cells #[.slice vo vn vc,.slice ro rn rc] 25)).alloc (.cells #[] 3)) (w.heap.size+1)=some (.cells #[] 3 (0,0)):=by
  have h:=blk_alloc_at (w.alloc (.cells #[.slice vo vn vc,.slice ro rn rc] 25)) (.cells #[] 3)
  rwa [World.size_alloc] at h
 have HB:=bH (bI (blk_keep (blk_alloc_at w (.cells #[.slice vo vn vc,.slice ro rn rc] 25)) hxb) (bI (show Inz ((w.alloc (.cells #[.slice vo vn vc,.slice ro rn rc] 25)).alloc (.cells #[] 3)) (.slice (some ⟨w.heap.size+1,0,none⟩) 0 0) [] from IRow.inz (base:=0) (ownsRow_empty 1 (Nat.zero_le _) hb2)) (hxa.trans hxb)))
 clear hxa hxb hb2
 go_enter Tryz.func9,Tryz.ntmps9
 go_upto_region 2 with fail
 generalize (w.alloc (.cells #[.slice vo vn vc,.slice ro rn rc] 25)).alloc (.cells #[] 3)=w1 at *
 obtain ⟨pb,hpb⟩:∃ q,w.heap.size=q:=⟨_,rfl⟩
 rw [hpb] at HB ⊢
 clear hpb
 have p1:=cellq HB.out.1 1 rfl
 go_wp2_with fail
 go_loopg [3,4] rn (fun gg v3 v4 wr=>∃ (i b n c:Nat) (l:List Int),i<=rn/\gg=rn - i/\v3=.slice (some ⟨b,0,none⟩) n c/\v4=.int .i64 i/\Inz wr (.slice (some ⟨b,0,none⟩) n c) l/\l.length=n/\l=((p.rows.take i).map (·.group)).foldl grpF []/\n<=i/\blk wr pb=some (.cells #[.slice vo vn vc,.slice ro rn rc] 25 (0,0))/\XF w wr)
 case atStart=>exact ⟨0,_,_,_,[],Nat.zero_le _,rfl,rfl,rfl,HB.out.2.1,rfl,rfl,Nat.le_refl _,HB.out.1,HB.out.2.2⟩
 case round =>
  clear p1 HB
  obtain ⟨i,b,n,c,l,hi,rfl,rfl,rfl,hz,hl,hf,hni,hbx,hx⟩:=hrel
  have HZ:=bH hz
  have HLl:=bH hl
  have HFl:=bH hf
  have HNi:=bH hni
  have HX:=bH (bI hbx hx)
  clear hz hl hf hni hbx hx
  have p1:=cellq HX.out.1 1 rfl
  by_cases hin:i<rn
  ·have i0:(i:Int)<(rn:Int):=by omega
   have i1:(0:Int)<=(i:Int):=by omega
   have hil:i<p.rows.length:=by rw [HLn.out]; exact hin
   obtain ⟨rb,off,ta,tc,rfl,hbw,e0,e1,e2,e3,e4,hok,hT⟩:=HPw.out.atp i hil
   have HFx:=bH (grp_snoc hil)
   rw [<- HFl.out] at HFx
   replace e1:=cell_keep e1 HX.out.2
   obtain ⟨g,hg⟩:∃ x,(p.r i).group=x:=⟨_,rfl⟩
   rw [hg] at e1 HFx
   clear hg e0 e2 e3 e4 hok hT hil hbw
   have HNs:=bH (show n<=900 from by have:=HNi.out; omega)
   have HHs:=bH (Has_any wr (.slice (some ⟨b,0,none⟩) n c) l g HZ.out)
   obtain ⟨M,hM⟩:∃ M,decide (g ∈ l)=M:=⟨_,rfl⟩
   rw [hM] at HHs
   have HM:=bH hM
   clear hM
   obtain ⟨K,hK⟩:∃ K:Bool,(decide (g=0) || M)=K:=⟨_,rfl⟩
   have HK:=bH hK
   clear hK
   go_upto_region 6 with fail
   go_cut [27] (fun v27 wx=>v27=.bool K/\XF wr wx)
   case first =>
    by_cases h0:g=0
    ·have HK2:=bH (show K=true from by rw [<- HK.out,decide_eq_true h0]; rfl)
     subst h0
     go_wp2
     go_meet
     exact ⟨by rw [HK2.out],Ext.refl _ _⟩
    ·have HK2:=bH (show K=M from by rw [<- HK.out,decide_eq_false h0]; rfl)
     have h2:(g == 0)=false:=by simpa using h0
     have h3:decide (g=0)=false:=by simpa using h0
     go_wp2_with (go_at_call 12; (with_reducible refine (HHs.out).mono ?_); rintro q3 w13 ⟨rfl,hx13⟩)
     go_meet
     exact ⟨by rw [HK2.out],hx13⟩
   case rest =>
   obtain ⟨rfl,hcx⟩:=hcut
   have HZ2:=bH (HZ.out.keep hcx)
   have HX2:=bH (bI (blk_keep HX.out.1 hcx) (HX.out.2.trans hcx))
   obtain ⟨wq,rfl⟩:∃ x,x=wc:=⟨_,rfl⟩
   clear hcx e1 p1 HHs HX HZ
   have HGr:=bH (show grpF l g=if K=true then l else insG l g from by
    unfold grpF
    have:K=true↔(g=0∨g ∈ l):=by rw [<- HK.out,<- HM.out]; simp
    by_cases h:K=true
    ·rw [if_pos h,if_pos (this.1 h)]
    ·rw [if_neg h,if_neg (fun e=>h (this.2 e))])
   rw [<- HFx.out] at HGr
   clear HFx HK HM HFl
   cases K with
   | true =>
    go_wp2
    go_roundg (rn - (i+1))
    case measure=>omega
    case rel=>exact ⟨i+1,b,n,c,l,by omega,rfl,rfl,by go_num,HZ2.out,HLl.out,by have:=HGr.out; simpa using this.symm,by have:=HNi.out; omega,HX2.out.1,HX2.out.2⟩
   | false =>
    replace HGr:=bH (HGr.out.trans (if_neg (by decide)))
    have n1:(n:Int)<=1000:=by have:=HNs.out; omega
    go_upto_region 7 with fail
    go_wp2_with fail
    go_loopg [6] n (fun gg v6 wr=>∃ k:Nat,k<=n/\gg=n - k/\v6=.int .i64 k/\(∀ i,i<k->l.getD i 0<g)/\wr=wq)
    case atStart=>exact ⟨0,Nat.zero_le _,rfl,rfl,fun i hi=>absurd hi (Nat.not_lt_zero i),rfl⟩
    case round =>
     obtain ⟨k,hkk,rfl,rfl,hall,rfl⟩:=hrel
     have HAl:=bH hall
     clear hall
     obtain ⟨C,hC⟩:∃ C:Bool,(decide (k<n) && decide (l.getD k 0<g))=C:=⟨_,rfl⟩
     have HC:=bH hC
     clear hC
     go_upto_region 8 with fail
     go_cut [39] (fun v39 wx=>v39=.bool C/\wx=wr)
     case first =>
      by_cases hkn:k<n
      ·have k0:(k:Int)<(n:Int):=by omega
       have k1:(0:Int)<=(k:Int):=by omega
       obtain ⟨b1,o1,e,e0⟩:=HZ2.out.at_ (i:=k) (by rw [HLl.out]; exact hkn)
       cases e
       rw [Nat.zero_add] at e0
       have HC2:=bH (show C=decide (l.getD k 0<g) from by rw [<- HC.out,decide_eq_true hkn]; rfl)
       generalize l.getD k 0=y at *
       by_cases hy:y<g
       ·have HC3:=bH (HC2.out.trans (decide_eq_true hy))
        go_wp2
        go_meet
        exact ⟨by rw [HC3.out],rfl⟩
       ·have HC3:=bH (HC2.out.trans (decide_eq_false hy))
        have h3:decide (y<g)=false:=by simpa using hy
        go_wp2
        go_meet
        exact ⟨by rw [HC3.out],rfl⟩
      ·have k0:¬ (k:Int)<(n:Int):=by omega
       have HC3:=bH (show C=false from by rw [<- HC.out,decide_eq_false hkn]; rfl)
       go_wp2
       go_meet
       exact ⟨by rw [HC3.out],rfl⟩
     case rest =>
     obtain ⟨rfl,rfl⟩:=hcut
     obtain ⟨wk,rfl⟩:∃ x,x=wc:=⟨_,rfl⟩
     cases C with
     | true =>
      have HC2:=bH (show k<n/\l.getD k 0<g from by simpa using HC.out)
      go_wp2
      go_roundg (n - (k+1))
      case measure=>have:=HC2.out.1; omega
      case rel=>exact ⟨k+1,by have:=HC2.out.1; omega,rfl,by go_num,fun i hi=>by
       by_cases e:i=k
       ·subst e; exact HC2.out.2
       ·exact HAl.out i (by omega),rfl⟩
     | false =>
      have HIn:=bH (insG_at (l:=l) (k:=k) (g:=g) (by rw [HLl.out]; exact hkk) HAl.out (fun h=>by
       have h2:k<n:=by rw [HLl.out] at h; exact h
       have h3:=HC.out
       rw [decide_eq_true h2] at h3
       simpa using h3))
      have HKn:=bH hkk
      have k2:k<=c:=Nat.le_trans hkk HZ2.out.cap.2.1
      have k0:(k:Int)<=(n:Int):=by omega
      have k1:(0:Int)<=(k:Int):=by omega
      obtain ⟨B,hB⟩:∃ q,wk.heap.size=q:=⟨_,rfl⟩
      have HBd:=bH hB
      clear hB HC HAl
      go_upto_region 10 with fail
      refine wp_region_held_drew (S:=(XF wk)) (by kernel_rfl) ((Ext.refl _ wk).drew) (fun hHeld=>?_)
      refine ht 1 (h:=(ht 2 (h:=(ht 3 (h:=(ht 5 (h:=(ht 8 (h:=(ht 9 (h:=(ht 10 (h:=?_)))))))))))))
      (try go_frame)
      refine held_two 0 6 rfl rfl (by kernel_rfl) (fun K hK=>?_) (fun K hK=>?_)
      ·go_simp
       have hx0:XF wk ((wk.alloc (.cells #[] 3)).drew):=((Ext.refl (fun _=>False) wk).alloc (.cells #[] 3)).drew
       have HO0:=bH (show InsSt wk ((wk.alloc (.cells #[] 3)).drew) B (.slice (some ⟨wk.heap.size,0,none⟩) 0 0) [] from InsSt.new HBd.out hx0 (blk_alloc_at wk _) (Ext.refl (fun _=>False) wk).size)
       generalize (wk.alloc (.cells #[] 3)).drew=u0 at *
       rw [HBd.out]
       rw [HBd.out] at HO0
       refine hK.out _ _ (hx0) (fun hHeld=>?_)
       clear hK K
       (try go_frame)
       refine held_two 4 6 rfl rfl (by kernel_rfl) (fun K hK=>?_) (fun K hK=>?_)
       ·refine step_append_list (f:=cI) rfl (.tmp 42) (.tmp 45) rfl cI_len (l.take k) (fun x _=>cI_one x) Tryz.underlying26 Tryz.infoInt rfl (by decide) (by decide) B (.slice (some ⟨B,0,none⟩) 0 0) rfl (HO0.out).own _ _ _ rfl (((HZ2.out).take HKn.out).keep hx0) (by simp only [List.length_append,List.length_take,List.length_drop,List.length_nil,List.length_singleton,HLl.out]; have:=HNs.out; omega) (HO0.out).low (fun u1v u1 g1 g2 g3=>?_)
        have HO1:Hid (InsSt wk u1 B u1v (l.take k)):=bH ((HO0.out).app g1 g2)
        have hx1:=HO1.out.ext
        clear g1 g2 g3
        refine hK.out _ _ (hx1) (fun hHeld=>?_)
        clear hK K
        (try go_frame)
        refine hst 6 (h:=fun K hK=>?_)
        go_simp
        have hx2:XF wk ((u1.alloc (.cells #[.int .i64 g] 3))):=(hx1.alloc (.cells #[.int .i64 g] 3))
        have HS2:=bH (show blk ((u1.alloc (.cells #[.int .i64 g] 3))) u1.heap.size=some (.cells #[.int .i64 g] 3 (0,0)) from blk_alloc_at u1 _)
        have HN2:=bH (fun (e:Value.ownBlock u1v=some u1.heap.size)=>Nat.lt_irrefl _ ((HO1.out).lt _ e))
        have HO2:=bH ((HO1.out).keep ((Ext.refl (fun _=>False) u1).alloc (.cells #[.int .i64 g] 3)))
        generalize (u1.alloc (.cells #[.int .i64 g] 3))=u2 at *
        generalize u1.heap.size=s2 at *
        refine hK.out _ _ (hx2) (fun hHeld=>?_)
        clear hK K
        (try go_frame)
        refine hst 7 (h:=fun K hK=>?_)
        refine step_append_el (f:=cI) rfl (.tmp 46) (.tmp 48) rfl cI_len g (cI_one g) Tryz.underlying26 Tryz.infoInt rfl (by decide) (by decide) B u1v (l.take k) rfl (HO2.out).own ⟨s2,0,none⟩ 1 rfl (cells_one HS2.out) (by simp only [List.length_append,List.length_take,List.length_drop,List.length_nil,List.length_singleton,HLl.out]; have:=HNs.out; omega) (HO2.out).low (fun u3v u3 g1 g2 g3=>?_)
        have HO3:Hid (InsSt wk u3 B u3v ((l.take k)++[g])):=bH ((HO2.out).app g1 g2)
        have hx3:=HO3.out.ext
        clear g1 g2 g3
        refine hK.out _ _ (hx3) (fun hHeld=>?_)
        clear hK K
        (try go_frame)
        refine hst 11 (h:=fun K hK=>?_)
        refine step_append_list (f:=cI) rfl (.tmp 49) (.tmp 52) rfl cI_len (l.drop k) (fun x _=>cI_one x) Tryz.underlying26 Tryz.infoInt rfl (by decide) (by decide) B u3v rfl (HO3.out).own _ _ _ rfl (((HZ2.out).dropIf HKn.out).keep hx3) (by simp only [List.length_append,List.length_take,List.length_drop,List.length_nil,List.length_singleton,HLl.out]; have:=HNs.out; have:=HKn.out; omega) (HO3.out).low (fun u4v u4 g1 g2 g3=>?_)
        have HO4:Hid (InsSt wk u4 B u4v (((l.take k)++[g])++(l.drop k))):=bH ((HO3.out).app g1 g2)
        have hx4:=HO4.out.ext
        clear g1 g2 g3
        refine hK.out _ _ (hx4) (fun hHeld=>?_)
        clear hK K
        (try go_frame)
        refine ht 12 (h:=?_)
        (try go_frame)
        refine wpAnyH_done (by kernel_rfl) ?_ _
        have HF:=bH (show InsSt wk u4 B u4v (insG l g) from by rw [HIn.out]; exact HO4.out)
        obtain ⟨b',c',e9⟩:=HF.out.shape (by rw [insG_length]; exact Nat.succ_pos _)
        have HLe:=bH (insG_length l g)
        obtain ⟨ln,hln⟩:∃ q,(insG l g).length=q:=⟨_,rfl⟩
        rw [hln] at e9 HLe
        have HLe2:=bH hln
        clear hln
        subst e9
        generalize (if c=k then (some ⟨b,0,none⟩:Option Addr) else some ⟨b,k,none⟩)=xo
        go_wp2
        go_roundg (rn - (i+1))
        case measure=>omega
        case rel=>exact ⟨i+1,b',ln,c',insG l g,by omega,rfl,rfl,by go_num,HF.out.inz,HLe2.out,HGr.out.symm,by have h1:=HLe.out; have h2:=HLl.out; have h3:=HNi.out; omega,blk_keep HX2.out.1 HF.out.ext,HX2.out.2.trans HF.out.ext⟩
       ·go_simp
        have hx1:XF wk ((u0.alloc (.cells #[.int .i64 g] 3))):=(hx0.alloc (.cells #[.int .i64 g] 3))
        have HS1:=bH (show blk ((u0.alloc (.cells #[.int .i64 g] 3))) u0.heap.size=some (.cells #[.int .i64 g] 3 (0,0)) from blk_alloc_at u0 _)
        have HN1:=bH (fun (e:Value.ownBlock (.slice (some ⟨B,0,none⟩) 0 0)=some u0.heap.size)=>Nat.lt_irrefl _ ((HO0.out).lt _ e))
        have HO1:=bH ((HO0.out).keep ((Ext.refl (fun _=>False) u0).alloc (.cells #[.int .i64 g] 3)))
        generalize (u0.alloc (.cells #[.int .i64 g] 3))=u1 at *
        generalize u0.heap.size=s1 at *
        refine hK.out _ _ (hx1) (fun hHeld=>?_)
        clear hK K
        (try go_frame)
        refine hst 4 (h:=fun K hK=>?_)
        refine step_append_list (f:=cI) rfl (.tmp 42) (.tmp 45) rfl cI_len (l.take k) (fun x _=>cI_one x) Tryz.underlying26 Tryz.infoInt rfl (by decide) (by decide) B (.slice (some ⟨B,0,none⟩) 0 0) rfl (HO1.out).own _ _ _ rfl (((HZ2.out).take HKn.out).keep hx1) (by simp only [List.length_append,List.length_take,List.length_drop,List.length_nil,List.length_singleton,HLl.out]; have:=HNs.out; omega) (HO1.out).low (fun u2v u2 g1 g2 g3=>?_)
        have HO2:Hid (InsSt wk u2 B u2v (l.take k)):=bH ((HO1.out).app g1 g2)
        have HS2:=bH ((g2.blk (blk_lt HS1.out) (fun e=>(HN1.out) (by cases e; rfl))).trans HS1.out)
        have hx2:=HO2.out.ext
        clear g1 g2 g3
        refine hK.out _ _ (hx2) (fun hHeld=>?_)
        clear hK K
        (try go_frame)
        refine hst 7 (h:=fun K hK=>?_)
        refine step_append_el (f:=cI) rfl (.tmp 46) (.tmp 48) rfl cI_len g (cI_one g) Tryz.underlying26 Tryz.infoInt rfl (by decide) (by decide) B u2v (l.take k) rfl (HO2.out).own ⟨s1,0,none⟩ 1 rfl (cells_one HS2.out) (by simp only [List.length_append,List.length_take,List.length_drop,List.length_nil,List.length_singleton,HLl.out]; have:=HNs.out; omega) (HO2.out).low (fun u3v u3 g1 g2 g3=>?_)
        have HO3:Hid (InsSt wk u3 B u3v ((l.take k)++[g])):=bH ((HO2.out).app g1 g2)
        have hx3:=HO3.out.ext
        clear g1 g2 g3
        refine hK.out _ _ (hx3) (fun hHeld=>?_)
        clear hK K
        (try go_frame)
        refine hst 11 (h:=fun K hK=>?_)
        refine step_append_list (f:=cI) rfl (.tmp 49) (.tmp 52) rfl cI_len (l.drop k) (fun x _=>cI_one x) Tryz.underlying26 Tryz.infoInt rfl (by decide) (by decide) B u3v rfl (HO3.out).own _ _ _ rfl (((HZ2.out).dropIf HKn.out).keep hx3) (by simp only [List.length_append,List.length_take,List.length_drop,List.length_nil,List.length_singleton,HLl.out]; have:=HNs.out; have:=HKn.out; omega) (HO3.out).low (fun u4v u4 g1 g2 g3=>?_)
        have HO4:Hid (InsSt wk u4 B u4v (((l.take k)++[g])++(l.drop k))):=bH ((HO3.out).app g1 g2)
        have hx4:=HO4.out.ext
        clear g1 g2 g3
        refine hK.out _ _ (hx4) (fun hHeld=>?_)
        clear hK K
        (try go_frame)
        refine ht 12 (h:=?_)
        (try go_frame)
        refine wpAnyH_done (by kernel_rfl) ?_ _
        have HF:=bH (show InsSt wk u4 B u4v (insG l g) from by rw [HIn.out]; exact HO4.out)
        obtain ⟨b',c',e9⟩:=HF.out.shape (by rw [insG_length]; exact Nat.succ_pos _)
        have HLe:=bH (insG_length l g)
        obtain ⟨ln,hln⟩:∃ q,(insG l g).length=q:=⟨_,rfl⟩
        rw [hln] at e9 HLe
        have HLe2:=bH hln
        clear hln
        subst e9
        generalize (if c=k then (some ⟨b,0,none⟩:Option Addr) else some ⟨b,k,none⟩)=xo
        go_wp2
        go_roundg (rn - (i+1))
        case measure=>omega
        case rel=>exact ⟨i+1,b',ln,c',insG l g,by omega,rfl,rfl,by go_num,HF.out.inz,HLe2.out,HGr.out.symm,by have h1:=HLe.out; have h2:=HLl.out; have h3:=HNi.out; omega,blk_keep HX2.out.1 HF.out.ext,HX2.out.2.trans HF.out.ext⟩
      ·go_simp
       have hx0:XF wk ((wk.alloc (.cells #[.int .i64 g] 3)).drew):=((Ext.refl (fun _=>False) wk).alloc (.cells #[.int .i64 g] 3)).drew
       have HS0:=bH (show blk ((wk.alloc (.cells #[.int .i64 g] 3)).drew) wk.heap.size=some (.cells #[.int .i64 g] 3 (0,0)) from blk_alloc_at wk _)
       generalize (wk.alloc (.cells #[.int .i64 g] 3)).drew=u0 at *
       rw [HBd.out]
       rw [HBd.out] at HS0
       refine hK.out _ _ (hx0) (fun hHeld=>?_)
       clear hK K
       (try go_frame)
       refine hst 0 (h:=fun K hK=>?_)
       go_simp
       have hx1:XF wk ((u0.alloc (.cells #[] 3))):=(hx0.alloc (.cells #[] 3))
       have HO1:=bH (show InsSt wk ((u0.alloc (.cells #[] 3))) B (.slice (some ⟨u0.heap.size,0,none⟩) 0 0) [] from InsSt.new HBd.out hx1 (blk_alloc_at u0 _) hx0.size)
       have HS1:=bH (show blk ((u0.alloc (.cells #[] 3))) B=some (.cells #[.int .i64 g] 3 (0,0)) from blk_keep HS0.out ((Ext.refl (fun _=>False) u0).alloc (.cells #[] 3)))
       have HN1:=bH (show B≠u0.heap.size from Nat.ne_of_lt (blk_lt HS0.out))
       generalize (u0.alloc (.cells #[] 3))=u1 at *
       generalize u0.heap.size=s1 at *
       refine hK.out _ _ (hx1) (fun hHeld=>?_)
       clear hK K
       (try go_frame)
       refine hst 4 (h:=fun K hK=>?_)
       refine step_append_list (f:=cI) rfl (.tmp 42) (.tmp 45) rfl cI_len (l.take k) (fun x _=>cI_one x) Tryz.underlying26 Tryz.infoInt rfl (by decide) (by decide) B (.slice (some ⟨s1,0,none⟩) 0 0) rfl (HO1.out).own _ _ _ rfl (((HZ2.out).take HKn.out).keep hx1) (by simp only [List.length_append,List.length_take,List.length_drop,List.length_nil,List.length_singleton,HLl.out]; have:=HNs.out; omega) (HO1.out).low (fun u2v u2 g1 g2 g3=>?_)
       have HO2:Hid (InsSt wk u2 B u2v (l.take k)):=bH ((HO1.out).app g1 g2)
       have HS2:=bH ((g2.blk (blk_lt HS1.out) (fun e=>(HN1.out) (by cases e; rfl))).trans HS1.out)
       have hx2:=HO2.out.ext
       clear g1 g2 g3
       refine hK.out _ _ (hx2) (fun hHeld=>?_)
       clear hK K
       (try go_frame)
       refine hst 7 (h:=fun K hK=>?_)
       refine step_append_el (f:=cI) rfl (.tmp 46) (.tmp 48) rfl cI_len g (cI_one g) Tryz.underlying26 Tryz.infoInt rfl (by decide) (by decide) B u2v (l.take k) rfl (HO2.out).own ⟨B,0,none⟩ 1 rfl (cells_one HS2.out) (by simp only [List.length_append,List.length_take,List.length_drop,List.length_nil,List.length_singleton,HLl.out]; have:=HNs.out; omega) (HO2.out).low (fun u3v u3 g1 g2 g3=>?_)
       have HO3:Hid (InsSt wk u3 B u3v ((l.take k)++[g])):=bH ((HO2.out).app g1 g2)
       have hx3:=HO3.out.ext
       clear g1 g2 g3
       refine hK.out _ _ (hx3) (fun hHeld=>?_)
       clear hK K
       (try go_frame)
       refine hst 11 (h:=fun K hK=>?_)
       refine step_append_list (f:=cI) rfl (.tmp 49) (.tmp 52) rfl cI_len (l.drop k) (fun x _=>cI_one x) Tryz.underlying26 Tryz.infoInt rfl (by decide) (by decide) B u3v rfl (HO3.out).own _ _ _ rfl (((HZ2.out).dropIf HKn.out).keep hx3) (by simp only [List.length_append,List.length_take,List.length_drop,List.length_nil,List.length_singleton,HLl.out]; have:=HNs.out; have:=HKn.out; omega) (HO3.out).low (fun u4v u4 g1 g2 g3=>?_)
       have HO4:Hid (InsSt wk u4 B u4v (((l.take k)++[g])++(l.drop k))):=bH ((HO3.out).app g1 g2)
       have hx4:=HO4.out.ext
       clear g1 g2 g3
       refine hK.out _ _ (hx4) (fun hHeld=>?_)
       clear hK K
       (try go_frame)
       refine ht 12 (h:=?_)
       (try go_frame)
       refine wpAnyH_done (by kernel_rfl) ?_ _
       have HF:=bH (show InsSt wk u4 B u4v (insG l g) from by rw [HIn.out]; exact HO4.out)
       obtain ⟨b',c',e9⟩:=HF.out.shape (by rw [insG_length]; exact Nat.succ_pos _)
       have HLe:=bH (insG_length l g)
       obtain ⟨ln,hln⟩:∃ q,(insG l g).length=q:=⟨_,rfl⟩
       rw [hln] at e9 HLe
       have HLe2:=bH hln
       clear hln
       subst e9
       generalize (if c=k then (some ⟨b,0,none⟩:Option Addr) else some ⟨b,k,none⟩)=xo
       go_wp2
       go_roundg (rn - (i+1))
       case measure=>omega
       case rel=>exact ⟨i+1,b',ln,c',insG l g,by omega,rfl,rfl,by go_num,HF.out.inz,HLe2.out,HGr.out.symm,by have h1:=HLe.out; have h2:=HLl.out; have h3:=HNi.out; omega,blk_keep HX2.out.1 HF.out.ext,HX2.out.2.trans HF.out.ext⟩
  ·obtain rfl:rn=i:=by omega
   go_wp2
   go_ret
   refine ⟨_,rfl,?_,HX.out.2⟩
   rw [show groupsP p=l from by rw [HFl.out,<- HLn.out,List.take_length]; rfl]
   exact HZ.out
end Go.Proofs.YtlbjfkdgbhkdcaaGreatDoor
namespace Go.Proofs
open Go.Shelf
def Tryz.sorted26_ren:Go.Shelf.Ren:=⟨fun | 6=>26 | 8=>46 | 9=>47 | 11=>67 | 13=>69 | 12=>68 | 23=>97 | 24=>98 | 14=>88 | 15=>89 | 16=>90 | 17=>91 | 18=>92 | 19=>93 | 20=>94 | 21=>95 | 22=>96 | 25=>113 | 26=>114 | 27=>115 | 28=>116 | 29=>117 | 30=>118 | 31=>132 | n=>n,fun | 26=>3 | 28=>67 | 24=>26 | 0=>0 | 3=>3 | 37=>109 | 48=>96 | 50=>103 | 4=>4 | 40=>130 | 39=>129 | 45=>135 | 5=>5 | 9=>9 | 51=>152 | 55=>156 | 57=>169 | 58=>170 | 33=>87 | n=>n,fun | n=>n⟩
theorem Tryz.sorted26:Go.Proofs.SlLaysZI.n6 Tryz.prog Tryz.sorted26_ren:={
 mixed:=by kernel_rfl
 f6:=⟨Tryz.f26.name,by decide,Tryz.func26.trans (congrArg some (by kernel_rfl))⟩
 f8:=⟨Tryz.f46.name,by decide,Tryz.func46.trans (congrArg some (by kernel_rfl))⟩
 f11:=⟨Tryz.f67.name,by decide,Tryz.func67.trans (congrArg some (by kernel_rfl))⟩
 t0:=Tryz.underlying0
 a0:=Tryz.isAgg0
 z0:=Tryz.sizeOf0
 v0:=Tryz.zeroValue0
 t24:=Tryz.underlying26
 a24:=Tryz.isAgg26
 z24:=Tryz.sizeOf26
 v24:=Tryz.zeroValue26
 t26:=Tryz.underlying3
 a26:=Tryz.isAgg3
 z26:=Tryz.sizeOf3
 v26:=Tryz.zeroValue3
 t28:=Tryz.underlying67
 a28:=Tryz.isAgg67
 z28:=Tryz.sizeOf67
 v28:=Tryz.zeroValue67
 i26:=by kernel_rfl }
def Tryz.keys27_ren:Go.Shelf.Ren:=⟨fun | 7=>27 | 10=>48 | n=>n,fun | 23=>64 | 26=>3 | 3=>4 | 28=>67 | 0=>0 | 27=>66 | 33=>87 | 4=>4 | n=>n,fun | n=>n⟩
theorem Tryz.keys27:Go.Proofs.SlLaysZI.n7 Tryz.prog Tryz.keys27_ren:={
 mixed:=by kernel_rfl
 f7:=⟨Tryz.f27.name,by decide,Tryz.func27.trans (congrArg some (by kernel_rfl))⟩
 f10:=⟨Tryz.f48.name,by decide,Tryz.func48.trans (congrArg some (by kernel_rfl))⟩
 t0:=Tryz.underlying0
 a0:=Tryz.isAgg0
 z0:=Tryz.sizeOf0
 v0:=Tryz.zeroValue0
 t4:=Tryz.underlying4
 a4:=Tryz.isAgg4
 z4:=Tryz.sizeOf4
 v4:=Tryz.zeroValue4
 t23:=Tryz.underlying64
 a23:=Tryz.isAgg64
 z23:=Tryz.sizeOf64
 v23:=Tryz.zeroValue64
 t26:=Tryz.underlying3
 a26:=Tryz.isAgg3
 z26:=Tryz.sizeOf3
 v26:=Tryz.zeroValue3
 t27:=Tryz.underlying66
 a27:=Tryz.isAgg66
 z27:=Tryz.sizeOf66
 v27:=Tryz.zeroValue66
 t28:=Tryz.underlying67
 a28:=Tryz.isAgg67
 z28:=Tryz.sizeOf67
 v28:=Tryz.zeroValue67
 t33:=Tryz.underlying87
 a33:=Tryz.isAgg87
 z33:=Tryz.sizeOf87
 v33:=Tryz.zeroValue87 }
def Tryz.sort47_ren:Go.Shelf.Ren:=⟨fun | 5=>47 | 8=>69 | 7=>68 | 19=>97 | 20=>98 | 10=>88 | 11=>89 | 12=>90 | 13=>91 | 14=>92 | 15=>93 | 16=>94 | 17=>95 | 18=>96 | 30=>113 | 31=>114 | 32=>115 | 33=>116 | 34=>117 | 35=>118 | 40=>132 | n=>n,fun | 23=>26 | 25=>3 | 3=>3 | 32=>109 | 22=>26 | 0=>0 | 44=>96 | 46=>103 | 4=>4 | 36=>130 | 35=>129 | 41=>135 | 5=>5 | 9=>9 | 53=>152 | 57=>156 | 63=>169 | 64=>170 | n=>n,fun | n=>n⟩
theorem Tryz.sort47:Go.Proofs.SlLaysM.n5 Tryz.prog Tryz.sort47_ren:={
 mixed:=by kernel_rfl
 f5:=⟨Tryz.f47.name,by decide,Tryz.func47.trans (congrArg some (by kernel_rfl))⟩
 f7:=⟨Tryz.f68.name,by decide,Tryz.func68.trans (congrArg some (by kernel_rfl))⟩
 f8:=Tryz.func69.trans (congrArg some (by kernel_rfl))
 f10:=⟨Tryz.f88.name,by decide,Tryz.func88.trans (congrArg some (by kernel_rfl))⟩
 f11:=⟨Tryz.f89.name,by decide,Tryz.func89.trans (congrArg some (by kernel_rfl))⟩
 f12:=⟨Tryz.f90.name,by decide,Tryz.func90.trans (congrArg some (by kernel_rfl))⟩
 f13:=⟨Tryz.f91.name,by decide,Tryz.func91.trans (congrArg some (by kernel_rfl))⟩
 f14:=⟨Tryz.f92.name,by decide,Tryz.func92.trans (congrArg some (by kernel_rfl))⟩
 f15:=⟨Tryz.f93.name,by decide,Tryz.func93.trans (congrArg some (by kernel_rfl))⟩
 f16:=⟨Tryz.f94.name,by decide,Tryz.func94.trans (congrArg some (by kernel_rfl))⟩
 f17:=⟨Tryz.f95.name,by decide,Tryz.func95.trans (congrArg some (by kernel_rfl))⟩
 f18:=⟨Tryz.f96.name,by decide,Tryz.func96.trans (congrArg some (by kernel_rfl))⟩
 f19:=Tryz.func97.trans (congrArg some (by kernel_rfl))
 f20:=Tryz.func98.trans (congrArg some (by kernel_rfl))
 f30:=⟨Tryz.f113.name,by decide,Tryz.func113.trans (congrArg some (by kernel_rfl))⟩
 f31:=Tryz.func114.trans (congrArg some (by kernel_rfl))
 f32:=Tryz.func115.trans (congrArg some (by kernel_rfl))
 f33:=⟨Tryz.f116.name,by decide,Tryz.func116.trans (congrArg some (by kernel_rfl))⟩
 f34:=⟨Tryz.f117.name,by decide,Tryz.func117.trans (congrArg some (by kernel_rfl))⟩
 f35:=⟨Tryz.f118.name,by decide,Tryz.func118.trans (congrArg some (by kernel_rfl))⟩
 f40:=⟨Tryz.f132.name,by decide,Tryz.func132.trans (congrArg some (by kernel_rfl))⟩
 t0:=Tryz.underlying0
 a0:=Tryz.isAgg0
 z0:=Tryz.sizeOf0
 v0:=Tryz.zeroValue0
 t3:=Tryz.underlying3
 a3:=Tryz.isAgg3
 z3:=Tryz.sizeOf3
 v3:=Tryz.zeroValue3
 t4:=Tryz.underlying4
 a4:=Tryz.isAgg4
 z4:=Tryz.sizeOf4
 v4:=Tryz.zeroValue4
 t5:=Tryz.underlying5
 a5:=Tryz.isAgg5
 z5:=Tryz.sizeOf5
 v5:=Tryz.zeroValue5
 t9:=Tryz.underlying9
 a9:=Tryz.isAgg9
 z9:=Tryz.sizeOf9
 v9:=Tryz.zeroValue9
 t22:=Tryz.underlying26
 a22:=Tryz.isAgg26
 z22:=Tryz.sizeOf26
 v22:=Tryz.zeroValue26
 t23:=Tryz.underlying26
 a23:=Tryz.isAgg26
 z23:=Tryz.sizeOf26
 v23:=Tryz.zeroValue26
 t25:=Tryz.underlying3
 a25:=Tryz.isAgg3
 z25:=Tryz.sizeOf3
 v25:=Tryz.zeroValue3
 t32:=Tryz.underlying109
 a32:=Tryz.isAgg109
 z32:=Tryz.sizeOf109
 v32:=Tryz.zeroValue109
 t35:=Tryz.underlying129
 a35:=Tryz.isAgg129
 z35:=Tryz.sizeOf129
 v35:=Tryz.zeroValue129
 t36:=Tryz.underlying130
 a36:=Tryz.isAgg130
 z36:=Tryz.sizeOf130
 v36:=Tryz.zeroValue130
 t41:=Tryz.underlying135
 a41:=Tryz.isAgg135
 z41:=Tryz.sizeOf135
 v41:=Tryz.zeroValue135
 t44:=Tryz.underlying96
 a44:=Tryz.isAgg96
 z44:=Tryz.sizeOf96
 v44:=Tryz.zeroValue96
 t46:=Tryz.underlying103
 a46:=Tryz.isAgg103
 z46:=Tryz.sizeOf103
 v46:=Tryz.zeroValue103
 t53:=Tryz.underlying152
 a53:=Tryz.isAgg152
 z53:=Tryz.sizeOf152
 v53:=Tryz.zeroValue152
 t57:=Tryz.underlying156
 a57:=Tryz.isAgg156
 z57:=Tryz.sizeOf156
 v57:=Tryz.zeroValue156
 t63:=Tryz.underlying169
 a63:=Tryz.isAgg169
 z63:=Tryz.sizeOf169
 v63:=Tryz.zeroValue169
 t64:=Tryz.underlying170
 a64:=Tryz.isAgg170
 z64:=Tryz.sizeOf170
 v64:=Tryz.zeroValue170 }
end Go.Proofs
namespace Go.Proofs.YtlbjfkdgbhkdcaaGreatDoor
open Go.RowKit Go.MapKept
open Go.ChangeMaps (setBlock)
open Go.RowKit Go.Maps Go.Sort Go.Shelf Go.MapKept
theorem Tryz.sorts26 (m:Nat):AnyZI.SortsIn Tryz.prog Tryz.sorted26_ren Fence.wide m :=
 ⟨fun blk off cap ss W hH hblk hsz=>callsIn_wide.2 (AnyM.slices_Sort_int Tryz.sort47 blk off cap ss W hH hblk hsz),
  fun p cap W=>callsIn_wide.2 (AnyM.slices_Sort_int_none Tryz.sort47 p cap W)⟩
theorem Tryz.maps_Keys_27 (mb:Option Nat) (W:World):CallsIn Fence.wide 5 Tryz.prog 27 #[.map mb] W fun e w'=>e=.returned (.func (.func 48) #[] #[.pointer (some ⟨W.heap.size,0,none⟩)])/\w'=W.alloc (.cells #[.map mb] 64) :=
 AnyZI.keys_in Tryz.keys27 Fence.wide 5 trivial rfl mb W
theorem Tryz.slices_Sorted_keys {H:Type} (b nn:Nat) (D0:DataW H) (R:Value->Option (DataW H × List MemPlace)) (w:World) (hown:w.ownsMap Tryz.prog 3 R b nn D0) (hmax:Maps.size D0<=maxLen) (hbytes:Maps.size D0*8<=140737488355328) :
  CallsIn Fence.wide 5 Tryz.prog 26 #[.func (.func 48) #[] #[.pointer (some ⟨w.heap.size,0,none⟩)]] (w.alloc (.cells #[.map (some b)] 64)) fun e w'=>∃ (v:Value) (ss:List Int),e=.returned v/\ss.Perm (intKeys D0) /\
   w'.ownsRow (w.alloc (.cells #[.map (some b)] 64)).heap.size 3 1 v ss.length ((ss.mergeSort (fun x y=>decide (x<=y))).map encZ)/\(v=.slice none 0 0↔ss=[])/\Below (w.alloc (.cells #[.map (some b)] 64)).heap.size (w.alloc (.cells #[.map (some b)] 64)) w':=by
 have hbl:=hown.lt
 have hseq:SeqGives Fence.wide 2 Tryz.prog 48 #[.pointer (some ⟨w.heap.size,0,none⟩)] encZ (fun ss=>ss.Perm (intKeys D0)) (Maps.size D0) (w.alloc (.cells #[.map (some b)] 64)) :=
  AnyZI.keys_gives (ρ:=Tryz.keys27_ren) { Tryz.keys27 with } Fence.wide _ trivial rfl (by omega) w.heap.size b nn D0 _ (by simp) (by simp) (by
   obtain ⟨es,clock,hb,Ft,hs,hD⟩:=hown
   exact ⟨es,clock,(Below.heap_alloc _ _ b hbl).trans hb,Ft,hs,hD⟩)
 exact AnyZI.sorted_in Tryz.sorted26 Fence.wide 5 trivial trivial trivial trivial rfl (by omega) (Tryz.sorts26 _) (enters_of Tryz.func47 (by kernel_rfl) rfl) 48 #[.pointer (some ⟨w.heap.size,0,none⟩)] trivial (enters_of Tryz.func48 (by kernel_rfl) rfl) _ _ hmax hbytes _ hseq
theorem Ext.of_below {w w':World} (h:Below w.heap.size w w'):XF w w':=⟨h.os,h.tape,h.output,h.size,fun k hk _=>h.block k hk⟩
theorem wf64 {a:Int} (h:InR a):(Lit.int .i64 a).wf=true:=WalkArith.wf_i64 h
theorem IsIMap.owns {H:Type} {w:World} {mb:Nat} {m:List (Int × Value)} (h:IsIMap w mb m) (hk:∀ p ∈ m,InR p.1) (hm:m.length<=maxLen) :
  ∃ D:DataW H,w.ownsMap Tryz.prog 3 asNil mb m.length D/\Maps.size D=m.length/\(intKeys D).Perm (m.map Prod.fst):=by
 obtain ⟨es,clock,hb,hl,hst⟩:=h
 have hsz:es.size=m.length:=hl.size
 have hrd:∀ x ∈ es.toList,∃ s:Int,x.key=.int .i64 s/\InR s:=fun x hx=>by
  have:(x.key,x.val) ∈ es.toList.map (fun e=>(e.key,e.val)):=List.mem_map.2 ⟨x,hx,rfl⟩
  rw [hl] at this
  obtain ⟨p,hp,hpe⟩:=List.mem_map.1 this
  exact ⟨p.1,(congrArg Prod.fst hpe).symm,hk p hp⟩
 refine ⟨_,⟨es,clock,hb,⟨by omega,hst,fun x hx=>?_⟩,Nat.le_of_eq hsz,rfl⟩,?_,?_⟩
 ·obtain ⟨s,hs,hs2⟩:=hrd x hx
  exact ⟨(.int .i64 s,.nil),by unfold WideElems.rd; rw [hs,Maps.keyOf_int_mk Tryz.underlying3 (wf64 hs2)]; rfl⟩
 ·show (List.foldr DataW.insert [] _).length=_
  rw [length_sorted,List.length_map,Array.length_toList,hsz]
 ·show (List.map (fun p=>Go.intOf p.1) (List.foldr DataW.insert [] _)).Perm _
  refine ((WideShapes.sorted_perm _).map _).trans (List.Perm.of_eq ?_)
  rw [List.map_map]
  have h1:es.toList.map ((fun p:Lit × DataW H=>Go.intOf p.1) ∘ WideElems.rg Tryz.prog 3 asNil)=es.toList.map (fun x=>match x.key with | .int _ s=>s | _=>0):=by
   refine List.map_congr_left (fun x hx=>?_)
   obtain ⟨s,hs,hs2⟩:=hrd x hx
   have:WideElems.rd Tryz.prog 3 (asNil (H:=H)) x=some (.int .i64 s,.nil):=by unfold WideElems.rd; rw [hs,Maps.keyOf_int_mk Tryz.underlying3 (wf64 hs2)]; rfl
   simp only [Function.comp,WideElems.rg_of this,hs,Go.intOf]
  rw [h1]
  have h2:=congrArg (List.map (fun q:Value × Value=>match q.1 with | .int _ s=>s | _=>(0:Int))) hl
  simp only [List.map_map] at h2
  exact h2
structure Seen (p:ProgV) (i:Nat) (l:List (Int × Value)):Prop where
 mem:∀ x,x ∈ l.map Prod.fst↔(∃ j,j<i/\(p.r j).group=x)/\¬ x=0
 nodup:(l.map Prod.fst).Nodup
 len:l.length<=i
theorem mem_iput_key {α:Type} {l:List (Int × α)} {s:Int} {v:α} {x:Int}:x ∈ (iput l s v).map Prod.fst↔x=s∨x ∈ l.map Prod.fst:=by
 rw [<- iget_isSome,<- iget_isSome,iget_iput]
 by_cases h:x=s
 ·rw [if_pos h]; simp [h]
 ·rw [if_neg h]; simp [h]
section
variable {p:ProgV} {i:Nat} {l:List (Int × Value)}
theorem Seen.none:Seen p 0 []:=⟨fun x=>by simp,List.nodup_nil,Nat.le_refl _⟩
theorem Seen.skip (h:Seen p i l) (h0:(p.r i).group=0):Seen p (i+1) l:=⟨fun x=>by
 rw [h.mem]
 constructor
 ·rintro ⟨⟨j,hj,e⟩,h2⟩; exact ⟨⟨j,by omega,e⟩,h2⟩
 ·rintro ⟨⟨j,hj,e⟩,h2⟩
  refine ⟨⟨j,?_,e⟩,h2⟩
  by_cases e2:j=i
  ·subst e2; exact absurd (e.symm.trans h0) h2
  ·omega,h.nodup,by have:=h.len; omega⟩
theorem Seen.put {v:Value} (h:Seen p i l) (h0:¬ (p.r i).group=0):Seen p (i+1) (iput l (p.r i).group v):=⟨fun x=>by
 rw [mem_iput_key,h.mem]
 constructor
 ·rintro (rfl | ⟨⟨j,hj,e⟩,h2⟩)
  ·exact ⟨⟨i,by omega,rfl⟩,h0⟩
  ·exact ⟨⟨j,by omega,e⟩,h2⟩
 ·rintro ⟨⟨j,hj,e⟩,h2⟩
  by_cases e2:j=i
  ·subst e2; exact .inl e.symm
  ·exact .inr ⟨⟨j,by omega,e⟩,h2⟩,iput_nodup h.nodup,by have:=h.len; have:=iput_length l (p.r i).group v; omega⟩
theorem Seen.groups {ss:List Int} (h:Seen p p.rows.length l) (hp:ss.Perm (l.map Prod.fst)):ss.mergeSort (fun x y=>decide (x<=y))=groupsP p:=by
 have hpm:=List.mergeSort_perm ss (fun x y=>decide (x<=y))
 have h1:(ss.mergeSort (fun x y=>decide (x<=y))).Pairwise (fun x y=>decide (x<=y)=true):=List.pairwise_mergeSort (le:=fun x y:Int=>decide (x<=y)) (fun a b c=>by simp; omega) (fun a b=>by simp; omega) ss
 have h2:(ss.mergeSort (fun x y=>decide (x<=y))).Nodup:=(hpm.trans hp).nodup_iff.2 h.nodup
 refine sorted_same ?_ (groups_sorted p) (fun x=>?_)
 ·refine (List.pairwise_and_iff.2 ⟨h1,h2⟩).imp ?_
  rintro a b ⟨hab,hne⟩
  have:=of_decide_eq_true hab
  omega
 ·rw [hpm.mem_iff,hp.mem_iff,h.mem,mem_groups]
  refine and_congr_left fun _=>?_
  constructor
  ·rintro ⟨j,hj,e⟩
   refine ⟨p.r j,?_,e⟩
   unfold ProgV.r
   rw [getD_lt hj]; exact List.getElem_mem _
  ·rintro ⟨r,hr,e⟩
   obtain ⟨j,hj,rfl⟩:=List.getElem_of_mem hr
   exact ⟨j,hj,by unfold ProgV.r; rw [getD_lt hj]; exact e⟩
end
theorem own_enc {w:World} {base:Nat} {v:Value} {l:List Int} (h:w.ownsRow base 3 1 v l.length (l.map encZ)):Inz w v l:=IRow.inz (base:=base) h
theorem LGroups_any (w:World) (pv:Value) (p:ProgV) (hp:IsPrg w pv p) (hm:p.rows.length<=8):Calls Tryz.prog 8 #[pv] w (GrpPost w p):=by
 obtain ⟨vo,vn,vc,ro,rn,rc,rfl⟩:=hp.slicesP
 obtain ⟨hvs,hrs,hl1,hl2⟩:=prg_parts hp
 rw [hl2] at hm
 have HLn:=bH hl2
 have HPw:=bH hrs
 clear hp hvs hrs hl1 hl2
 have hmm:=@run_makeMap Tryz.prog
 have hxa:=(Ext.refl (fun _=>False) w).alloc (.cells #[.slice vo vn vc,.slice ro rn rc] 25)
 have hxb:=(Ext.refl (fun _=>False) (w.alloc (.cells #[.slice vo vn vc,.slice ro rn rc] 25))).alloc (.map #[] 0)
 have hb2:=IsIMap.new (w.alloc (.cells #[.slice vo vn vc,.slice ro rn rc] 25))
 rw [World.size_alloc] at hb2
 have HB:=bH (bI (blk_keep (blk_alloc_at w (.cells #[.slice vo vn vc,.slice ro rn rc] 25)) hxb) (bI hb2 (bI (hxa.trans hxb) (show w.heap.size<=w.heap.size+1 by omega))))
 clear hxa hxb hb2
 go_enter Tryz.func8,Tryz.ntmps8
 go_upto_region 2 with fail
 generalize (w.alloc (.cells #[.slice vo vn vc,.slice ro rn rc] 25)).alloc (.map #[] 0)=w1 at *
 generalize w.heap.size+1=mb at *
 obtain ⟨pb,hpb⟩:∃ q,w.heap.size=q:=⟨_,rfl⟩
 have HLo:=bH HB.out.2.2.2
 rw [hpb] at HB ⊢
 clear hpb hmm
 have p1:=cellq HB.out.1 1 rfl
 go_wp2_with fail
 clear p1
 go_loopg [10] rn (fun gg v10 wr=>∃ (i:Nat) (l:List (Int × Value)),i<=rn/\gg=rn - i/\v10=.int .i64 i/\IsIMap wr mb l/\Seen p i l/\(∀ q ∈ l,InR q.1)/\XF w wr)
 case atStart=>exact ⟨0,[],Nat.zero_le _,rfl,rfl,HB.out.2.1,Seen.none,(fun q hq=>by cases hq),HB.out.2.2.1⟩
 case round =>
  clear HB
  obtain ⟨i,l,hi,rfl,rfl,hmp,hse,hin,hx⟩:=hrel
  have HM:=bH hmp
  have HS:=bH hse
  have HI:=bH hin
  have HX:=bH hx
  clear hmp hse hin hx
  by_cases hin:i<rn
  ·have i0:(i:Int)<(rn:Int):=by omega
   have i1:(0:Int)<=(i:Int):=by omega
   have hil:i<p.rows.length:=by rw [HLn.out]; exact hin
   obtain ⟨rb,off,ta,tc,rfl,hbw,e0,e1,e2,e3,e4,hok,-⟩:=HPw.out.atp i hil
   have HGr:=bH (show InR (p.r i).group from hok.group)
   replace e0:=cell_keep e0 HX.out
   replace e1:=cell_keep e1 HX.out
   replace e2:=cell_keep e2 HX.out
   replace e3:=cell_keep e3 HX.out
   replace e4:=cell_keep e4 HX.out
   clear hbw hok hil
   generalize (p.r i).terms.length=tn at *
   obtain ⟨g,hg⟩:∃ g,(p.r i).group=g:=⟨_,rfl⟩
   rw [hg] at e1 HGr
   have HG:=bH hg
   clear hg
   have hx1:=(Ext.refl (fun _=>False) wr).alloc (.cells #[.string (p.r i).name,.int .i64 g,.int .i64 (p.r i).kind,.slice ta tn tc,.int .i64 (p.r i).bound] 53)
   have hb1:=blk_alloc_at wr (.cells #[.string (p.r i).name,.int .i64 g,.int .i64 (p.r i).kind,.slice ta tn tc,.int .i64 (p.r i).bound] 53)
   have HB:=bH (bI hb1 hx1)
   clear hb1 hx1
   go_upto_region 5 with fail
   obtain ⟨qb,hqb⟩:∃ rb,wr.heap.size=rb:=⟨_,rfl⟩
   rw [hqb] at HB ⊢
   clear hqb
   generalize wr.alloc (.cells #[.string (p.r i).name,.int .i64 g,.int .i64 (p.r i).kind,.slice ta tn tc,.int .i64 (p.r i).bound] 53)=w1 at *
   have HM2:=bH (HM.out.ext HB.out.2 (fun h=>h))
   have q1:=cellq HB.out.1 1 rfl
   clear e0 e1 e2 e3 e4
   by_cases h0:g=0
   ·have HG0:=bH (HG.out.trans h0)
    subst h0
    go_wp2
    go_roundg (rn - (i+1))
    case measure=>omega
    case rel=>exact ⟨i+1,l,by omega,rfl,by go_num,HM2.out,HS.out.skip HG0.out,HI.out,HX.out.trans HB.out.2⟩
   ·have HG0:=bH h0
    have h2:(g == 0)=false:=by simpa using h0
    have h3:decide (g=0)=false:=by simpa using h0
    obtain ⟨es,clock,hbk,hl,hst⟩:=HM2.out
    obtain ⟨es',clock',hup,hl',hst'⟩:=run_update_int (P:=Tryz.prog) (b:=mb) (clock:=clock) Tryz.underlying64 Tryz.underlying3 hl hst g (.bool true)
    have HN:=bH (show IsIMap (setBlock w1 mb (.map es' clock')) mb (iput l g (.bool true))/\Ext (fun k=>k=mb) w1 (setBlock w1 mb (.map es' clock')) from ⟨⟨es',clock',blk_setBlock_same hbk _,hl',hst'⟩,(Ext.refl _ w1).setBlock _ _ (fun _=>rfl)⟩)
    clear hl hst hl' hst'
    go_wp2
    go_roundg (rn - (i+1))
    case measure=>omega
    case rel=>exact ⟨i+1,iput l g (.bool true),by omega,rfl,by go_num,HN.out.1,by rw [<- HG.out]; exact HS.out.put (by rw [HG.out]; exact HG0.out),(fun q hq=>by
     rcases mem_iput hq with e | e
     ·rw [e]; exact HGr.out
     ·exact HI.out q e),(HX.out.trans HB.out.2).own HN.out.2 (fun k e=>by have e':k=mb:=e; rw [e']; exact HLo.out)⟩
  ·obtain rfl:rn=i:=by omega
   have HSe:=bH (show Seen p p.rows.length l from by rw [HLn.out]; exact HS.out)
   obtain ⟨D,hown,hsz,hperm⟩:=HM.out.owns (H:=Unit) HI.out (by have:=HS.out.len; unfold maxLen; omega)
   have Hown:=bH hown
   have Hsz:=bH hsz
   have Hperm:=bH hperm
   have HLl:=bH HS.out.len
   clear hown hsz hperm
   go_wp2_with (first
    | (go_at_call 27; refine ((callsIn_wide (n:=5)).1 (Tryz.maps_Keys_27 (some mb) _)).mono ?_; rintro e w' ⟨rfl,rfl⟩)
    | (go_at_call 26; refine ((callsIn_wide (n:=5)).1 (Tryz.slices_Sorted_keys mb l.length D asNil wr Hown.out (by rw [Hsz.out]; have:=HLl.out; simp only [maxLen]; omega) (by rw [Hsz.out]; have:=HLl.out; omega))).mono ?_; rintro e w' ⟨v,ss,rfl,hS,hrow,hnil,hb⟩))
   go_ret
   have hi2:=HSe.out.groups (hS.trans Hperm.out)
   rw [hi2] at hrow
   have hlen:ss.length=(groupsP p).length:=by rw [<- hi2,List.length_mergeSort]
   rw [hlen] at hrow
   refine ⟨v,rfl,own_enc hrow,HX.out.trans (((Ext.refl _ wr).alloc _).trans (Ext.of_below hb))⟩
theorem lgroups_main (w:World) (pv dv:Value) (p:ProgV) (d:List Int) (hp:IsPrg w pv p) (hd:Inz w dv d) (ht:Tab10 w):Calls Tryz.prog 3 #[pv,dv] w (BoolPost w true) :=
 lgroups_core LGroups_any Groups4_any w pv dv p d hp hd ht
open Go.ChangeShapes Go.WideShapes Go.ChangeAt Go.RowKit Go.Deep
set_option linter.unusedVariables false
theorem own:ownKnob Tryz.prog.godebug=none:=by kernel_rfl
theorem laidOut:laidOutB Tryz.prog=true:=by kernel_rfl
section
variable {H:Type} {enc:TypeId × Value->H} {w:World} {base:Nat} {spare:Nat->Bool} {held:Bool}
theorem struct_field {P:Program} {t:TypeId} {fs:Array Field} {fuel:Nat} {cs:List Value} {x:DataW H × List MemPlace} (ht:P.underlying t=some (.struct fs)) (h:DataW.trod enc P w base spare held fuel t cs=some x)
  (i:Nat) {f:Field} (hi:fs[i]?=some f) {ty off n:Nat} (h1:f.type=ty) (h2:f.offset=off) (h3:P.cellsOf ty=n):∃ m y,DataW.trod enc P w base spare held m ty ((cs.drop off).take n)=some y:=by
 obtain ⟨xs,m,_,_,hl,hxl,hf⟩:=DataW.trod_struct ht h
 subst h1 h2 h3
 have hlt:i<xs.length:=by rw [hxl]; exact (Array.getElem?_eq_some_iff.1 hi).1
 exact ⟨m,_,(hf i f hi).trans (List.getElem?_eq_getElem hlt)⟩
theorem struct_length {P:Program} {t:TypeId} {fs:Array Field} {fuel:Nat} {cs:List Value} {x:DataW H × List MemPlace} (ht:P.underlying t=some (.struct fs)) (h:DataW.trod enc P w base spare held fuel t cs=some x) {n:Nat} (h3:P.cellsOf t=n):cs.length=n:=by
 obtain ⟨xs,m,_,_,hl,hxl,hf⟩:=DataW.trod_struct ht h
 rw [hl,h3]
theorem list_of {α:Type} {R:List Value->α->Prop}:∀ {css:List (List Value)},(∀ c ∈ css,∃ x,R c x)->∃ l:List α,l.length=css.length/\∀ (i:Nat) c x,css[i]?=some c->l[i]?=some x->R c x
 | [],_=>⟨[],rfl,fun i c x h=>by simp at h⟩
 | c :: css,h=>by
  obtain ⟨x,hx⟩:=h c (by simp)
  obtain ⟨l,h1,h2⟩:=list_of (css:=css) (fun c hc=>h c (by simp [hc]))
  refine ⟨x :: l,by simp [h1],fun i c' x' hc hx'=>?_⟩
  cases i with
  | zero=>simp at hc hx'; subst hc hx'; exact hx
  | succ i=>simp at hc hx'; exact h2 i c' x' hc hx'
theorem map_of {α:Type} {f:α->List Value} {Q:α->Prop} {css:List (List Value)} (h:∀ c ∈ css,∃ x,c=f x/\Q x):∃ l:List α,css=l.map f/\∀ x ∈ l,Q x:=by
 obtain ⟨l,h1,h2⟩:=list_of (R:=fun c x=>c=f x/\Q x) h
 refine ⟨l,List.ext_getElem? fun i=>?_,fun x hx=>?_⟩
 ·rw [List.getElem?_map]
  by_cases hi:i<l.length
  ·rw [List.getElem?_eq_getElem hi,List.getElem?_eq_getElem (by omega:i<css.length)]
   simp only [Option.map_some]
   exact congrArg some (h2 i _ _ (List.getElem?_eq_getElem (by omega)) (List.getElem?_eq_getElem hi)).1
  ·rw [List.getElem?_eq_none (by omega),List.getElem?_eq_none (by omega)]; rfl
 ·obtain ⟨i,hi,rfl⟩:=List.getElem_of_mem hx
  exact (h2 i _ _ (List.getElem?_eq_getElem (by omega)) (List.getElem?_eq_getElem hi)).2
theorem open_sl {t e:TypeId} {m:Nat} {fuel:Nat} {cs:List Value} {x:DataW H × List MemPlace} (ht:Tryz.prog.underlying t=some (.slice e)) (hc:Tryz.prog.cellsOf e=m) (hm:0<m) {R:List Value->Prop}
  (he:∀ fuel cs x,DataW.trod enc Tryz.prog w base spare held fuel e cs=some x->R cs) (h:DataW.trod enc Tryz.prog w base spare held fuel t cs=some x) :
  ∃ v css,cs=[v]/\Sl w v m css/\∀ c ∈ css,R c:=by
 rcases open_slice ht h with ⟨hcs,_⟩ | ⟨a,l,c,k,n',D,Pl,hcs,_,hlc,hcm,hk,_,hel⟩
 ·exact ⟨_,[],hcs,Sl.nil w m,by simp⟩
 ·have hlk:l<=k:=by rw [hk]; split <;> omega
  have hel':∀ i,i<l->∃ c':List Value,c'.length=m/\R c'/\∀ j u,c'[j]?=some u->w.cell? ((a.add (i*m)).add j)=some u:=fun i hi=>by
   obtain ⟨cs',h1,h2⟩:=hel i (by omega)
   rw [hc] at h1
   obtain ⟨_,hlen,hat⟩:=World.cells?_some h1
   exact ⟨cs',hlen,he _ _ _ h2,fun j u hu=>(hat j (by have:=(List.getElem?_eq_some_iff.1 hu).1; omega)).trans hu⟩
  obtain ⟨css,h1,h2⟩:∃ css:List (List Value),css.length=l/\∀ i (h:i<css.length),css[i].length=m/\R css[i]/\∀ j u,css[i][j]?=some u->w.cell? ((a.add (i*m)).add j)=some u:=by
   refine ⟨List.ofFn fun i:Fin l=>Classical.choose (hel' i i.2),by simp,fun i hi=>?_⟩
   simp at hi
   have:=Classical.choose_spec (hel' i hi)
   simpa using this
  subst h1
  refine ⟨_,css,hcs,⟨some a,c,rfl,hlc,hcm,(fun e=>by cases e),fun hp=>?_⟩,fun c' hc'=>?_⟩
  ·obtain ⟨b,off,spot⟩:=a
   obtain ⟨e1,_,e3⟩:=h2 0 hp
   have e4:=e3 0 _ (List.getElem?_eq_getElem (by omega))
   have hspot:spot=none:=by simpa [Addr.add] using World.cell?_spot e4
   subst hspot
   refine ⟨b,off,rfl,by have:=World.block_lt_of_cell? w _ e4; simpa [Addr.add_lit] using this,fun i r hi j u hu=>?_⟩
   obtain ⟨hi',rfl⟩:=List.getElem?_eq_some_iff.1 hi
   have:=(h2 i hi').2.2 j u hu
   simpa [Addr.add_lit,Nat.add_assoc] using this
  ·obtain ⟨i,hi,rfl⟩:=List.getElem_of_mem hc'
   exact (h2 i hi).2.1
theorem cellsInt:Tryz.prog.cellsOf 3=1:=by kernel_rfl
theorem cellsI64:Tryz.prog.cellsOf 2=1:=by kernel_rfl
theorem cellsBool:Tryz.prog.cellsOf 4=1:=by kernel_rfl
theorem cellsStr:Tryz.prog.cellsOf 9=1:=by kernel_rfl
theorem cellsTerm:Tryz.prog.cellsOf 63=2:=by kernel_rfl
theorem cellsTerms:Tryz.prog.cellsOf 51=1:=by kernel_rfl
theorem cellsVar:Tryz.prog.cellsOf 60=5:=by kernel_rfl
theorem cellsVars:Tryz.prog.cellsOf 22=1:=by kernel_rfl
theorem cellsRow:Tryz.prog.cellsOf 53=5:=by kernel_rfl
theorem cellsRows:Tryz.prog.cellsOf 23=1:=by kernel_rfl
theorem cellsProgram:Tryz.prog.cellsOf 25=2:=by kernel_rfl
theorem inR_of {k:IntKind} {a:Int} (hk:k=.i64) (h:(Lit.int k a).wf=true):InR a:=by
 subst hk
 simp [Lit.wf,IntKind.min,IntKind.max,IntKind.signed,IntKind.bits] at h
 unfold InR
 omega
theorem open_var {fuel:Nat} {cs:List Value} {x:DataW H × List MemPlace} (h:DataW.trod enc Tryz.prog w base spare held fuel 60 cs=some x):∃ v:VarV,cs=cV v/\VarOk v:=by
 have hl:=struct_length Tryz.underlying60 h cellsVar
 obtain ⟨_,_,f0⟩:=struct_field Tryz.underlying60 h 0 rfl rfl rfl cellsI64
 obtain ⟨_,_,f1⟩:=struct_field Tryz.underlying60 h 1 rfl rfl rfl cellsI64
 obtain ⟨_,_,f2⟩:=struct_field Tryz.underlying60 h 2 rfl rfl rfl cellsBool
 obtain ⟨_,_,f3⟩:=struct_field Tryz.underlying60 h 3 rfl rfl rfl cellsBool
 obtain ⟨_,_,f4⟩:=struct_field Tryz.underlying60 h 4 rfl rfl rfl cellsI64
 clear h
 obtain ⟨a0,h0,_,b0⟩:=DataW.trod_int Tryz.underlying2 f0
 obtain ⟨a1,h1,_,b1⟩:=DataW.trod_int Tryz.underlying2 f1
 obtain ⟨a2,h2,_⟩:=DataW.trod_bool Tryz.underlying4 f2
 obtain ⟨a3,h3,_⟩:=DataW.trod_bool Tryz.underlying4 f3
 obtain ⟨a4,h4,_,b4⟩:=DataW.trod_int Tryz.underlying2 f4
 clear f0 f1 f2 f3 f4
 match cs,hl with
 | [c0,c1,c2,c3,c4],_ =>
  simp at h0 h1 h2 h3 h4
  exact ⟨⟨a0,a1,a2,a3,a4⟩,by rw [h0,h1,h2,h3,h4]; rfl,inR_of rfl b0,inR_of rfl b1,inR_of rfl b4⟩
theorem open_term {fuel:Nat} {cs:List Value} {x:DataW H × List MemPlace} (h:DataW.trod enc Tryz.prog w base spare held fuel 63 cs=some x):∃ t:TermV,cs=cT t/\TermOk t:=by
 have hl:=struct_length Tryz.underlying63 h cellsTerm
 obtain ⟨_,_,f0⟩:=struct_field Tryz.underlying63 h 0 rfl rfl rfl cellsInt
 obtain ⟨_,_,f1⟩:=struct_field Tryz.underlying63 h 1 rfl rfl rfl cellsI64
 clear h
 obtain ⟨a0,h0,_,b0⟩:=DataW.trod_int Tryz.underlying3 f0
 obtain ⟨a1,h1,_,b1⟩:=DataW.trod_int Tryz.underlying2 f1
 clear f0 f1
 match cs,hl with
 | [c0,c1],_ =>
  simp at h0 h1
  exact ⟨⟨a0,a1⟩,by rw [h0,h1]; rfl,inR_of rfl b0,inR_of rfl b1⟩
theorem open_terms {fuel:Nat} {cs:List Value} {x:DataW H × List MemPlace} (h:DataW.trod enc Tryz.prog w base spare held fuel 51 cs=some x):∃ v l,cs=[v]/\Tms w v l:=by
 obtain ⟨v,css,rfl,hs,hc⟩:=open_sl Tryz.underlying51 cellsTerm (by decide) (fun _ _ _ h=>open_term h) h
 obtain ⟨l,rfl,hl⟩:=map_of hc
 exact ⟨v,l,rfl,hs,hl⟩
theorem open_row {fuel:Nat} {cs:List Value} {x:DataW H × List MemPlace} (h:DataW.trod enc Tryz.prog w base spare held fuel 53 cs=some x):∃ y:RowV × Value,cs=cR y.1 y.2/\Tms w y.2 y.1.terms/\RowOk y.1:=by
 have hl:=struct_length Tryz.underlying53 h cellsRow
 obtain ⟨_,_,f0⟩:=struct_field Tryz.underlying53 h 0 rfl rfl rfl cellsStr
 obtain ⟨_,_,f1⟩:=struct_field Tryz.underlying53 h 1 rfl rfl rfl cellsInt
 obtain ⟨_,_,f2⟩:=struct_field Tryz.underlying53 h 2 rfl rfl rfl cellsInt
 obtain ⟨_,_,f3⟩:=struct_field Tryz.underlying53 h 3 rfl rfl rfl cellsTerms
 obtain ⟨_,_,f4⟩:=struct_field Tryz.underlying53 h 4 rfl rfl rfl cellsI64
 clear h
 obtain ⟨a0,h0,_,b0⟩:=DataW.trod_string Tryz.underlying9 f0
 obtain ⟨a1,h1,_,b1⟩:=DataW.trod_int Tryz.underlying3 f1
 obtain ⟨a2,h2,_,b2⟩:=DataW.trod_int Tryz.underlying3 f2
 obtain ⟨v3,l3,h3,b3⟩:=open_terms f3
 obtain ⟨a4,h4,_,b4⟩:=DataW.trod_int Tryz.underlying2 f4
 clear f0 f1 f2 f3 f4
 match cs,hl with
 | [c0,c1,c2,c3,c4],_ =>
  simp at h0 h1 h2 h3 h4
  exact ⟨⟨⟨a0,a1,a2,l3,a4⟩,v3⟩,by rw [h0,h1,h2,h3,h4]; rfl,b3,b0,inR_of rfl b1,inR_of rfl b2,inR_of rfl b4⟩
theorem open_prog {fuel:Nat} {cs:List Value} {x:DataW H × List MemPlace} (h:DataW.trod enc Tryz.prog w base spare held fuel 25 cs=some x):∃ p:ProgV,IsPrg w (.agg cs.toArray) p:=by
 have hl:=struct_length Tryz.underlying25 h cellsProgram
 obtain ⟨_,_,f0⟩:=struct_field Tryz.underlying25 h 0 rfl rfl rfl cellsVars
 obtain ⟨_,_,f1⟩:=struct_field Tryz.underlying25 h 1 rfl rfl rfl cellsRows
 clear h
 obtain ⟨v0,c0,e0,s0,k0⟩:=open_sl Tryz.underlying22 cellsVar (by decide) (fun _ _ _ h=>open_var h) f0
 obtain ⟨v1,c1,e1,s1,k1⟩:=open_sl Tryz.underlying23 cellsRow (by decide) (fun _ _ _ h=>open_row h) f1
 clear f0 f1
 obtain ⟨l0,rfl,g0⟩:=map_of k0
 obtain ⟨l1,n1,g1⟩:=list_of (R:=fun c (y:RowV × Value)=>c=cR y.1 y.2/\Tms w y.2 y.1.terms/\RowOk y.1) k1
 have hz:c1=List.zipWith cR (l1.map (·.1)) (l1.map (·.2)):=by
  apply List.ext_getElem?
  intro i
  rw [List.getElem?_zipWith,List.getElem?_map,List.getElem?_map]
  by_cases hi:i<l1.length
  ·rw [List.getElem?_eq_getElem hi,List.getElem?_eq_getElem (by omega:i<c1.length)]
   simp only [Option.map_some]
   exact congrArg some (g1 i _ _ (List.getElem?_eq_getElem (by omega)) (List.getElem?_eq_getElem hi)).1
  ·rw [List.getElem?_eq_none (by omega),List.getElem?_eq_none (by omega)]; rfl
 rw [hz] at s1
 match cs,hl with
 | [d0,d1],_ =>
  simp at e0 e1
  subst e0 e1
  refine ⟨⟨l0,l1.map (·.1)⟩,_,_,rfl,⟨s0,g0⟩,l1.map (·.2),by simp,s1,fun i r tv hr ht=>?_⟩
  rw [List.getElem?_map] at hr ht
  obtain ⟨y,hy,rfl⟩:=Option.map_eq_some_iff.1 hr
  rw [hy] at ht
  cases ht
  have hi:=(List.getElem?_eq_some_iff.1 hy).1
  exact (g1 i _ _ (List.getElem?_eq_getElem (by omega)) hy).2
end
open Go.Joins in
theorem open_prog_value {H:Type} {enc:TypeId × Value->H} {w:World} {base:Nat} {spare:Nat->Bool} {held:Bool} {r:Reach} {b0:Nat} {v:Value} {d:DataW H} {p:List MemPlace} (hv:Value.okWide Tryz.prog w r b0 25 v) (h:DataW.Trod enc Tryz.prog w base spare held 25 v d p) :
  ∃ y:ProgV,IsPrg w v y:=by
 obtain ⟨cs,rfl,hsz⟩:=okWide_struct Tryz.underlying25 hv
 obtain ⟨fuel,hf⟩:=h
 obtain ⟨y,hy⟩:=open_prog hf
 refine ⟨y,?_⟩
 simpa [Value.cells] using hy
open Go.ChangeShapes Go.WideShapes Go.ChangeAt Go.RowKit Go.Deep
def laid3:List (String × DataW Unit):=[("math/bits.deBruijn32tab", Rows.laid_math_bits_deBruijn32tab),("math/bits.deBruijn64tab", Rows.laid_math_bits_deBruijn64tab),("internal/strconv.uint64pow10", Rows.laid_internal_strconv_uint64pow10)]
theorem pow10_data:(Rows.laid_internal_strconv_uint64pow10:DataW Unit)=Lib.tabData .u64 Lib.pow10Tab:=by kernel_rfl
theorem tab_laid {W:World} (h:laidMetH Tryz.prog laid3 W):Tab10 W:=by
 rw [MakeChecks.laidMetH_plain _ _ _ (by kernel_rfl)] at h
 unfold laid3 at h
 rw [pow10_data] at h
 exact Lib.tabIs_of_head (g:=0) (t:=164) (e:=103) (n:=20) (by kernel_rfl) (by kernel_rfl) Tryz.underlying164 Tryz.underlying103 (by kernel_rfl) (by kernel_rfl) (laidMet.tail (laidMet.tail h))
theorem door_met (os:Os) (args:Array Value):laidMetH Tryz.prog laid3 ((World.doorLaid Tryz.prog 24 os).forCall (fun _ _=>0) ⟨#[],args,[]⟩).memory :=
 laidMetH_of_parts3 (fuel:=8) (laidMet_of_run' 8 (by kernel_rfl) (by kernel_rfl)) (by kernel_rfl) (by kernel_rfl)
end Go.Proofs.YtlbjfkdgbhkdcaaGreatDoor
