/-
  Texts of the proof, part 1. Conditions: each lemma names its own.
-/
import Derived.Test.YtjaldknfeojjkaaGreatY1
import Derived.Test.YtjaldknfeojjkaaGreatY4
import Derived.Test.YtjaldknfeojjkaaGreatY6
import Derived.Test.YtjaldknfeojjkaaGreatY7
import Derived.Test.YtjaldknfeojjkaaGreatY8
import Derived.Test.YtjaldknfeojjkaaGreatY9
import Derived.Maps.RangeWalk
set_option linter.unusedVariables false
set_option linter.unusedSimpArgs false
set_option maxRecDepth 100000
set_option maxHeartbeats 16000000
namespace Go.Proofs.YtjaldknfeojjkaaGreat
open Go.RowKit Go.MapKept
open Go.ChangeMaps (setBlock)
theorem Inz.take {w:World} {ao:Option Addr} {n c:Nat} {l:List Int} (h:Inz w (.slice ao n c) l) {k:Nat} (hk:k<=n):Inz w (.slice ao k c) (l.take k):=by
 obtain ⟨ao',c',e,h1,h2,h3,h4⟩:=h
 cases e
 rw [List.length_map] at h1 h4 hk
 refine ⟨ao,c,by rw [List.length_map,List.length_take,Nat.min_eq_left hk],by rw [List.length_map,List.length_take]; omega,h2,h3,fun hp=>?_⟩
 rw [List.length_map,List.length_take] at hp
 obtain ⟨b,off,e,hb,hc⟩:=h4 (by omega)
 refine ⟨b,off,e,hb,fun i r hi j u hu=>hc i r ?_ j u hu⟩
 rw [List.getElem?_map] at hi ⊢
 rw [List.getElem?_take] at hi
 split at hi
 ·exact hi
 ·cases hi
theorem Inz.drop {w:World} {b off n c:Nat} {l:List Int} (h:Inz w (.slice (some ⟨b,off,none⟩) n c) l) {k:Nat} (hk:k<=n):Inz w (.slice (some ⟨b,off+k,none⟩) (n - k) (c - k)) (l.drop k):=by
 obtain ⟨ao',c',e,h1,h2,h3,h4⟩:=h
 cases e
 rw [List.length_map] at h1 h4 hk
 refine ⟨_,c - k,by rw [List.length_map,List.length_map,List.length_drop],by rw [List.length_map,List.length_drop]; omega,by omega,(fun e=>by cases e),fun hp=>?_⟩
 rw [List.length_map,List.length_drop] at hp
 obtain ⟨b',off',e,hb,hc⟩:=h4 (by omega)
 cases e
 refine ⟨b,off+k,rfl,hb,fun i r hi j u hu=>?_⟩
 have:=hc (k+i) r (by rw [List.getElem?_map,List.getElem?_drop] at hi; rw [List.getElem?_map]; exact hi) j u hu
 rw [show off+k+i*1+j=off+(k+i)*1+j by omega]
 exact this
theorem cI_len (x:Int):(cI x).length=1:=rfl
theorem cI_one (x:Int):∀ u ∈ cI x,u.oneCell'=true:=fun u hu=>by
 rw [List.mem_singleton.1 hu]; rfl
theorem step_append_list {w:World} {ops:Array Oper} {o:Oper} {a:Act} {K:Act->World->Prop} {Q:Exit->Act->World->Prop} {E:Prop} {β:Type} {f:β->List Value} {T ts:TypeId} {z:Value} {size bytes:Nat} {l:List β} (hgd:o.guard=none) (s x:Operand)
  (ho:o.op=.call { callee:=.builtin .append,args:=#[s,x],argTypes:=#[ts,ts] }) (hf:∀ x,(f x).length=size) (l2:List β) (h1:∀ x ∈ l2,∀ u ∈ f x,u.oneCell'=true) (ht:Tryz.prog.underlying ts=some (.slice T)) (hi:(Tryz.prog.info? T).map (fun i=>(i.zero,i.size,i.bytes))=some (some z,size,bytes)) (hz:z.cells.size=size) (hsz:0<size) (hbs:bytes<=1000)
  (base:Nat) (v:Value) (hs:a.eval s=v) (hown:w.ownsRow base T size v l.length (l.flatMap f)) (ao:Option Addr) (n c:Nat) (hx:a.eval x=.slice ao n c) (hsl:Sl w (.slice ao n c) size (l2.map f)) (hl:l.length+l2.length<=1000) (hbase:base<=w.heap.size)
  (h:∀ v' w',w'.ownsRow base T size v' (l++l2).length ((l++l2).flatMap f)->Ext (fun k=>v.ownBlock=some k) w w'->(v'.ownBlock=v.ownBlock∨v'.ownBlock=some w.heap.size)->K (a.put o.dst v') w') :
  if Region.wanted o (yielded ops a.tmps)=true then Oper.wp Tryz.prog o a w K Q else E:=by
 obtain ⟨i0,hi0,hz0,hz1,hz2⟩:=info_parts hi
 obtain ⟨rfl,hc,hnews⟩:=sl_lies hsz hf hsl
 refine step_append_any hgd s x ts ho base T i0 z size bytes ht hi0 hz0 hz1 hz2 hz hsz v l.length (l.flatMap f) hs hown ao l2.length c hc (l2.flatMap f) hx (fm_length hf l2) hnews (fun u hu=>?_) (by unfold maxLen; omega) (Nat.le_trans (Nat.mul_le_mul hl hbs) (by decide)) hbase (fun v' w' g1 g2 g3=>h v' w' ?_ ?_ g3)
 ·obtain ⟨x,hm,hu⟩:=List.mem_flatMap.1 hu
  exact h1 x hm u hu
 ·rw [List.length_append,List.flatMap_append]
  exact g1
 ·exact (Ext.refl (fun k=>v.ownBlock=some k) w).grown g2 (fun k hk _=>hk)
structure InsSt (w0 w:World) (B:Nat) (v:Value) (l:List Int):Prop where
 base:w0.heap.size=B
 ext:XF w0 w
 own:w.ownsRow B 3 1 v l.length (l.flatMap cI)
section
variable {w0 w w':World} {B:Nat} {v v':Value} {l l':List Int}
theorem InsSt.low (h:InsSt w0 w B v l):B<=w.heap.size:=by rw [<- h.base]; exact h.ext.size
theorem InsSt.lt (h:InsSt w0 w B v l):∀ g,v.ownBlock=some g->g<w.heap.size:=fun g e=>(World.ownsRow.lt h.own g e).2
theorem InsSt.new {s:Nat} (hB:w0.heap.size=B) (hx:XF w0 w) (hb:blk w s=some (.cells #[] 3 (0,0))) (hs:w0.heap.size<=s):InsSt w0 w B (.slice (some ⟨s,0,none⟩) 0 0) [] :=
 ⟨hB,hx,ownsRow_empty 1 (by rw [<- hB]; exact hs) hb⟩
theorem InsSt.keep (h:InsSt w0 w B v l) (hx:XF w w'):InsSt w0 w' B v l:=⟨h.base,h.ext.trans hx,ownsRow_ext h.own hx (fun _ _ e=>e)⟩
theorem InsSt.app (h:InsSt w0 w B v l) (g1:w'.ownsRow B 3 1 v' l'.length (l'.flatMap cI)) (g2:Ext (fun k=>v.ownBlock=some k) w w'):InsSt w0 w' B v' l' :=
 ⟨h.base,h.ext.own g2 (fun k e=>by rw [h.base]; exact (World.ownsRow.lt h.own k e).1),g1⟩
theorem InsSt.inz (h:InsSt w0 w B v l):Inz w v l:=own_sl cI_len h.own
theorem InsSt.shape (h:InsSt w0 w B v l) (hl:0<l.length):∃ b c,v=.slice (some ⟨b,0,none⟩) l.length c:=by
 rcases h.own.2 with ⟨_,h0⟩ | ⟨g,cap,cur,rfl,_⟩
 ·omega
 ·exact ⟨g,cap,rfl⟩
end
theorem cells_one {w:World} {s:Nat} {g:Int} (h:blk w s=some (.cells #[.int .i64 g] 3 (0,0))):∀ j u,(cI g)[j]?=some u->w.cell? ((⟨s,0,none⟩:Addr).add j)=some u:=fun j u hu=>by
 match j,hu with
 | 0,hu=>cases hu; exact cellq h 0 rfl
 | j+1,hu=>simp [cI] at hu
theorem Inz.cap {w:World} {ao:Option Addr} {n c:Nat} {l:List Int} (h:Inz w (.slice ao n c) l):l.length=n/\n<=c/\c<=maxLen:=by
 obtain ⟨ao',c',e,h1,h2,h3,h4⟩:=h
 cases e
 rw [List.length_map] at h1 ⊢
 exact ⟨rfl,h1,h2⟩
theorem Inz.nil {w:World} {ao:Option Addr} {c:Nat} (hc:c<=maxLen) (h0:ao=none->c=0):Inz w (.slice ao 0 c) []:=⟨ao,c,rfl,Nat.zero_le _,hc,h0,fun h=>absurd h (Nat.lt_irrefl 0)⟩
theorem Inz.dropIf {w:World} {b n c:Nat} {l:List Int} (h:Inz w (.slice (some ⟨b,0,none⟩) n c) l) {k:Nat} (hk:k<=n):Inz w (.slice (if c=k then some ⟨b,0,none⟩ else some ⟨b,k,none⟩) (n - k) (c - k)) (l.drop k):=by
 have ⟨h1,h2,h3⟩:=h.cap
 by_cases e:c=k
 ·rw [if_pos e,List.drop_eq_nil_of_le (by omega),show n - k=0 by omega]
  exact Inz.nil (by omega) (fun e=>by cases e)
 ·rw [if_neg e]
  have:=h.drop hk
  rwa [Nat.zero_add] at this
theorem lt_insert {l:List Int} {k:Nat} {g:Int} (h:l.Pairwise (·<·)) (h1:0<k->l.getD (k - 1) 0<g) (h2:∀ j,k<=j->j<l.length->g<l.getD j 0) (hk:k<=l.length):(l.take k++[g]++l.drop k).Pairwise (·<·):=by
 have hsplit:(l.take k++l.drop k).Pairwise (·<·):=by rw [List.take_append_drop]; exact h
 have hs:=List.pairwise_append.1 hsplit
 have hbefore:∀ u ∈ l.take k,u<g:=fun u hu=>by
  obtain ⟨j,hj,rfl⟩:=List.getElem_of_mem hu
  have hj':j<k/\j<l.length:=by rw [List.length_take] at hj; omega
  rw [List.getElem_take]
  have hk0:=h1 (by omega)
  have hkl:k - 1<l.length:=by omega
  rw [List.getD_eq_getElem?_getD,List.getElem?_eq_getElem hkl] at hk0
  simp only [Option.getD_some] at hk0
  by_cases e:j=k - 1
  ·subst e; exact hk0
  ·have hb:=List.pairwise_iff_getElem.1 h j (k - 1) hj'.2 hkl (by omega)
   omega
 have hafter:∀ u ∈ l.drop k,g<u:=fun u hu=>by
  obtain ⟨j,hj,rfl⟩:=List.getElem_of_mem hu
  rw [List.length_drop] at hj
  rw [List.getElem_drop]
  have h3:=h2 (k+j) (by omega) (by omega)
  rw [List.getD_eq_getElem?_getD,List.getElem?_eq_getElem (by omega)] at h3
  exact h3
 refine List.pairwise_append.2 ⟨List.pairwise_append.2 ⟨hs.1,List.pairwise_singleton _ _,fun a ha b hb=>?_⟩,hs.2.1,fun a ha b hb=>?_⟩
 ·rw [List.mem_singleton.1 hb]; exact hbefore a ha
 ·rcases List.mem_append.1 ha with ha | ha
  ·exact hs.2.2 a ha b hb
  ·rw [List.mem_singleton.1 ha]; exact hafter b hb
def insK (l:List Int) (k:Nat) (g:Int):List Int:=l.take k++[g]++l.drop k
theorem insK_length {l:List Int} {k n:Nat} {g:Int} (h:l.length=n) (hk:k<=n):(insK l k g).length=n+1:=by
 unfold insK
 simp only [List.length_append,List.length_take,List.length_drop,List.length_singleton]
 omega
theorem srt_ins {s l:List Int} {k:Nat} {g:Int} (h:Srt s l) (hg:g ∉ s) (hk:k<=l.length) (h1:0<k->¬ g<l.getD (k - 1) 0) (h2:∀ j,k<=j->j<l.length->g<l.getD j 0):Srt (s++[g]) (insK l k g):=by
 refine ⟨lt_insert h.pair (fun h0=>?_) h2 hk,fun v=>?_⟩
 ·have h3:=h1 h0
  have hkl:k - 1<l.length:=by omega
  have hm:l.getD (k - 1) 0 ∈ l:=by rw [getD_lt hkl]; exact List.getElem_mem _
  have hne:l.getD (k - 1) 0≠g:=fun e=>hg ((h.mem g).1 (e ▸ hm))
  omega
 ·unfold insK
  rw [mem_insert,List.mem_append,List.mem_singleton,h.mem]
  exact Or.comm
def Srt7Post (w:World) (ls:List Int) (r:Ending) (w':World):Prop:=∃ b n c t,r=.returned (.slice (some ⟨b,0,none⟩) n c)/\Inz w' (.slice (some ⟨b,0,none⟩) n c) t/\w.heap.size<=b/\Srt ls t/\XF w w'
theorem Sorted_any (w:World) (v:Value) (ls:List Int) (hv:Inz w v ls) (hnd:ls.Nodup) (hm9:ls.length<=900):Calls Tryz.prog 46 #[v] w (Srt7Post w ls):=by
 obtain ⟨lo,lc,rfl,hlm⟩:=hv.shape
 have HLs:=bH hv
 have HNd:=bH hnd
 obtain ⟨m,hm⟩:∃ m,ls.length=m:=⟨_,rfl⟩
 have HM:=bH hm
 rw [hm] at HLs hm9 ⊢
 clear hv hnd hlm hm
 have hxb:=(Ext.refl (fun _=>False) w).alloc (.cells #[] 3)
 have HB:=bH (bI (show Inz (w.alloc (.cells #[] 3)) (.slice (some ⟨w.heap.size,0,none⟩) 0 0) [] from IRow.inz (base:=0) (ownsRow_empty 1 (Nat.zero_le _) (blk_alloc_at w (.cells #[] 3)))) hxb)
 clear hxb
 have m1:(m:Int)<=1000:=by omega
 go_enter Tryz.func46,Tryz.ntmps46
 go_upto_region 2 with fail
 generalize w.alloc (.cells #[] 3)=w1 at *
 obtain ⟨b0,hb0⟩:∃ q,w.heap.size=q:=⟨_,rfl⟩
 rw [hb0] at HB ⊢
 have HB0:=bH hb0
 clear hb0
 go_wp2_with fail
 go_loopg [3,4] m (fun gg v3 v4 wr=>∃ (i b n c:Nat) (l:List Int),i<=m/\gg=m - i/\v3=.slice (some ⟨b,0,none⟩) n c/\v4=.int .i64 i/\Inz wr (.slice (some ⟨b,0,none⟩) n c) l/\l.length=n/\n=i/\w.heap.size<=b/\Srt (ls.take i) l/\XF w wr)
 case atStart=>exact ⟨0,_,_,_,[],Nat.zero_le _,rfl,rfl,rfl,HB.out.1,rfl,rfl,Nat.le_of_eq HB0.out,⟨List.Pairwise.nil,fun v=>Iff.rfl⟩,HB.out.2⟩
 case round =>
  clear HB
  obtain ⟨i,b,n,c,l,hi,rfl,rfl,rfl,hz,hl,hni,hbw,hsr,hx⟩:=hrel
  have HBw:=bH hbw
  clear hbw
  have HZ:=bH hz
  have HLl:=bH hl
  have HX:=bH hx
  clear hz hl hx
  by_cases hin:i<m
  ·have i0:(i:Int)<(m:Int):=by omega
   have i1:(0:Int)<=(i:Int):=by omega
   have hil:i<ls.length:=by rw [HM.out]; exact hin
   obtain ⟨lb,loff,rfl,e1⟩:=(HLs.out.keep HX.out).at_ hil
   obtain ⟨g,hg⟩:∃ x,ls.getD i 0=x:=⟨_,rfl⟩
   rw [hg] at e1
   have hin1:ls.take (i+1)=ls.take i++[g]:=by rw [List.take_succ_eq_append_getElem hil,<- hg,getD_lt hil]
   have hgn:g ∉ ls.take i:=fun h=>by
    have h2:=HNd.out
    rw [<- List.take_append_drop (i+1) ls,hin1] at h2
    have h3:=(List.nodup_append.1 (List.nodup_append.1 h2).1).2.2 g h g (List.mem_singleton.2 rfl)
    exact h3 rfl
   have HSi:=bH (fun k (hk:k<=l.length) h1 h2=>srt_ins (k:=k) hsr hgn hk h1 h2)
   clear hg hgn hsr hil
   have HNs:=bH (show n<=900 by omega)
   have n1:(n:Int)<=1000:=by omega
   have HNi:=bH hni
   clear hni
   obtain ⟨wq,hwq⟩:∃ x,x=wr:=⟨_,rfl⟩
   rw [<- hwq] at HZ HX e1 ⊢
   have HE:=bH e1
   clear hwq e1
   go_upto_region 5 with fail
   go_wp2_with fail
   go_loopg [5] n (fun gg v5 wr=>∃ k:Nat,k<=n/\gg=k/\v5=.int .i64 k/\(∀ j,k<=j->j<n->g<l.getD j 0)/\XF wq wr)
   case atStart=>exact ⟨n,Nat.le_refl _,rfl,rfl,(fun j h1 h2=>by omega),Ext.refl _ _⟩
   case round =>
    obtain ⟨k,hkk,hgk,rfl,hall,hxk⟩:=hrel
    obtain rfl:=hgk.symm
    have HAl:=bH hall
    clear hall
    have HZk:=bH (HZ.out.keep hxk)
    have e1:=cell_keep HE.out hxk
    have k2:k<=c:=Nat.le_trans hkk HZk.out.cap.2.1
    by_cases hk0:0<k
    ·obtain ⟨kk,hkk1⟩:∃ kk,k=kk+1:=⟨k - 1,by omega⟩
     have k0:(0:Int)<(k:Int):=by omega
     have k3:(k:Int) - 1=(kk:Int):=by omega
     have k4:(kk:Int)<(n:Int):=by omega
     have k5:(0:Int)<=(kk:Int):=by omega
     have hwk:IntKind.i64.wrap (kk:Int)=(kk:Int):=IntWalk.i64_in _ (by omega)
     obtain ⟨b1,o1,e,e0⟩:=HZk.out.at_ (i:=kk) (by rw [HLl.out]; omega)
     cases e
     rw [Nat.zero_add] at e0
     obtain ⟨y,hy⟩:∃ y,l.getD kk 0=y:=⟨_,rfl⟩
     rw [hy] at e0
     have HY:=bH hy
     have HKk:=bH hkk1
     clear hy hkk1
     by_cases hgy:g<y
     ·go_upto_region 6 with fail
      go_quiet (fail)
      rename_i nq
      go_wp2
      go_roundg kk
      case measure=>have:=HKk.out; omega
      case rel=>exact ⟨kk,by have:=HKk.out; omega,rfl,by go_num,(fun j h1 h2=>by
       by_cases e:j=kk
       ·subst e; rw [HY.out]; omega
       ·exact HAl.out j (by have:=HKk.out; omega) h2),hxk.drewN nq⟩
     ·have hgy2:decide (g<y)=false:=by simpa using hgy
      go_upto_region 6 with fail
      go_quiet (fail)
      rename_i nq
      clear e0 k0 k3 k4 k5 hwk
      have HKn:=bH hkk
      have HSr:=bH (HSi.out k (by rw [HLl.out]; exact hkk) (fun _=>by rw [HKk.out,Nat.add_sub_cancel,HY.out]; omega) (fun j h1 h2=>HAl.out j h1 (by rw [<- HLl.out]; exact h2)))
      obtain ⟨wk,hwk9⟩:∃ x,x=wr.drewN nq:=⟨_,rfl⟩
      replace HX:=bH (show XF w wk from by rw [hwk9]; exact HX.out.trans (hxk.drewN nq))
      replace HZ:=bH (show Inz wk (.slice (some ⟨b,0,none⟩) n c) l from by rw [hwk9]; exact HZk.out.keep ((Ext.refl (fun _=>False) wr).drewN nq))
      have e1:=cq (show wk.cell? _=some (.int .i64 g) from by rw [hwk9]; exact cell_keep HE.out (hxk.drewN nq))
      obtain ⟨B,hB⟩:∃ q,wk.heap.size=q:=⟨_,rfl⟩
      have HBd:=bH hB
      rw [<- hwk9]
      clear hB HAl HZk hwk9 hxk HSi HE
      have k6:(k:Int)<=(n:Int):=by omega
      have k7:(0:Int)<=(k:Int):=by omega
      go_upto_region 8 with fail
      refine wp_region_held_drew (S:=(XF wk)) (by kernel_rfl) ((Ext.refl _ wk).drew) (fun hHeld=>?_)
      refine ht 1 (h:=(ht 2 (h:=(ht 3 (h:=(ht 5 (h:=(ht 6 (h:=(ht 7 (h:=(ht 8 (h:=(ht 11 (h:=(ht 12 (h:=(ht 13 (h:=?_)))))))))))))))))))
      (try go_frame)
      refine held_two 0 9 rfl rfl (by kernel_rfl) (fun K hK=>?_) (fun K hK=>?_)
      ·go_simp
       have hx0:XF wk ((wk.alloc (.cells #[] 3)).drew):=((Ext.refl (fun _=>False) wk).alloc (.cells #[] 3)).drew
       have HO0:=bH (show InsSt wk ((wk.alloc (.cells #[] 3)).drew) B (.slice (some ⟨wk.heap.size,0,none⟩) 0 0) [] from InsSt.new HBd.out hx0 (blk_alloc_at wk _) (Ext.refl (fun _=>False) wk).size)
       generalize (wk.alloc (.cells #[] 3)).drew=u0 at *
       rw [HBd.out]
       rw [HBd.out] at HO0
       refine hK.out _ _ (hx0) (fun hHeld=>?_)
       clear hK K
       (try go_frame)
       refine held_two 4 9 rfl rfl (by kernel_rfl) (fun K hK=>?_) (fun K hK=>?_)
       ·refine step_append_list (f:=cI) rfl (.tmp 31) (.tmp 34) rfl cI_len (l.take k) (fun x _=>cI_one x) Tryz.underlying27 Tryz.infoInt rfl (by decide) (by decide) B (.slice (some ⟨B,0,none⟩) 0 0) rfl (HO0.out).own _ _ _ rfl (((HZ.out).take HKn.out).keep hx0) (by simp only [List.length_append,List.length_take,List.length_drop,List.length_nil,List.length_singleton,HLl.out]; have:=HNs.out; omega) (HO0.out).low (fun u1v u1 g1 g2 g3=>?_)
        have HO1:Hid (InsSt wk u1 B u1v (l.take k)):=bH ((HO0.out).app g1 g2)
        have hx1:=HO1.out.ext
        clear g1 g2 g3
        refine hK.out _ _ (hx1) (fun hHeld=>?_)
        clear hK K
        (try go_frame)
        refine hst 9 (h:=fun K hK=>?_)
        go_simp
        have hx2:XF wk ((u1.alloc (.cells #[.int .i64 g] 3))):=(hx1.alloc (.cells #[.int .i64 g] 3))
        have HS2:=bH (show blk ((u1.alloc (.cells #[.int .i64 g] 3))) u1.heap.size=some (.cells #[.int .i64 g] 3 (0,0)) from blk_alloc_at u1 _)
        have HN2:=bH (fun (e:Value.ownBlock u1v=some u1.heap.size)=>Nat.lt_irrefl _ ((HO1.out).lt _ e))
        have HO2:=bH ((HO1.out).keep ((Ext.refl (fun _=>False) u1).alloc (.cells #[.int .i64 g] 3)))
        generalize (u1.alloc (.cells #[.int .i64 g] 3))=u2 at *
        generalize u1.heap.size=s2 at *
        refine hK.out _ _ (hx2) (fun hHeld=>?_)
        clear hK K
        (try go_frame)
        refine hst 10 (h:=fun K hK=>?_)
        refine step_append_el (f:=cI) rfl (.tmp 35) (.tmp 40) rfl cI_len g (cI_one g) Tryz.underlying27 Tryz.infoInt rfl (by decide) (by decide) B u1v (l.take k) rfl (HO2.out).own ⟨s2,0,none⟩ 1 rfl (cells_one HS2.out) (by simp only [List.length_append,List.length_take,List.length_drop,List.length_nil,List.length_singleton,HLl.out]; have:=HNs.out; omega) (HO2.out).low (fun u3v u3 g1 g2 g3=>?_)
        have HO3:Hid (InsSt wk u3 B u3v ((l.take k)++[g])):=bH ((HO2.out).app g1 g2)
        have hx3:=HO3.out.ext
        clear g1 g2 g3
        refine hK.out _ _ (hx3) (fun hHeld=>?_)
        clear hK K
        (try go_frame)
        refine hst 14 (h:=fun K hK=>?_)
        refine step_append_list (f:=cI) rfl (.tmp 41) (.tmp 44) rfl cI_len (l.drop k) (fun x _=>cI_one x) Tryz.underlying27 Tryz.infoInt rfl (by decide) (by decide) B u3v rfl (HO3.out).own _ _ _ rfl (((HZ.out).dropIf HKn.out).keep hx3) (by simp only [List.length_append,List.length_take,List.length_drop,List.length_nil,List.length_singleton,HLl.out]; have:=HNs.out; have:=HKn.out; omega) (HO3.out).low (fun u4v u4 g1 g2 g3=>?_)
        have HO4:Hid (InsSt wk u4 B u4v (((l.take k)++[g])++(l.drop k))):=bH ((HO3.out).app g1 g2)
        have hx4:=HO4.out.ext
        clear g1 g2 g3
        refine hK.out _ _ (hx4) (fun hHeld=>?_)
        clear hK K
        (try go_frame)
        refine ht 15 (h:=?_)
        (try go_frame)
        refine wpAnyH_done (by kernel_rfl) ?_ _
        have HF:=bH (show InsSt wk u4 B u4v (insK l k g) from HO4.out)
        obtain ⟨b',c',e9⟩:=HF.out.shape (by rw [insK_length HLl.out HKn.out]; exact Nat.succ_pos _)
        rw [insK_length HLl.out HKn.out] at e9
        subst e9
        generalize (if c=k then (some ⟨b,0,none⟩:Option Addr) else some ⟨b,k,none⟩)=xo
        go_wp2
        go_roundg (m - (i+1))
        case measure=>omega
        case rel=>exact ⟨i+1,b',n+1,c',insK l k g,by omega,rfl,rfl,by go_num,HF.out.inz,insK_length HLl.out HKn.out,by rw [HNi.out],(by have h1:=(World.ownsRow.lt HF.out.own b' rfl).1; have h2:=HX.out.size; have h3:=HBd.out; omega),by rw [hin1]; exact HSr.out,HX.out.trans HF.out.ext⟩
       ·go_simp
        have hx1:XF wk ((u0.alloc (.cells #[.int .i64 g] 3))):=(hx0.alloc (.cells #[.int .i64 g] 3))
        have HS1:=bH (show blk ((u0.alloc (.cells #[.int .i64 g] 3))) u0.heap.size=some (.cells #[.int .i64 g] 3 (0,0)) from blk_alloc_at u0 _)
        have HN1:=bH (fun (e:Value.ownBlock (.slice (some ⟨B,0,none⟩) 0 0)=some u0.heap.size)=>Nat.lt_irrefl _ ((HO0.out).lt _ e))
        have HO1:=bH ((HO0.out).keep ((Ext.refl (fun _=>False) u0).alloc (.cells #[.int .i64 g] 3)))
        generalize (u0.alloc (.cells #[.int .i64 g] 3))=u1 at *
        generalize u0.heap.size=s1 at *
        refine hK.out _ _ (hx1) (fun hHeld=>?_)
        clear hK K
        (try go_frame)
        refine hst 4 (h:=fun K hK=>?_)
        refine step_append_list (f:=cI) rfl (.tmp 31) (.tmp 34) rfl cI_len (l.take k) (fun x _=>cI_one x) Tryz.underlying27 Tryz.infoInt rfl (by decide) (by decide) B (.slice (some ⟨B,0,none⟩) 0 0) rfl (HO1.out).own _ _ _ rfl (((HZ.out).take HKn.out).keep hx1) (by simp only [List.length_append,List.length_take,List.length_drop,List.length_nil,List.length_singleton,HLl.out]; have:=HNs.out; omega) (HO1.out).low (fun u2v u2 g1 g2 g3=>?_)
        have HO2:Hid (InsSt wk u2 B u2v (l.take k)):=bH ((HO1.out).app g1 g2)
        have HS2:=bH ((g2.blk (blk_lt HS1.out) (fun e=>(HN1.out) (by cases e; rfl))).trans HS1.out)
        have hx2:=HO2.out.ext
        clear g1 g2 g3
        refine hK.out _ _ (hx2) (fun hHeld=>?_)
        clear hK K
        (try go_frame)
        refine hst 10 (h:=fun K hK=>?_)
        refine step_append_el (f:=cI) rfl (.tmp 35) (.tmp 40) rfl cI_len g (cI_one g) Tryz.underlying27 Tryz.infoInt rfl (by decide) (by decide) B u2v (l.take k) rfl (HO2.out).own ⟨s1,0,none⟩ 1 rfl (cells_one HS2.out) (by simp only [List.length_append,List.length_take,List.length_drop,List.length_nil,List.length_singleton,HLl.out]; have:=HNs.out; omega) (HO2.out).low (fun u3v u3 g1 g2 g3=>?_)
        have HO3:Hid (InsSt wk u3 B u3v ((l.take k)++[g])):=bH ((HO2.out).app g1 g2)
        have hx3:=HO3.out.ext
        clear g1 g2 g3
        refine hK.out _ _ (hx3) (fun hHeld=>?_)
        clear hK K
        (try go_frame)
        refine hst 14 (h:=fun K hK=>?_)
        refine step_append_list (f:=cI) rfl (.tmp 41) (.tmp 44) rfl cI_len (l.drop k) (fun x _=>cI_one x) Tryz.underlying27 Tryz.infoInt rfl (by decide) (by decide) B u3v rfl (HO3.out).own _ _ _ rfl (((HZ.out).dropIf HKn.out).keep hx3) (by simp only [List.length_append,List.length_take,List.length_drop,List.length_nil,List.length_singleton,HLl.out]; have:=HNs.out; have:=HKn.out; omega) (HO3.out).low (fun u4v u4 g1 g2 g3=>?_)
        have HO4:Hid (InsSt wk u4 B u4v (((l.take k)++[g])++(l.drop k))):=bH ((HO3.out).app g1 g2)
        have hx4:=HO4.out.ext
        clear g1 g2 g3
        refine hK.out _ _ (hx4) (fun hHeld=>?_)
        clear hK K
        (try go_frame)
        refine ht 15 (h:=?_)
        (try go_frame)
        refine wpAnyH_done (by kernel_rfl) ?_ _
        have HF:=bH (show InsSt wk u4 B u4v (insK l k g) from HO4.out)
        obtain ⟨b',c',e9⟩:=HF.out.shape (by rw [insK_length HLl.out HKn.out]; exact Nat.succ_pos _)
        rw [insK_length HLl.out HKn.out] at e9
        subst e9
        generalize (if c=k then (some ⟨b,0,none⟩:Option Addr) else some ⟨b,k,none⟩)=xo
        go_wp2
        go_roundg (m - (i+1))
        case measure=>omega
        case rel=>exact ⟨i+1,b',n+1,c',insK l k g,by omega,rfl,rfl,by go_num,HF.out.inz,insK_length HLl.out HKn.out,by rw [HNi.out],(by have h1:=(World.ownsRow.lt HF.out.own b' rfl).1; have h2:=HX.out.size; have h3:=HBd.out; omega),by rw [hin1]; exact HSr.out,HX.out.trans HF.out.ext⟩
      ·go_simp
       have hx0:XF wk ((wk.alloc (.cells #[.int .i64 g] 3)).drew):=((Ext.refl (fun _=>False) wk).alloc (.cells #[.int .i64 g] 3)).drew
       have HS0:=bH (show blk ((wk.alloc (.cells #[.int .i64 g] 3)).drew) wk.heap.size=some (.cells #[.int .i64 g] 3 (0,0)) from blk_alloc_at wk _)
       generalize (wk.alloc (.cells #[.int .i64 g] 3)).drew=u0 at *
       rw [HBd.out]
       rw [HBd.out] at HS0
       refine hK.out _ _ (hx0) (fun hHeld=>?_)
       clear hK K
       (try go_frame)
       refine hst 0 (h:=fun K hK=>?_)
       go_simp
       have hx1:XF wk ((u0.alloc (.cells #[] 3))):=(hx0.alloc (.cells #[] 3))
       have HO1:=bH (show InsSt wk ((u0.alloc (.cells #[] 3))) B (.slice (some ⟨u0.heap.size,0,none⟩) 0 0) [] from InsSt.new HBd.out hx1 (blk_alloc_at u0 _) hx0.size)
       have HS1:=bH (show blk ((u0.alloc (.cells #[] 3))) B=some (.cells #[.int .i64 g] 3 (0,0)) from blk_keep HS0.out ((Ext.refl (fun _=>False) u0).alloc (.cells #[] 3)))
       have HN1:=bH (show B≠u0.heap.size from Nat.ne_of_lt (blk_lt HS0.out))
       generalize (u0.alloc (.cells #[] 3))=u1 at *
       generalize u0.heap.size=s1 at *
       refine hK.out _ _ (hx1) (fun hHeld=>?_)
       clear hK K
       (try go_frame)
       refine hst 4 (h:=fun K hK=>?_)
       refine step_append_list (f:=cI) rfl (.tmp 31) (.tmp 34) rfl cI_len (l.take k) (fun x _=>cI_one x) Tryz.underlying27 Tryz.infoInt rfl (by decide) (by decide) B (.slice (some ⟨s1,0,none⟩) 0 0) rfl (HO1.out).own _ _ _ rfl (((HZ.out).take HKn.out).keep hx1) (by simp only [List.length_append,List.length_take,List.length_drop,List.length_nil,List.length_singleton,HLl.out]; have:=HNs.out; omega) (HO1.out).low (fun u2v u2 g1 g2 g3=>?_)
       have HO2:Hid (InsSt wk u2 B u2v (l.take k)):=bH ((HO1.out).app g1 g2)
       have HS2:=bH ((g2.blk (blk_lt HS1.out) (fun e=>(HN1.out) (by cases e; rfl))).trans HS1.out)
       have hx2:=HO2.out.ext
       clear g1 g2 g3
       refine hK.out _ _ (hx2) (fun hHeld=>?_)
       clear hK K
       (try go_frame)
       refine hst 10 (h:=fun K hK=>?_)
       refine step_append_el (f:=cI) rfl (.tmp 35) (.tmp 40) rfl cI_len g (cI_one g) Tryz.underlying27 Tryz.infoInt rfl (by decide) (by decide) B u2v (l.take k) rfl (HO2.out).own ⟨B,0,none⟩ 1 rfl (cells_one HS2.out) (by simp only [List.length_append,List.length_take,List.length_drop,List.length_nil,List.length_singleton,HLl.out]; have:=HNs.out; omega) (HO2.out).low (fun u3v u3 g1 g2 g3=>?_)
       have HO3:Hid (InsSt wk u3 B u3v ((l.take k)++[g])):=bH ((HO2.out).app g1 g2)
       have hx3:=HO3.out.ext
       clear g1 g2 g3
       refine hK.out _ _ (hx3) (fun hHeld=>?_)
       clear hK K
       (try go_frame)
       refine hst 14 (h:=fun K hK=>?_)
       refine step_append_list (f:=cI) rfl (.tmp 41) (.tmp 44) rfl cI_len (l.drop k) (fun x _=>cI_one x) Tryz.underlying27 Tryz.infoInt rfl (by decide) (by decide) B u3v rfl (HO3.out).own _ _ _ rfl (((HZ.out).dropIf HKn.out).keep hx3) (by simp only [List.length_append,List.length_take,List.length_drop,List.length_nil,List.length_singleton,HLl.out]; have:=HNs.out; have:=HKn.out; omega) (HO3.out).low (fun u4v u4 g1 g2 g3=>?_)
       have HO4:Hid (InsSt wk u4 B u4v (((l.take k)++[g])++(l.drop k))):=bH ((HO3.out).app g1 g2)
       have hx4:=HO4.out.ext
       clear g1 g2 g3
       refine hK.out _ _ (hx4) (fun hHeld=>?_)
       clear hK K
       (try go_frame)
       refine ht 15 (h:=?_)
       (try go_frame)
       refine wpAnyH_done (by kernel_rfl) ?_ _
       have HF:=bH (show InsSt wk u4 B u4v (insK l k g) from HO4.out)
       obtain ⟨b',c',e9⟩:=HF.out.shape (by rw [insK_length HLl.out HKn.out]; exact Nat.succ_pos _)
       rw [insK_length HLl.out HKn.out] at e9
       subst e9
       generalize (if c=k then (some ⟨b,0,none⟩:Option Addr) else some ⟨b,k,none⟩)=xo
       go_wp2
       go_roundg (m - (i+1))
       case measure=>omega
       case rel=>exact ⟨i+1,b',n+1,c',insK l k g,by omega,rfl,rfl,by go_num,HF.out.inz,insK_length HLl.out HKn.out,by rw [HNi.out],(by have h1:=(World.ownsRow.lt HF.out.own b' rfl).1; have h2:=HX.out.size; have h3:=HBd.out; omega),by rw [hin1]; exact HSr.out,HX.out.trans HF.out.ext⟩
    ·have k0:¬ (0:Int)<(k:Int):=by omega
     have HK0:=bH hk0
     go_upto_region 6 with fail
     go_quiet (fail)
     rename_i nq
     clear e1 k0 hk0
     have HKn:=bH hkk
     have HSr:=bH (HSi.out k (by rw [HLl.out]; exact hkk) (fun h=>absurd h HK0.out) (fun j h1 h2=>HAl.out j h1 (by rw [<- HLl.out]; exact h2)))
     obtain ⟨wk,hwk9⟩:∃ x,x=wr.drewN nq:=⟨_,rfl⟩
     replace HX:=bH (show XF w wk from by rw [hwk9]; exact HX.out.trans (hxk.drewN nq))
     replace HZ:=bH (show Inz wk (.slice (some ⟨b,0,none⟩) n c) l from by rw [hwk9]; exact HZk.out.keep ((Ext.refl (fun _=>False) wr).drewN nq))
     have e1:=cq (show wk.cell? _=some (.int .i64 g) from by rw [hwk9]; exact cell_keep HE.out (hxk.drewN nq))
     obtain ⟨B,hB⟩:∃ q,wk.heap.size=q:=⟨_,rfl⟩
     have HBd:=bH hB
     rw [<- hwk9]
     clear hB HAl HZk hwk9 hxk HSi HE
     have k6:(k:Int)<=(n:Int):=by omega
     have k7:(0:Int)<=(k:Int):=by omega
     go_upto_region 8 with fail
     refine wp_region_held_drew (S:=(XF wk)) (by kernel_rfl) ((Ext.refl _ wk).drew) (fun hHeld=>?_)
     refine ht 1 (h:=(ht 2 (h:=(ht 3 (h:=(ht 5 (h:=(ht 6 (h:=(ht 7 (h:=(ht 8 (h:=(ht 11 (h:=(ht 12 (h:=(ht 13 (h:=?_)))))))))))))))))))
     (try go_frame)
     refine held_two 0 9 rfl rfl (by kernel_rfl) (fun K hK=>?_) (fun K hK=>?_)
     ·go_simp
      have hx0:XF wk ((wk.alloc (.cells #[] 3)).drew):=((Ext.refl (fun _=>False) wk).alloc (.cells #[] 3)).drew
      have HO0:=bH (show InsSt wk ((wk.alloc (.cells #[] 3)).drew) B (.slice (some ⟨wk.heap.size,0,none⟩) 0 0) [] from InsSt.new HBd.out hx0 (blk_alloc_at wk _) (Ext.refl (fun _=>False) wk).size)
      generalize (wk.alloc (.cells #[] 3)).drew=u0 at *
      rw [HBd.out]
      rw [HBd.out] at HO0
      refine hK.out _ _ (hx0) (fun hHeld=>?_)
      clear hK K
      (try go_frame)
      refine held_two 4 9 rfl rfl (by kernel_rfl) (fun K hK=>?_) (fun K hK=>?_)
      ·refine step_append_list (f:=cI) rfl (.tmp 31) (.tmp 34) rfl cI_len (l.take k) (fun x _=>cI_one x) Tryz.underlying27 Tryz.infoInt rfl (by decide) (by decide) B (.slice (some ⟨B,0,none⟩) 0 0) rfl (HO0.out).own _ _ _ rfl (((HZ.out).take HKn.out).keep hx0) (by simp only [List.length_append,List.length_take,List.length_drop,List.length_nil,List.length_singleton,HLl.out]; have:=HNs.out; omega) (HO0.out).low (fun u1v u1 g1 g2 g3=>?_)
       have HO1:Hid (InsSt wk u1 B u1v (l.take k)):=bH ((HO0.out).app g1 g2)
       have hx1:=HO1.out.ext
       clear g1 g2 g3
       refine hK.out _ _ (hx1) (fun hHeld=>?_)
       clear hK K
       (try go_frame)
       refine hst 9 (h:=fun K hK=>?_)
       go_simp
       have hx2:XF wk ((u1.alloc (.cells #[.int .i64 g] 3))):=(hx1.alloc (.cells #[.int .i64 g] 3))
       have HS2:=bH (show blk ((u1.alloc (.cells #[.int .i64 g] 3))) u1.heap.size=some (.cells #[.int .i64 g] 3 (0,0)) from blk_alloc_at u1 _)
       have HN2:=bH (fun (e:Value.ownBlock u1v=some u1.heap.size)=>Nat.lt_irrefl _ ((HO1.out).lt _ e))
       have HO2:=bH ((HO1.out).keep ((Ext.refl (fun _=>False) u1).alloc (.cells #[.int .i64 g] 3)))
       generalize (u1.alloc (.cells #[.int .i64 g] 3))=u2 at *
       generalize u1.heap.size=s2 at *
       refine hK.out _ _ (hx2) (fun hHeld=>?_)
       clear hK K
       (try go_frame)
       refine hst 10 (h:=fun K hK=>?_)
       refine step_append_el (f:=cI) rfl (.tmp 35) (.tmp 40) rfl cI_len g (cI_one g) Tryz.underlying27 Tryz.infoInt rfl (by decide) (by decide) B u1v (l.take k) rfl (HO2.out).own ⟨s2,0,none⟩ 1 rfl (cells_one HS2.out) (by simp only [List.length_append,List.length_take,List.length_drop,List.length_nil,List.length_singleton,HLl.out]; have:=HNs.out; omega) (HO2.out).low (fun u3v u3 g1 g2 g3=>?_)
       have HO3:Hid (InsSt wk u3 B u3v ((l.take k)++[g])):=bH ((HO2.out).app g1 g2)
       have hx3:=HO3.out.ext
       clear g1 g2 g3
       refine hK.out _ _ (hx3) (fun hHeld=>?_)
       clear hK K
       (try go_frame)
       refine hst 14 (h:=fun K hK=>?_)
       refine step_append_list (f:=cI) rfl (.tmp 41) (.tmp 44) rfl cI_len (l.drop k) (fun x _=>cI_one x) Tryz.underlying27 Tryz.infoInt rfl (by decide) (by decide) B u3v rfl (HO3.out).own _ _ _ rfl (((HZ.out).dropIf HKn.out).keep hx3) (by simp only [List.length_append,List.length_take,List.length_drop,List.length_nil,List.length_singleton,HLl.out]; have:=HNs.out; have:=HKn.out; omega) (HO3.out).low (fun u4v u4 g1 g2 g3=>?_)
       have HO4:Hid (InsSt wk u4 B u4v (((l.take k)++[g])++(l.drop k))):=bH ((HO3.out).app g1 g2)
       have hx4:=HO4.out.ext
       clear g1 g2 g3
       refine hK.out _ _ (hx4) (fun hHeld=>?_)
       clear hK K
       (try go_frame)
       refine ht 15 (h:=?_)
       (try go_frame)
       refine wpAnyH_done (by kernel_rfl) ?_ _
       have HF:=bH (show InsSt wk u4 B u4v (insK l k g) from HO4.out)
       obtain ⟨b',c',e9⟩:=HF.out.shape (by rw [insK_length HLl.out HKn.out]; exact Nat.succ_pos _)
       rw [insK_length HLl.out HKn.out] at e9
       subst e9
       generalize (if c=k then (some ⟨b,0,none⟩:Option Addr) else some ⟨b,k,none⟩)=xo
       go_wp2
       go_roundg (m - (i+1))
       case measure=>omega
       case rel=>exact ⟨i+1,b',n+1,c',insK l k g,by omega,rfl,rfl,by go_num,HF.out.inz,insK_length HLl.out HKn.out,by rw [HNi.out],(by have h1:=(World.ownsRow.lt HF.out.own b' rfl).1; have h2:=HX.out.size; have h3:=HBd.out; omega),by rw [hin1]; exact HSr.out,HX.out.trans HF.out.ext⟩
      ·go_simp
       have hx1:XF wk ((u0.alloc (.cells #[.int .i64 g] 3))):=(hx0.alloc (.cells #[.int .i64 g] 3))
       have HS1:=bH (show blk ((u0.alloc (.cells #[.int .i64 g] 3))) u0.heap.size=some (.cells #[.int .i64 g] 3 (0,0)) from blk_alloc_at u0 _)
       have HN1:=bH (fun (e:Value.ownBlock (.slice (some ⟨B,0,none⟩) 0 0)=some u0.heap.size)=>Nat.lt_irrefl _ ((HO0.out).lt _ e))
       have HO1:=bH ((HO0.out).keep ((Ext.refl (fun _=>False) u0).alloc (.cells #[.int .i64 g] 3)))
       generalize (u0.alloc (.cells #[.int .i64 g] 3))=u1 at *
       generalize u0.heap.size=s1 at *
       refine hK.out _ _ (hx1) (fun hHeld=>?_)
       clear hK K
       (try go_frame)
       refine hst 4 (h:=fun K hK=>?_)
       refine step_append_list (f:=cI) rfl (.tmp 31) (.tmp 34) rfl cI_len (l.take k) (fun x _=>cI_one x) Tryz.underlying27 Tryz.infoInt rfl (by decide) (by decide) B (.slice (some ⟨B,0,none⟩) 0 0) rfl (HO1.out).own _ _ _ rfl (((HZ.out).take HKn.out).keep hx1) (by simp only [List.length_append,List.length_take,List.length_drop,List.length_nil,List.length_singleton,HLl.out]; have:=HNs.out; omega) (HO1.out).low (fun u2v u2 g1 g2 g3=>?_)
       have HO2:Hid (InsSt wk u2 B u2v (l.take k)):=bH ((HO1.out).app g1 g2)
       have HS2:=bH ((g2.blk (blk_lt HS1.out) (fun e=>(HN1.out) (by cases e; rfl))).trans HS1.out)
       have hx2:=HO2.out.ext
       clear g1 g2 g3
       refine hK.out _ _ (hx2) (fun hHeld=>?_)
       clear hK K
       (try go_frame)
       refine hst 10 (h:=fun K hK=>?_)
       refine step_append_el (f:=cI) rfl (.tmp 35) (.tmp 40) rfl cI_len g (cI_one g) Tryz.underlying27 Tryz.infoInt rfl (by decide) (by decide) B u2v (l.take k) rfl (HO2.out).own ⟨s1,0,none⟩ 1 rfl (cells_one HS2.out) (by simp only [List.length_append,List.length_take,List.length_drop,List.length_nil,List.length_singleton,HLl.out]; have:=HNs.out; omega) (HO2.out).low (fun u3v u3 g1 g2 g3=>?_)
       have HO3:Hid (InsSt wk u3 B u3v ((l.take k)++[g])):=bH ((HO2.out).app g1 g2)
       have hx3:=HO3.out.ext
       clear g1 g2 g3
       refine hK.out _ _ (hx3) (fun hHeld=>?_)
       clear hK K
       (try go_frame)
       refine hst 14 (h:=fun K hK=>?_)
       refine step_append_list (f:=cI) rfl (.tmp 41) (.tmp 44) rfl cI_len (l.drop k) (fun x _=>cI_one x) Tryz.underlying27 Tryz.infoInt rfl (by decide) (by decide) B u3v rfl (HO3.out).own _ _ _ rfl (((HZ.out).dropIf HKn.out).keep hx3) (by simp only [List.length_append,List.length_take,List.length_drop,List.length_nil,List.length_singleton,HLl.out]; have:=HNs.out; have:=HKn.out; omega) (HO3.out).low (fun u4v u4 g1 g2 g3=>?_)
       have HO4:Hid (InsSt wk u4 B u4v (((l.take k)++[g])++(l.drop k))):=bH ((HO3.out).app g1 g2)
       have hx4:=HO4.out.ext
       clear g1 g2 g3
       refine hK.out _ _ (hx4) (fun hHeld=>?_)
       clear hK K
       (try go_frame)
       refine ht 15 (h:=?_)
       (try go_frame)
       refine wpAnyH_done (by kernel_rfl) ?_ _
       have HF:=bH (show InsSt wk u4 B u4v (insK l k g) from HO4.out)
       obtain ⟨b',c',e9⟩:=HF.out.shape (by rw [insK_length HLl.out HKn.out]; exact Nat.succ_pos _)
       rw [insK_length HLl.out HKn.out] at e9
       subst e9
       generalize (if c=k then (some ⟨b,0,none⟩:Option Addr) else some ⟨b,k,none⟩)=xo
       go_wp2
       go_roundg (m - (i+1))
       case measure=>omega
       case rel=>exact ⟨i+1,b',n+1,c',insK l k g,by omega,rfl,rfl,by go_num,HF.out.inz,insK_length HLl.out HKn.out,by rw [HNi.out],(by have h1:=(World.ownsRow.lt HF.out.own b' rfl).1; have h2:=HX.out.size; have h3:=HBd.out; omega),by rw [hin1]; exact HSr.out,HX.out.trans HF.out.ext⟩
     ·go_simp
      have hx0:XF wk ((wk.alloc (.cells #[.int .i64 g] 3)).drew):=((Ext.refl (fun _=>False) wk).alloc (.cells #[.int .i64 g] 3)).drew
      have HS0:=bH (show blk ((wk.alloc (.cells #[.int .i64 g] 3)).drew) wk.heap.size=some (.cells #[.int .i64 g] 3 (0,0)) from blk_alloc_at wk _)
      generalize (wk.alloc (.cells #[.int .i64 g] 3)).drew=u0 at *
      rw [HBd.out]
      rw [HBd.out] at HS0
      refine hK.out _ _ (hx0) (fun hHeld=>?_)
      clear hK K
      (try go_frame)
      refine hst 0 (h:=fun K hK=>?_)
      go_simp
      have hx1:XF wk ((u0.alloc (.cells #[] 3))):=(hx0.alloc (.cells #[] 3))
      have HO1:=bH (show InsSt wk ((u0.alloc (.cells #[] 3))) B (.slice (some ⟨u0.heap.size,0,none⟩) 0 0) [] from InsSt.new HBd.out hx1 (blk_alloc_at u0 _) hx0.size)
      have HS1:=bH (show blk ((u0.alloc (.cells #[] 3))) B=some (.cells #[.int .i64 g] 3 (0,0)) from blk_keep HS0.out ((Ext.refl (fun _=>False) u0).alloc (.cells #[] 3)))
      have HN1:=bH (show B≠u0.heap.size from Nat.ne_of_lt (blk_lt HS0.out))
      generalize (u0.alloc (.cells #[] 3))=u1 at *
      generalize u0.heap.size=s1 at *
      refine hK.out _ _ (hx1) (fun hHeld=>?_)
      clear hK K
      (try go_frame)
      refine hst 4 (h:=fun K hK=>?_)
      refine step_append_list (f:=cI) rfl (.tmp 31) (.tmp 34) rfl cI_len (l.take k) (fun x _=>cI_one x) Tryz.underlying27 Tryz.infoInt rfl (by decide) (by decide) B (.slice (some ⟨s1,0,none⟩) 0 0) rfl (HO1.out).own _ _ _ rfl (((HZ.out).take HKn.out).keep hx1) (by simp only [List.length_append,List.length_take,List.length_drop,List.length_nil,List.length_singleton,HLl.out]; have:=HNs.out; omega) (HO1.out).low (fun u2v u2 g1 g2 g3=>?_)
      have HO2:Hid (InsSt wk u2 B u2v (l.take k)):=bH ((HO1.out).app g1 g2)
      have HS2:=bH ((g2.blk (blk_lt HS1.out) (fun e=>(HN1.out) (by cases e; rfl))).trans HS1.out)
      have hx2:=HO2.out.ext
      clear g1 g2 g3
      refine hK.out _ _ (hx2) (fun hHeld=>?_)
      clear hK K
      (try go_frame)
      refine hst 10 (h:=fun K hK=>?_)
      refine step_append_el (f:=cI) rfl (.tmp 35) (.tmp 40) rfl cI_len g (cI_one g) Tryz.underlying27 Tryz.infoInt rfl (by decide) (by decide) B u2v (l.take k) rfl (HO2.out).own ⟨B,0,none⟩ 1 rfl (cells_one HS2.out) (by simp only [List.length_append,List.length_take,List.length_drop,List.length_nil,List.length_singleton,HLl.out]; have:=HNs.out; omega) (HO2.out).low (fun u3v u3 g1 g2 g3=>?_)
      have HO3:Hid (InsSt wk u3 B u3v ((l.take k)++[g])):=bH ((HO2.out).app g1 g2)
      have hx3:=HO3.out.ext
      clear g1 g2 g3
      refine hK.out _ _ (hx3) (fun hHeld=>?_)
      clear hK K
      (try go_frame)
      refine hst 14 (h:=fun K hK=>?_)
      refine step_append_list (f:=cI) rfl (.tmp 41) (.tmp 44) rfl cI_len (l.drop k) (fun x _=>cI_one x) Tryz.underlying27 Tryz.infoInt rfl (by decide) (by decide) B u3v rfl (HO3.out).own _ _ _ rfl (((HZ.out).dropIf HKn.out).keep hx3) (by simp only [List.length_append,List.length_take,List.length_drop,List.length_nil,List.length_singleton,HLl.out]; have:=HNs.out; have:=HKn.out; omega) (HO3.out).low (fun u4v u4 g1 g2 g3=>?_)
      have HO4:Hid (InsSt wk u4 B u4v (((l.take k)++[g])++(l.drop k))):=bH ((HO3.out).app g1 g2)
      have hx4:=HO4.out.ext
      clear g1 g2 g3
      refine hK.out _ _ (hx4) (fun hHeld=>?_)
      clear hK K
      (try go_frame)
      refine ht 15 (h:=?_)
      (try go_frame)
      refine wpAnyH_done (by kernel_rfl) ?_ _
      have HF:=bH (show InsSt wk u4 B u4v (insK l k g) from HO4.out)
      obtain ⟨b',c',e9⟩:=HF.out.shape (by rw [insK_length HLl.out HKn.out]; exact Nat.succ_pos _)
      rw [insK_length HLl.out HKn.out] at e9
      subst e9
      generalize (if c=k then (some ⟨b,0,none⟩:Option Addr) else some ⟨b,k,none⟩)=xo
      go_wp2
      go_roundg (m - (i+1))
      case measure=>omega
      case rel=>exact ⟨i+1,b',n+1,c',insK l k g,by omega,rfl,rfl,by go_num,HF.out.inz,insK_length HLl.out HKn.out,by rw [HNi.out],(by have h1:=(World.ownsRow.lt HF.out.own b' rfl).1; have h2:=HX.out.size; have h3:=HBd.out; omega),by rw [hin1]; exact HSr.out,HX.out.trans HF.out.ext⟩
  ·obtain rfl:i=m:=by omega
   have i0:¬ (i:Int)<(i:Int):=by omega
   have hle:=HLs.out.cap.1
   subst hni
   go_wp2
   go_ret
   exact ⟨_,_,c,l,rfl,HZ.out,HBw.out,by rw [<- List.take_length (l:=ls),hle]; exact hsr,HX.out⟩
def binsT (p:ProgV) (ts:List TermV):List Int:=(ts.map (·.var)).filter (binB p)
theorem binsT_snoc {p:ProgV} {ts:List TermV} {t:TermV}:binsT p (ts++[t])=binsT p ts++if binB p t.var then [t.var] else []:=by
 unfold binsT
 rw [List.map_append,List.filter_append]
 congr 1
 by_cases h:binB p t.var=true <;> simp [h]
structure CanOk (p:ProgV) (x:List Rat) (ts:List TermV) (l:List Int):Prop where
 ord:l.Pairwise (bef x)
 mem:∀ v,v ∈ l↔v ∈ binsT p ts
theorem can_ins {p:ProgV} {x:List Rat} {ts:List TermV} {t:TermV} {l:List Int} {k:Nat} (h:CanOk p x ts l) (hb:binB p t.var=true) (hv:∀ s ∈ ts,s.var<t.var) (hk:k<=l.length) (h1:0<k->¬ atQ x (l.getD (k - 1) 0)<atQ x t.var) (h2:∀ j,k<=j->j<l.length->atQ x (l.getD j 0)<atQ x t.var):CanOk p x (ts++[t]) (insK l k t.var):=by
 refine ⟨bef_insert h.ord (fun u hu=>?_) hk h1 h2,fun v=>?_⟩
 ·have:=(h.mem u).1 hu
  unfold binsT at this
  obtain ⟨s,hs,rfl⟩:=List.mem_map.1 (List.mem_filter.1 this).1
  exact hv s hs
 ·unfold insK
  rw [mem_insert,binsT_snoc,if_pos hb,List.mem_append,List.mem_singleton,h.mem]
  exact Or.comm
theorem can_skip {p:ProgV} {x:List Rat} {ts:List TermV} {t:TermV} {l:List Int} (h:CanOk p x ts l) (hb:binB p t.var=false):CanOk p x (ts++[t]) l :=
 ⟨h.ord,fun v=>by rw [binsT_snoc,hb,h.mem]; simp⟩
def CanPost (w:World) (p:ProgV) (r:RowV) (x:List Rat) (e:Ending) (w':World):Prop:=∃ b n c l,e=.returned (.slice (some ⟨b,0,none⟩) n c)/\Inz w' (.slice (some ⟨b,0,none⟩) n c) l/\l.length=n/\n<=r.terms.length/\OrdOk p r x l/\XF w w'
theorem Cand_any (w:World) (pv xv:Value) (p:ProgV) (ri:Nat) (x:List Rat) (L:Nat) (hp:IsPrg w pv p) (hval:validB p=true) (hri:ri<p.rows.length) (hx:Rats w xv x L) (h1:1<=L) (hL:L<=4194304) (hl:(p.r ri).terms.length<=12):Calls Tryz.prog 44 #[pv,.int .i64 ri,xv] w (CanPost w p (p.r ri) x):=by
 obtain ⟨vo,vn,vc,ro,rn,rc,rfl⟩:=hp.slicesP
 obtain ⟨hvs,hrs,hl1,hl2⟩:=prg_parts hp
 obtain ⟨xo,xc,rfl,-⟩:=hx.shape
 have HPr:=bH hp
 have HRs:=bH hrs
 have HXs:=bH hx
 have HPw:=bH (show (p.r ri).terms.Pairwise (fun a b=>a.var<b.var) from by
  have h:=valid_row hval hri
  unfold rowB at h
  simp only [Bool.and_eq_true] at h
  exact terms_pair h.2)
 obtain ⟨tl,htl⟩:∃ q,(p.r ri).terms.length=q:=⟨_,rfl⟩
 have HTl:=bH htl
 obtain ⟨xn,hxn⟩:∃ q,x.length=q:=⟨_,rfl⟩
 have HRn:=bH hl2
 have r1:(ri:Int)<(rn:Int):=by omega
 have r0:(0:Int)<=(ri:Int):=by omega
 rw [htl] at hl
 rw [hxn] at HXs ⊢
 have HRi:=bH hri
 clear hp hvs hrs hl1 hl2 hx htl hxn hri hval
 have hxa:=(Ext.refl (fun _=>False) w).alloc (.cells #[.slice vo vn vc,.slice ro rn rc] 25)
 have hxb:=(Ext.refl (fun _=>False) (w.alloc (.cells #[.slice vo vn vc,.slice ro rn rc] 25))).alloc (.cells #[] 3)
 have hb2:blk ((w.alloc (.cells #[.slice vo vn vc,.slice ro rn rc] 25)).alloc (.cells #[] 3)) (w.heap.size+1)=some (.cells #[] 3 (0,0)):=by
  have h:=blk_alloc_at (w.alloc (.cells #[.slice vo vn vc,.slice ro rn rc] 25)) (.cells #[] 3)
  rwa [World.size_alloc] at h
 have HB:=bH (bI (blk_keep (blk_alloc_at w (.cells #[.slice vo vn vc,.slice ro rn rc] 25)) hxb) (bI (show Inz ((w.alloc (.cells #[.slice vo vn vc,.slice ro rn rc] 25)).alloc (.cells #[] 3)) (.slice (some ⟨w.heap.size+1,0,none⟩) 0 0) [] from IRow.inz (base:=0) (ownsRow_empty 1 (Nat.zero_le _) hb2)) (hxa.trans hxb)))
 clear hxa hxb hb2
 go_enter Tryz.func44,Tryz.ntmps44
 go_upto_region 2 with fail
 generalize (w.alloc (.cells #[.slice vo vn vc,.slice ro rn rc] 25)).alloc (.cells #[] 3)=w1 at *
 obtain ⟨pb,hpb⟩:∃ q,w.heap.size=q:=⟨_,rfl⟩
 rw [hpb] at HB ⊢
 clear hpb
 have t9:(tl:Int)<=9223372036854775807:=by omega
 go_wp2_with fail
 go_loopg [7,8] tl (fun gg v7 v8 wr=>∃ (i b n c:Nat) (l:List Int),i<=tl/\gg=tl - i/\v7=.slice (some ⟨b,0,none⟩) n c/\v8=.int .i64 i/\Inz wr (.slice (some ⟨b,0,none⟩) n c) l/\l.length=n/\n<=i/\CanOk p x ((p.r ri).terms.take i) l/\blk wr pb=some (.cells #[.slice vo vn vc,.slice ro rn rc] 25 (0,0))/\XF w wr)
 case atStart=>exact ⟨0,_,_,_,[],Nat.zero_le _,rfl,rfl,rfl,HB.out.2.1,rfl,Nat.le_refl _,⟨List.Pairwise.nil,fun v=>Iff.rfl⟩,HB.out.1,HB.out.2.2⟩
 case round =>
  clear HB
  obtain ⟨i,b,n,c,l,hi,rfl,rfl,rfl,hz,hll,hni,hsr,hbp,hx⟩:=hrel
  have HZ:=bH hz
  have HLl:=bH hll
  have HX:=bH (bI hbp hx)
  have p0:=cellq hbp 0 rfl
  have p1:=cellq hbp 1 rfl
  obtain ⟨rb,roff,ta,tc,hro,-,-,-,-,e3,-,-,hT⟩:=(HRs.out.keep hx).atp ri HRi.out
  rw [HTl.out] at e3
  have HT:=bH hT
  have HSc:=bH hsr
  have HNi:=bH hni
  clear hz hll hbp hT hsr hni
  have hro':=hro
  subst hro'
  clear hro
  by_cases hin:i<tl
  ·have i0:(i:Int)<(tl:Int):=by omega
   have i1:(0:Int)<=(i:Int):=by omega
   have hil:i<(p.r ri).terms.length:=by rw [HTl.out]; exact hin
   obtain ⟨tb,toff,hta,-,f0,-,htk⟩:=HT.out.at i hil
   subst hta
   have hin1:(p.r ri).terms.take (i+1)=(p.r ri).terms.take i++[(p.r ri).terms.getD i term0]:=by rw [List.take_succ_eq_append_getElem hil,getD_lt hil]
   have hlt:∀ s ∈ (p.r ri).terms.take i,s.var<((p.r ri).terms.getD i term0).var:=fun s hs=>by
    have h2:=HPw.out
    rw [<- List.take_append_drop (i+1) (p.r ri).terms,hin1] at h2
    exact (List.pairwise_append.1 (List.pairwise_append.1 h2).1).2.2 s hs _ (List.mem_singleton.2 rfl)
   have HSk:=bH (fun hb=>can_skip (t:=(p.r ri).terms.getD i term0) HSc.out hb)
   have HSj:=bH (fun hb k hk h1 h2=>can_ins (k:=k) (t:=(p.r ri).terms.getD i term0) HSc.out hb hlt hk h1 h2)
   rw [<- hin1] at HSk HSj
   obtain ⟨g,hg⟩:∃ q,((p.r ri).terms.getD i term0).var=q:=⟨_,rfl⟩
   rw [hg] at f0 HSk HSj
   clear hin1 hlt htk hg HSc hil
   have HNs:=bH (show n<=900 from by have:=HNi.out; omega)
   have n1:(n:Int)<=1000:=by have:=HNs.out; omega
   have HBi:=bH (Bin_any wr _ p (HPr.out.keep hx) g)
   have HAt:=bH (fun W (hW:XF wr W) (k:Int)=>At_any W (.slice xo xn xc) x L (HXs.out.keep (hx.trans hW)) k)
   obtain ⟨bb,hbb⟩:∃ q,binB p g=q:=⟨_,rfl⟩
   rw [hbb] at HBi HSk HSj
   clear hbb
   cases bb with
   | false =>
    replace HSk:=bH (HSk.out rfl)
    go_wp2_with (go_at_call 80; (with_reducible refine (HBi.out).mono ?_); rintro q3 w13 ⟨rfl,hx13⟩)
    go_roundg (tl - (i+1))
    case measure=>omega
    case rel=>exact ⟨i+1,b,n,c,l,by omega,rfl,rfl,by go_num,HZ.out.keep hx13,HLl.out,by have:=HNi.out; omega,HSk.out,blk_keep HX.out.1 hx13,HX.out.2.trans hx13⟩
   | true =>
    have HSi:=bH (HSj.out rfl)
    clear HSk HSj
    go_upto_region 7 with (go_at_call 80; (with_reducible refine (HBi.out).mono ?_); rintro q3 wq ⟨rfl,hx13⟩)
    replace HZ:=bH (HZ.out.keep hx13)
    replace HX:=bH (bI (blk_keep HX.out.1 hx13) (HX.out.2.trans hx13))
    have HAq:=bH (fun W (hW:XF wq W) (k:Int)=>HAt.out W (hx13.trans hW) k)
    clear hx13 hx HBi HAt p0 p1 e3 f0 HT
    go_wp2_with fail
    go_loopg [10] n (fun gg v10 wr=>∃ k:Nat,k<=n/\gg=k/\v10=.int .i64 k/\(∀ j,k<=j->j<n->atQ x (l.getD j 0)<atQ x g)/\XF wq wr)
    case atStart=>exact ⟨n,Nat.le_refl _,rfl,rfl,(fun j h1 h2=>by omega),Ext.refl _ _⟩
    case round =>
     obtain ⟨k,hkk,hgk,rfl,hall,hxk⟩:=hrel
     obtain rfl:=hgk.symm
     have HAl:=bH hall
     clear hall
     have HZk:=bH (HZ.out.keep hxk)
     have k2:k<=c:=Nat.le_trans hkk HZk.out.cap.2.1
     by_cases hk0:0<k
     ·obtain ⟨kk,hkk1⟩:∃ kk,k=kk+1:=⟨k - 1,by omega⟩
      have k0:(0:Int)<(k:Int):=by omega
      have k3:(k:Int) - 1=(kk:Int):=by omega
      have k4:(kk:Int)<(n:Int):=by omega
      have k5:(0:Int)<=(kk:Int):=by omega
      have hwk:IntKind.i64.wrap (kk:Int)=(kk:Int):=IntWalk.i64_in _ (by omega)
      obtain ⟨b1,o1,e,e0⟩:=HZk.out.at_ (i:=kk) (by rw [HLl.out]; omega)
      cases e
      rw [Nat.zero_add] at e0
      obtain ⟨y,hy⟩:∃ y,l.getD kk 0=y:=⟨_,rfl⟩
      rw [hy] at e0
      have HY:=bH hy
      have HKk:=bH hkk1
      clear hy hkk1
      have HAy:=bH (fun W (hW:XF wq W)=>HAq.out W hW y)
      have HAg:=bH (fun W (hW:XF wq W)=>HAq.out W hW g)
      have HCm:=bH (fun W u u' (hu:Rrat W u (atQ x y) L) (hu':Rrat W u' (atQ x g) L)=>Rrcmp_any W u u' (atQ x y) (atQ x g) L hu hu' h1 (by omega))
      have HSg:=bH (show (atQ x y - atQ x g).num.sign<0↔atQ x y<atQ x g from (sign_lt _).trans (by constructor <;> intro h <;> grind))
      generalize (atQ x y - atQ x g).num.sign=sg at *
      by_cases hgy:sg<0
      ·go_wp2_with (first | (go_at_call 40; (with_reducible refine (HAy.out _ hxk).mono ?_); rintro q1 w11 ⟨v11,rfl,h11,hx11⟩; obtain ⟨n11,a11,l11,c11,a11',l11',c11',rfl⟩:=h11.shape) | (go_at_call 40; (with_reducible refine (HAg.out _ (hxk.trans hx11)).mono ?_); rintro q2 w12 ⟨v12,rfl,h12,hx12⟩; obtain ⟨n12,a12,l12,c12,a12',l12',c12',rfl⟩:=h12.shape) | (go_at_call 35; (with_reducible refine (HCm.out _ _ _ (h11.keep hx12) h12).mono ?_); rintro q3 w13 ⟨rfl,hx13⟩))
       go_roundg kk
       case measure=>have:=HKk.out; omega
       case rel=>exact ⟨kk,by have:=HKk.out; omega,rfl,by go_num,(fun j h1 h2=>by
        by_cases e:j=kk
        ·subst e; rw [HY.out]; exact HSg.out.1 hgy
        ·exact HAl.out j (by have:=HKk.out; omega) h2),((hxk.trans hx11).trans hx12).trans hx13⟩
      ·have HSn:=bH (fun h=>hgy (HSg.out.2 h))
       go_upto_region 10 with (first | (go_at_call 40; (with_reducible refine (HAy.out _ hxk).mono ?_); rintro q1 w11 ⟨v11,rfl,h11,hx11⟩; obtain ⟨n11,a11,l11,c11,a11',l11',c11',rfl⟩:=h11.shape) | (go_at_call 40; (with_reducible refine (HAg.out _ (hxk.trans hx11)).mono ?_); rintro q2 w12 ⟨v12,rfl,h12,hx12⟩; obtain ⟨n12,a12,l12,c12,a12',l12',c12',rfl⟩:=h12.shape) | (go_at_call 35; (with_reducible refine (HCm.out _ _ _ (h11.keep hx12) h12).mono ?_); rintro q3 w13 ⟨rfl,hx13⟩))
       clear e0 k0 k3 k4 k5 hwk h11 h12 HAy HAg HCm
       have HKn:=bH hkk
       have HSr:=bH (HSi.out k (by rw [HLl.out]; exact hkk) (fun _=>by rw [HKk.out,Nat.add_sub_cancel,HY.out]; exact HSn.out) (fun j h1 h2=>HAl.out j h1 (by rw [<- HLl.out]; exact h2)))
       have HXk:=bH (((hxk.trans hx11).trans hx12).trans hx13)
       obtain ⟨wk,hwk9⟩:∃ x,x=w13:=⟨_,rfl⟩
       rw [<- hwk9] at HXk ⊢
       replace HX:=bH (bI (blk_keep HX.out.1 HXk.out) (HX.out.2.trans HXk.out))
       replace HZ:=bH (HZ.out.keep HXk.out)
       obtain ⟨B,hB⟩:∃ q,wk.heap.size=q:=⟨_,rfl⟩
       have HBd:=bH hB
       clear hB HAl HZk hwk9 HXk HSi
       have k6:(k:Int)<=(n:Int):=by omega
       have k7:(0:Int)<=(k:Int):=by omega
       refine wp_region_held_drew (S:=(XF wk)) (by kernel_rfl) ((Ext.refl _ wk).drew) (fun hHeld=>?_)
       refine ht 1 (h:=(ht 2 (h:=(ht 3 (h:=(ht 5 (h:=(ht 8 (h:=(ht 9 (h:=(ht 10 (h:=?_)))))))))))))
       (try go_frame)
       refine held_two 0 6 rfl rfl (by kernel_rfl) (fun K hK=>?_) (fun K hK=>?_)
       ·go_simp
        have hx0:XF wk ((wk.alloc (.cells #[] 3)).drew):=((Ext.refl (fun _=>False) wk).alloc (.cells #[] 3)).drew
        have HO0:=bH (show InsSt wk ((wk.alloc (.cells #[] 3)).drew) B (.slice (some ⟨wk.heap.size,0,none⟩) 0 0) [] from InsSt.new HBd.out hx0 (blk_alloc_at wk _) (Ext.refl (fun _=>False) wk).size)
        generalize (wk.alloc (.cells #[] 3)).drew=u0 at *
        rw [HBd.out]
        rw [HBd.out] at HO0
        refine hK.out _ _ (hx0) (fun hHeld=>?_)
        clear hK K
        (try go_frame)
        refine held_two 4 6 rfl rfl (by kernel_rfl) (fun K hK=>?_) (fun K hK=>?_)
        ·refine step_append_list (f:=cI) rfl (.tmp 57) (.tmp 60) rfl cI_len (l.take k) (fun x _=>cI_one x) Tryz.underlying27 Tryz.infoInt rfl (by decide) (by decide) B (.slice (some ⟨B,0,none⟩) 0 0) rfl (HO0.out).own _ _ _ rfl (((HZ.out).take HKn.out).keep hx0) (by simp only [List.length_append,List.length_take,List.length_drop,List.length_nil,List.length_singleton,HLl.out]; have:=HNs.out; omega) (HO0.out).low (fun u1v u1 g1 g2 g3=>?_)
         have HO1:Hid (InsSt wk u1 B u1v (l.take k)):=bH ((HO0.out).app g1 g2)
         have hx1:=HO1.out.ext
         clear g1 g2 g3
         refine hK.out _ _ (hx1) (fun hHeld=>?_)
         clear hK K
         (try go_frame)
         refine hst 6 (h:=fun K hK=>?_)
         go_simp
         have hx2:XF wk ((u1.alloc (.cells #[.int .i64 g] 3))):=(hx1.alloc (.cells #[.int .i64 g] 3))
         have HS2:=bH (show blk ((u1.alloc (.cells #[.int .i64 g] 3))) u1.heap.size=some (.cells #[.int .i64 g] 3 (0,0)) from blk_alloc_at u1 _)
         have HN2:=bH (fun (e:Value.ownBlock u1v=some u1.heap.size)=>Nat.lt_irrefl _ ((HO1.out).lt _ e))
         have HO2:=bH ((HO1.out).keep ((Ext.refl (fun _=>False) u1).alloc (.cells #[.int .i64 g] 3)))
         generalize (u1.alloc (.cells #[.int .i64 g] 3))=u2 at *
         generalize u1.heap.size=s2 at *
         refine hK.out _ _ (hx2) (fun hHeld=>?_)
         clear hK K
         (try go_frame)
         refine hst 7 (h:=fun K hK=>?_)
         refine step_append_el (f:=cI) rfl (.tmp 61) (.tmp 63) rfl cI_len g (cI_one g) Tryz.underlying27 Tryz.infoInt rfl (by decide) (by decide) B u1v (l.take k) rfl (HO2.out).own ⟨s2,0,none⟩ 1 rfl (cells_one HS2.out) (by simp only [List.length_append,List.length_take,List.length_drop,List.length_nil,List.length_singleton,HLl.out]; have:=HNs.out; omega) (HO2.out).low (fun u3v u3 g1 g2 g3=>?_)
         have HO3:Hid (InsSt wk u3 B u3v ((l.take k)++[g])):=bH ((HO2.out).app g1 g2)
         have hx3:=HO3.out.ext
         clear g1 g2 g3
         refine hK.out _ _ (hx3) (fun hHeld=>?_)
         clear hK K
         (try go_frame)
         refine hst 11 (h:=fun K hK=>?_)
         refine step_append_list (f:=cI) rfl (.tmp 64) (.tmp 67) rfl cI_len (l.drop k) (fun x _=>cI_one x) Tryz.underlying27 Tryz.infoInt rfl (by decide) (by decide) B u3v rfl (HO3.out).own _ _ _ rfl (((HZ.out).dropIf HKn.out).keep hx3) (by simp only [List.length_append,List.length_take,List.length_drop,List.length_nil,List.length_singleton,HLl.out]; have:=HNs.out; have:=HKn.out; omega) (HO3.out).low (fun u4v u4 g1 g2 g3=>?_)
         have HO4:Hid (InsSt wk u4 B u4v (((l.take k)++[g])++(l.drop k))):=bH ((HO3.out).app g1 g2)
         have hx4:=HO4.out.ext
         clear g1 g2 g3
         refine hK.out _ _ (hx4) (fun hHeld=>?_)
         clear hK K
         (try go_frame)
         refine ht 12 (h:=?_)
         (try go_frame)
         refine wpAnyH_done (by kernel_rfl) ?_ _
         have HF:=bH (show InsSt wk u4 B u4v (insK l k g) from HO4.out)
         obtain ⟨b',c',e9⟩:=HF.out.shape (by rw [insK_length HLl.out HKn.out]; exact Nat.succ_pos _)
         rw [insK_length HLl.out HKn.out] at e9
         subst e9
         generalize (if c=k then (some ⟨b,0,none⟩:Option Addr) else some ⟨b,k,none⟩)=xo
         go_wp2
         go_roundg (tl - (i+1))
         case measure=>omega
         case rel=>exact ⟨i+1,b',n+1,c',insK l k g,by omega,rfl,rfl,by go_num,HF.out.inz,insK_length HLl.out HKn.out,by have:=HNi.out; omega,HSr.out,blk_keep HX.out.1 HF.out.ext,HX.out.2.trans HF.out.ext⟩
        ·go_simp
         have hx1:XF wk ((u0.alloc (.cells #[.int .i64 g] 3))):=(hx0.alloc (.cells #[.int .i64 g] 3))
         have HS1:=bH (show blk ((u0.alloc (.cells #[.int .i64 g] 3))) u0.heap.size=some (.cells #[.int .i64 g] 3 (0,0)) from blk_alloc_at u0 _)
         have HN1:=bH (fun (e:Value.ownBlock (.slice (some ⟨B,0,none⟩) 0 0)=some u0.heap.size)=>Nat.lt_irrefl _ ((HO0.out).lt _ e))
         have HO1:=bH ((HO0.out).keep ((Ext.refl (fun _=>False) u0).alloc (.cells #[.int .i64 g] 3)))
         generalize (u0.alloc (.cells #[.int .i64 g] 3))=u1 at *
         generalize u0.heap.size=s1 at *
         refine hK.out _ _ (hx1) (fun hHeld=>?_)
         clear hK K
         (try go_frame)
         refine hst 4 (h:=fun K hK=>?_)
         refine step_append_list (f:=cI) rfl (.tmp 57) (.tmp 60) rfl cI_len (l.take k) (fun x _=>cI_one x) Tryz.underlying27 Tryz.infoInt rfl (by decide) (by decide) B (.slice (some ⟨B,0,none⟩) 0 0) rfl (HO1.out).own _ _ _ rfl (((HZ.out).take HKn.out).keep hx1) (by simp only [List.length_append,List.length_take,List.length_drop,List.length_nil,List.length_singleton,HLl.out]; have:=HNs.out; omega) (HO1.out).low (fun u2v u2 g1 g2 g3=>?_)
         have HO2:Hid (InsSt wk u2 B u2v (l.take k)):=bH ((HO1.out).app g1 g2)
         have HS2:=bH ((g2.blk (blk_lt HS1.out) (fun e=>(HN1.out) (by cases e; rfl))).trans HS1.out)
         have hx2:=HO2.out.ext
         clear g1 g2 g3
         refine hK.out _ _ (hx2) (fun hHeld=>?_)
         clear hK K
         (try go_frame)
         refine hst 7 (h:=fun K hK=>?_)
         refine step_append_el (f:=cI) rfl (.tmp 61) (.tmp 63) rfl cI_len g (cI_one g) Tryz.underlying27 Tryz.infoInt rfl (by decide) (by decide) B u2v (l.take k) rfl (HO2.out).own ⟨s1,0,none⟩ 1 rfl (cells_one HS2.out) (by simp only [List.length_append,List.length_take,List.length_drop,List.length_nil,List.length_singleton,HLl.out]; have:=HNs.out; omega) (HO2.out).low (fun u3v u3 g1 g2 g3=>?_)
         have HO3:Hid (InsSt wk u3 B u3v ((l.take k)++[g])):=bH ((HO2.out).app g1 g2)
         have hx3:=HO3.out.ext
         clear g1 g2 g3
         refine hK.out _ _ (hx3) (fun hHeld=>?_)
         clear hK K
         (try go_frame)
         refine hst 11 (h:=fun K hK=>?_)
         refine step_append_list (f:=cI) rfl (.tmp 64) (.tmp 67) rfl cI_len (l.drop k) (fun x _=>cI_one x) Tryz.underlying27 Tryz.infoInt rfl (by decide) (by decide) B u3v rfl (HO3.out).own _ _ _ rfl (((HZ.out).dropIf HKn.out).keep hx3) (by simp only [List.length_append,List.length_take,List.length_drop,List.length_nil,List.length_singleton,HLl.out]; have:=HNs.out; have:=HKn.out; omega) (HO3.out).low (fun u4v u4 g1 g2 g3=>?_)
         have HO4:Hid (InsSt wk u4 B u4v (((l.take k)++[g])++(l.drop k))):=bH ((HO3.out).app g1 g2)
         have hx4:=HO4.out.ext
         clear g1 g2 g3
         refine hK.out _ _ (hx4) (fun hHeld=>?_)
         clear hK K
         (try go_frame)
         refine ht 12 (h:=?_)
         (try go_frame)
         refine wpAnyH_done (by kernel_rfl) ?_ _
         have HF:=bH (show InsSt wk u4 B u4v (insK l k g) from HO4.out)
         obtain ⟨b',c',e9⟩:=HF.out.shape (by rw [insK_length HLl.out HKn.out]; exact Nat.succ_pos _)
         rw [insK_length HLl.out HKn.out] at e9
         subst e9
         generalize (if c=k then (some ⟨b,0,none⟩:Option Addr) else some ⟨b,k,none⟩)=xo
         go_wp2
         go_roundg (tl - (i+1))
         case measure=>omega
         case rel=>exact ⟨i+1,b',n+1,c',insK l k g,by omega,rfl,rfl,by go_num,HF.out.inz,insK_length HLl.out HKn.out,by have:=HNi.out; omega,HSr.out,blk_keep HX.out.1 HF.out.ext,HX.out.2.trans HF.out.ext⟩
       ·go_simp
        have hx0:XF wk ((wk.alloc (.cells #[.int .i64 g] 3)).drew):=((Ext.refl (fun _=>False) wk).alloc (.cells #[.int .i64 g] 3)).drew
        have HS0:=bH (show blk ((wk.alloc (.cells #[.int .i64 g] 3)).drew) wk.heap.size=some (.cells #[.int .i64 g] 3 (0,0)) from blk_alloc_at wk _)
        generalize (wk.alloc (.cells #[.int .i64 g] 3)).drew=u0 at *
        rw [HBd.out]
        rw [HBd.out] at HS0
        refine hK.out _ _ (hx0) (fun hHeld=>?_)
        clear hK K
        (try go_frame)
        refine hst 0 (h:=fun K hK=>?_)
        go_simp
        have hx1:XF wk ((u0.alloc (.cells #[] 3))):=(hx0.alloc (.cells #[] 3))
        have HO1:=bH (show InsSt wk ((u0.alloc (.cells #[] 3))) B (.slice (some ⟨u0.heap.size,0,none⟩) 0 0) [] from InsSt.new HBd.out hx1 (blk_alloc_at u0 _) hx0.size)
        have HS1:=bH (show blk ((u0.alloc (.cells #[] 3))) B=some (.cells #[.int .i64 g] 3 (0,0)) from blk_keep HS0.out ((Ext.refl (fun _=>False) u0).alloc (.cells #[] 3)))
        have HN1:=bH (show B≠u0.heap.size from Nat.ne_of_lt (blk_lt HS0.out))
        generalize (u0.alloc (.cells #[] 3))=u1 at *
        generalize u0.heap.size=s1 at *
        refine hK.out _ _ (hx1) (fun hHeld=>?_)
        clear hK K
        (try go_frame)
        refine hst 4 (h:=fun K hK=>?_)
        refine step_append_list (f:=cI) rfl (.tmp 57) (.tmp 60) rfl cI_len (l.take k) (fun x _=>cI_one x) Tryz.underlying27 Tryz.infoInt rfl (by decide) (by decide) B (.slice (some ⟨s1,0,none⟩) 0 0) rfl (HO1.out).own _ _ _ rfl (((HZ.out).take HKn.out).keep hx1) (by simp only [List.length_append,List.length_take,List.length_drop,List.length_nil,List.length_singleton,HLl.out]; have:=HNs.out; omega) (HO1.out).low (fun u2v u2 g1 g2 g3=>?_)
        have HO2:Hid (InsSt wk u2 B u2v (l.take k)):=bH ((HO1.out).app g1 g2)
        have HS2:=bH ((g2.blk (blk_lt HS1.out) (fun e=>(HN1.out) (by cases e; rfl))).trans HS1.out)
        have hx2:=HO2.out.ext
        clear g1 g2 g3
        refine hK.out _ _ (hx2) (fun hHeld=>?_)
        clear hK K
        (try go_frame)
        refine hst 7 (h:=fun K hK=>?_)
        refine step_append_el (f:=cI) rfl (.tmp 61) (.tmp 63) rfl cI_len g (cI_one g) Tryz.underlying27 Tryz.infoInt rfl (by decide) (by decide) B u2v (l.take k) rfl (HO2.out).own ⟨B,0,none⟩ 1 rfl (cells_one HS2.out) (by simp only [List.length_append,List.length_take,List.length_drop,List.length_nil,List.length_singleton,HLl.out]; have:=HNs.out; omega) (HO2.out).low (fun u3v u3 g1 g2 g3=>?_)
        have HO3:Hid (InsSt wk u3 B u3v ((l.take k)++[g])):=bH ((HO2.out).app g1 g2)
        have hx3:=HO3.out.ext
        clear g1 g2 g3
        refine hK.out _ _ (hx3) (fun hHeld=>?_)
        clear hK K
        (try go_frame)
        refine hst 11 (h:=fun K hK=>?_)
        refine step_append_list (f:=cI) rfl (.tmp 64) (.tmp 67) rfl cI_len (l.drop k) (fun x _=>cI_one x) Tryz.underlying27 Tryz.infoInt rfl (by decide) (by decide) B u3v rfl (HO3.out).own _ _ _ rfl (((HZ.out).dropIf HKn.out).keep hx3) (by simp only [List.length_append,List.length_take,List.length_drop,List.length_nil,List.length_singleton,HLl.out]; have:=HNs.out; have:=HKn.out; omega) (HO3.out).low (fun u4v u4 g1 g2 g3=>?_)
        have HO4:Hid (InsSt wk u4 B u4v (((l.take k)++[g])++(l.drop k))):=bH ((HO3.out).app g1 g2)
        have hx4:=HO4.out.ext
        clear g1 g2 g3
        refine hK.out _ _ (hx4) (fun hHeld=>?_)
        clear hK K
        (try go_frame)
        refine ht 12 (h:=?_)
        (try go_frame)
        refine wpAnyH_done (by kernel_rfl) ?_ _
        have HF:=bH (show InsSt wk u4 B u4v (insK l k g) from HO4.out)
        obtain ⟨b',c',e9⟩:=HF.out.shape (by rw [insK_length HLl.out HKn.out]; exact Nat.succ_pos _)
        rw [insK_length HLl.out HKn.out] at e9
        subst e9
        generalize (if c=k then (some ⟨b,0,none⟩:Option Addr) else some ⟨b,k,none⟩)=xo
        go_wp2
        go_roundg (tl - (i+1))
        case measure=>omega
        case rel=>exact ⟨i+1,b',n+1,c',insK l k g,by omega,rfl,rfl,by go_num,HF.out.inz,insK_length HLl.out HKn.out,by have:=HNi.out; omega,HSr.out,blk_keep HX.out.1 HF.out.ext,HX.out.2.trans HF.out.ext⟩
     ·have k0:¬ (0:Int)<(k:Int):=by omega
      have HK0:=bH hk0
      clear hk0
      go_upto_region 10 with fail
      clear k0
      have HKn:=bH hkk
      have HSr:=bH (HSi.out k (by rw [HLl.out]; exact hkk) (fun h=>absurd h HK0.out) (fun j h1 h2=>HAl.out j h1 (by rw [<- HLl.out]; exact h2)))
      have HXk:=bH (hxk)
      obtain ⟨wk,hwk9⟩:∃ x,x=wr:=⟨_,rfl⟩
      rw [<- hwk9] at HXk ⊢
      replace HX:=bH (bI (blk_keep HX.out.1 HXk.out) (HX.out.2.trans HXk.out))
      replace HZ:=bH (HZ.out.keep HXk.out)
      obtain ⟨B,hB⟩:∃ q,wk.heap.size=q:=⟨_,rfl⟩
      have HBd:=bH hB
      clear hB HAl HZk hwk9 HXk HSi
      have k6:(k:Int)<=(n:Int):=by omega
      have k7:(0:Int)<=(k:Int):=by omega
      refine wp_region_held_drew (S:=(XF wk)) (by kernel_rfl) ((Ext.refl _ wk).drew) (fun hHeld=>?_)
      refine ht 1 (h:=(ht 2 (h:=(ht 3 (h:=(ht 5 (h:=(ht 8 (h:=(ht 9 (h:=(ht 10 (h:=?_)))))))))))))
      (try go_frame)
      refine held_two 0 6 rfl rfl (by kernel_rfl) (fun K hK=>?_) (fun K hK=>?_)
      ·go_simp
       have hx0:XF wk ((wk.alloc (.cells #[] 3)).drew):=((Ext.refl (fun _=>False) wk).alloc (.cells #[] 3)).drew
       have HO0:=bH (show InsSt wk ((wk.alloc (.cells #[] 3)).drew) B (.slice (some ⟨wk.heap.size,0,none⟩) 0 0) [] from InsSt.new HBd.out hx0 (blk_alloc_at wk _) (Ext.refl (fun _=>False) wk).size)
       generalize (wk.alloc (.cells #[] 3)).drew=u0 at *
       rw [HBd.out]
       rw [HBd.out] at HO0
       refine hK.out _ _ (hx0) (fun hHeld=>?_)
       clear hK K
       (try go_frame)
       refine held_two 4 6 rfl rfl (by kernel_rfl) (fun K hK=>?_) (fun K hK=>?_)
       ·refine step_append_list (f:=cI) rfl (.tmp 57) (.tmp 60) rfl cI_len (l.take k) (fun x _=>cI_one x) Tryz.underlying27 Tryz.infoInt rfl (by decide) (by decide) B (.slice (some ⟨B,0,none⟩) 0 0) rfl (HO0.out).own _ _ _ rfl (((HZ.out).take HKn.out).keep hx0) (by simp only [List.length_append,List.length_take,List.length_drop,List.length_nil,List.length_singleton,HLl.out]; have:=HNs.out; omega) (HO0.out).low (fun u1v u1 g1 g2 g3=>?_)
        have HO1:Hid (InsSt wk u1 B u1v (l.take k)):=bH ((HO0.out).app g1 g2)
        have hx1:=HO1.out.ext
        clear g1 g2 g3
        refine hK.out _ _ (hx1) (fun hHeld=>?_)
        clear hK K
        (try go_frame)
        refine hst 6 (h:=fun K hK=>?_)
        go_simp
        have hx2:XF wk ((u1.alloc (.cells #[.int .i64 g] 3))):=(hx1.alloc (.cells #[.int .i64 g] 3))
        have HS2:=bH (show blk ((u1.alloc (.cells #[.int .i64 g] 3))) u1.heap.size=some (.cells #[.int .i64 g] 3 (0,0)) from blk_alloc_at u1 _)
        have HN2:=bH (fun (e:Value.ownBlock u1v=some u1.heap.size)=>Nat.lt_irrefl _ ((HO1.out).lt _ e))
        have HO2:=bH ((HO1.out).keep ((Ext.refl (fun _=>False) u1).alloc (.cells #[.int .i64 g] 3)))
        generalize (u1.alloc (.cells #[.int .i64 g] 3))=u2 at *
        generalize u1.heap.size=s2 at *
        refine hK.out _ _ (hx2) (fun hHeld=>?_)
        clear hK K
        (try go_frame)
        refine hst 7 (h:=fun K hK=>?_)
        refine step_append_el (f:=cI) rfl (.tmp 61) (.tmp 63) rfl cI_len g (cI_one g) Tryz.underlying27 Tryz.infoInt rfl (by decide) (by decide) B u1v (l.take k) rfl (HO2.out).own ⟨s2,0,none⟩ 1 rfl (cells_one HS2.out) (by simp only [List.length_append,List.length_take,List.length_drop,List.length_nil,List.length_singleton,HLl.out]; have:=HNs.out; omega) (HO2.out).low (fun u3v u3 g1 g2 g3=>?_)
        have HO3:Hid (InsSt wk u3 B u3v ((l.take k)++[g])):=bH ((HO2.out).app g1 g2)
        have hx3:=HO3.out.ext
        clear g1 g2 g3
        refine hK.out _ _ (hx3) (fun hHeld=>?_)
        clear hK K
        (try go_frame)
        refine hst 11 (h:=fun K hK=>?_)
        refine step_append_list (f:=cI) rfl (.tmp 64) (.tmp 67) rfl cI_len (l.drop k) (fun x _=>cI_one x) Tryz.underlying27 Tryz.infoInt rfl (by decide) (by decide) B u3v rfl (HO3.out).own _ _ _ rfl (((HZ.out).dropIf HKn.out).keep hx3) (by simp only [List.length_append,List.length_take,List.length_drop,List.length_nil,List.length_singleton,HLl.out]; have:=HNs.out; have:=HKn.out; omega) (HO3.out).low (fun u4v u4 g1 g2 g3=>?_)
        have HO4:Hid (InsSt wk u4 B u4v (((l.take k)++[g])++(l.drop k))):=bH ((HO3.out).app g1 g2)
        have hx4:=HO4.out.ext
        clear g1 g2 g3
        refine hK.out _ _ (hx4) (fun hHeld=>?_)
        clear hK K
        (try go_frame)
        refine ht 12 (h:=?_)
        (try go_frame)
        refine wpAnyH_done (by kernel_rfl) ?_ _
        have HF:=bH (show InsSt wk u4 B u4v (insK l k g) from HO4.out)
        obtain ⟨b',c',e9⟩:=HF.out.shape (by rw [insK_length HLl.out HKn.out]; exact Nat.succ_pos _)
        rw [insK_length HLl.out HKn.out] at e9
        subst e9
        generalize (if c=k then (some ⟨b,0,none⟩:Option Addr) else some ⟨b,k,none⟩)=xo
        go_wp2
        go_roundg (tl - (i+1))
        case measure=>omega
        case rel=>exact ⟨i+1,b',n+1,c',insK l k g,by omega,rfl,rfl,by go_num,HF.out.inz,insK_length HLl.out HKn.out,by have:=HNi.out; omega,HSr.out,blk_keep HX.out.1 HF.out.ext,HX.out.2.trans HF.out.ext⟩
       ·go_simp
        have hx1:XF wk ((u0.alloc (.cells #[.int .i64 g] 3))):=(hx0.alloc (.cells #[.int .i64 g] 3))
        have HS1:=bH (show blk ((u0.alloc (.cells #[.int .i64 g] 3))) u0.heap.size=some (.cells #[.int .i64 g] 3 (0,0)) from blk_alloc_at u0 _)
        have HN1:=bH (fun (e:Value.ownBlock (.slice (some ⟨B,0,none⟩) 0 0)=some u0.heap.size)=>Nat.lt_irrefl _ ((HO0.out).lt _ e))
        have HO1:=bH ((HO0.out).keep ((Ext.refl (fun _=>False) u0).alloc (.cells #[.int .i64 g] 3)))
        generalize (u0.alloc (.cells #[.int .i64 g] 3))=u1 at *
        generalize u0.heap.size=s1 at *
        refine hK.out _ _ (hx1) (fun hHeld=>?_)
        clear hK K
        (try go_frame)
        refine hst 4 (h:=fun K hK=>?_)
        refine step_append_list (f:=cI) rfl (.tmp 57) (.tmp 60) rfl cI_len (l.take k) (fun x _=>cI_one x) Tryz.underlying27 Tryz.infoInt rfl (by decide) (by decide) B (.slice (some ⟨B,0,none⟩) 0 0) rfl (HO1.out).own _ _ _ rfl (((HZ.out).take HKn.out).keep hx1) (by simp only [List.length_append,List.length_take,List.length_drop,List.length_nil,List.length_singleton,HLl.out]; have:=HNs.out; omega) (HO1.out).low (fun u2v u2 g1 g2 g3=>?_)
        have HO2:Hid (InsSt wk u2 B u2v (l.take k)):=bH ((HO1.out).app g1 g2)
        have HS2:=bH ((g2.blk (blk_lt HS1.out) (fun e=>(HN1.out) (by cases e; rfl))).trans HS1.out)
        have hx2:=HO2.out.ext
        clear g1 g2 g3
        refine hK.out _ _ (hx2) (fun hHeld=>?_)
        clear hK K
        (try go_frame)
        refine hst 7 (h:=fun K hK=>?_)
        refine step_append_el (f:=cI) rfl (.tmp 61) (.tmp 63) rfl cI_len g (cI_one g) Tryz.underlying27 Tryz.infoInt rfl (by decide) (by decide) B u2v (l.take k) rfl (HO2.out).own ⟨s1,0,none⟩ 1 rfl (cells_one HS2.out) (by simp only [List.length_append,List.length_take,List.length_drop,List.length_nil,List.length_singleton,HLl.out]; have:=HNs.out; omega) (HO2.out).low (fun u3v u3 g1 g2 g3=>?_)
        have HO3:Hid (InsSt wk u3 B u3v ((l.take k)++[g])):=bH ((HO2.out).app g1 g2)
        have hx3:=HO3.out.ext
        clear g1 g2 g3
        refine hK.out _ _ (hx3) (fun hHeld=>?_)
        clear hK K
        (try go_frame)
        refine hst 11 (h:=fun K hK=>?_)
        refine step_append_list (f:=cI) rfl (.tmp 64) (.tmp 67) rfl cI_len (l.drop k) (fun x _=>cI_one x) Tryz.underlying27 Tryz.infoInt rfl (by decide) (by decide) B u3v rfl (HO3.out).own _ _ _ rfl (((HZ.out).dropIf HKn.out).keep hx3) (by simp only [List.length_append,List.length_take,List.length_drop,List.length_nil,List.length_singleton,HLl.out]; have:=HNs.out; have:=HKn.out; omega) (HO3.out).low (fun u4v u4 g1 g2 g3=>?_)
        have HO4:Hid (InsSt wk u4 B u4v (((l.take k)++[g])++(l.drop k))):=bH ((HO3.out).app g1 g2)
        have hx4:=HO4.out.ext
        clear g1 g2 g3
        refine hK.out _ _ (hx4) (fun hHeld=>?_)
        clear hK K
        (try go_frame)
        refine ht 12 (h:=?_)
        (try go_frame)
        refine wpAnyH_done (by kernel_rfl) ?_ _
        have HF:=bH (show InsSt wk u4 B u4v (insK l k g) from HO4.out)
        obtain ⟨b',c',e9⟩:=HF.out.shape (by rw [insK_length HLl.out HKn.out]; exact Nat.succ_pos _)
        rw [insK_length HLl.out HKn.out] at e9
        subst e9
        generalize (if c=k then (some ⟨b,0,none⟩:Option Addr) else some ⟨b,k,none⟩)=xo
        go_wp2
        go_roundg (tl - (i+1))
        case measure=>omega
        case rel=>exact ⟨i+1,b',n+1,c',insK l k g,by omega,rfl,rfl,by go_num,HF.out.inz,insK_length HLl.out HKn.out,by have:=HNi.out; omega,HSr.out,blk_keep HX.out.1 HF.out.ext,HX.out.2.trans HF.out.ext⟩
      ·go_simp
       have hx0:XF wk ((wk.alloc (.cells #[.int .i64 g] 3)).drew):=((Ext.refl (fun _=>False) wk).alloc (.cells #[.int .i64 g] 3)).drew
       have HS0:=bH (show blk ((wk.alloc (.cells #[.int .i64 g] 3)).drew) wk.heap.size=some (.cells #[.int .i64 g] 3 (0,0)) from blk_alloc_at wk _)
       generalize (wk.alloc (.cells #[.int .i64 g] 3)).drew=u0 at *
       rw [HBd.out]
       rw [HBd.out] at HS0
       refine hK.out _ _ (hx0) (fun hHeld=>?_)
       clear hK K
       (try go_frame)
       refine hst 0 (h:=fun K hK=>?_)
       go_simp
       have hx1:XF wk ((u0.alloc (.cells #[] 3))):=(hx0.alloc (.cells #[] 3))
       have HO1:=bH (show InsSt wk ((u0.alloc (.cells #[] 3))) B (.slice (some ⟨u0.heap.size,0,none⟩) 0 0) [] from InsSt.new HBd.out hx1 (blk_alloc_at u0 _) hx0.size)
       have HS1:=bH (show blk ((u0.alloc (.cells #[] 3))) B=some (.cells #[.int .i64 g] 3 (0,0)) from blk_keep HS0.out ((Ext.refl (fun _=>False) u0).alloc (.cells #[] 3)))
       have HN1:=bH (show B≠u0.heap.size from Nat.ne_of_lt (blk_lt HS0.out))
       generalize (u0.alloc (.cells #[] 3))=u1 at *
       generalize u0.heap.size=s1 at *
       refine hK.out _ _ (hx1) (fun hHeld=>?_)
       clear hK K
       (try go_frame)
       refine hst 4 (h:=fun K hK=>?_)
       refine step_append_list (f:=cI) rfl (.tmp 57) (.tmp 60) rfl cI_len (l.take k) (fun x _=>cI_one x) Tryz.underlying27 Tryz.infoInt rfl (by decide) (by decide) B (.slice (some ⟨s1,0,none⟩) 0 0) rfl (HO1.out).own _ _ _ rfl (((HZ.out).take HKn.out).keep hx1) (by simp only [List.length_append,List.length_take,List.length_drop,List.length_nil,List.length_singleton,HLl.out]; have:=HNs.out; omega) (HO1.out).low (fun u2v u2 g1 g2 g3=>?_)
       have HO2:Hid (InsSt wk u2 B u2v (l.take k)):=bH ((HO1.out).app g1 g2)
       have HS2:=bH ((g2.blk (blk_lt HS1.out) (fun e=>(HN1.out) (by cases e; rfl))).trans HS1.out)
       have hx2:=HO2.out.ext
       clear g1 g2 g3
       refine hK.out _ _ (hx2) (fun hHeld=>?_)
       clear hK K
       (try go_frame)
       refine hst 7 (h:=fun K hK=>?_)
       refine step_append_el (f:=cI) rfl (.tmp 61) (.tmp 63) rfl cI_len g (cI_one g) Tryz.underlying27 Tryz.infoInt rfl (by decide) (by decide) B u2v (l.take k) rfl (HO2.out).own ⟨B,0,none⟩ 1 rfl (cells_one HS2.out) (by simp only [List.length_append,List.length_take,List.length_drop,List.length_nil,List.length_singleton,HLl.out]; have:=HNs.out; omega) (HO2.out).low (fun u3v u3 g1 g2 g3=>?_)
       have HO3:Hid (InsSt wk u3 B u3v ((l.take k)++[g])):=bH ((HO2.out).app g1 g2)
       have hx3:=HO3.out.ext
       clear g1 g2 g3
       refine hK.out _ _ (hx3) (fun hHeld=>?_)
       clear hK K
       (try go_frame)
       refine hst 11 (h:=fun K hK=>?_)
       refine step_append_list (f:=cI) rfl (.tmp 64) (.tmp 67) rfl cI_len (l.drop k) (fun x _=>cI_one x) Tryz.underlying27 Tryz.infoInt rfl (by decide) (by decide) B u3v rfl (HO3.out).own _ _ _ rfl (((HZ.out).dropIf HKn.out).keep hx3) (by simp only [List.length_append,List.length_take,List.length_drop,List.length_nil,List.length_singleton,HLl.out]; have:=HNs.out; have:=HKn.out; omega) (HO3.out).low (fun u4v u4 g1 g2 g3=>?_)
       have HO4:Hid (InsSt wk u4 B u4v (((l.take k)++[g])++(l.drop k))):=bH ((HO3.out).app g1 g2)
       have hx4:=HO4.out.ext
       clear g1 g2 g3
       refine hK.out _ _ (hx4) (fun hHeld=>?_)
       clear hK K
       (try go_frame)
       refine ht 12 (h:=?_)
       (try go_frame)
       refine wpAnyH_done (by kernel_rfl) ?_ _
       have HF:=bH (show InsSt wk u4 B u4v (insK l k g) from HO4.out)
       obtain ⟨b',c',e9⟩:=HF.out.shape (by rw [insK_length HLl.out HKn.out]; exact Nat.succ_pos _)
       rw [insK_length HLl.out HKn.out] at e9
       subst e9
       generalize (if c=k then (some ⟨b,0,none⟩:Option Addr) else some ⟨b,k,none⟩)=xo
       go_wp2
       go_roundg (tl - (i+1))
       case measure=>omega
       case rel=>exact ⟨i+1,b',n+1,c',insK l k g,by omega,rfl,rfl,by go_num,HF.out.inz,insK_length HLl.out HKn.out,by have:=HNi.out; omega,HSr.out,blk_keep HX.out.1 HF.out.ext,HX.out.2.trans HF.out.ext⟩
  ·obtain rfl:i=tl:=by omega
   have i0:¬ (i:Int)<(i:Int):=by omega
   go_wp2
   go_ret
   exact ⟨b,n,c,l,rfl,HZ.out,HLl.out,by have:=HNi.out; rw [HTl.out]; exact this,by have h:=HSc.out; rw [<- HTl.out,List.take_length] at h; exact ⟨h.ord,h.mem⟩,HX.out.2⟩
theorem isCov_no {p:ProgV} {r:RowV} {l:List Int} {j:Nat} (h:isCovB p r (l.take (j+1))=false) (hj:j<l.length):covB p r (l.take (j+1))=false:=by
 unfold isCovB at h
 rw [decide_eq_true (by rw [List.length_take]; omega),Bool.and_true] at h
 exact h
theorem first_none {p:ProgV} {r:RowV} {l:List Int} (h:∀ j,j<l.length+1->isCovB p r (l.take j)=false):minV p r l=none:=by
 have h1:∀ j,j<l.length->covB p r (l.take (j+1))=false:=fun j hj=>isCov_no (h (j+1) (by omega)) hj
 refine minV_none (takeV_all h1) ?_
 cases l with
 | nil=>exact .inl rfl
 | cons a l =>
  have h2:=h1 l.length (by simp)
  rw [List.take_of_length_le (by simp)] at h2
  exact .inr h2
theorem first_some {p:ProgV} {r:RowV} {l:List Int} {k:Nat} (h:∀ j,j<k->isCovB p r (l.take j)=false) (hk:k<=l.length) (hc:isCovB p r (l.take k)=true):0<k/\minV p r l=some (dropV p r k (l.take k)):=by
 have h0:0<k:=by
  rcases Nat.eq_zero_or_pos k with e | e
  ·subst e
   unfold isCovB at hc
   simp at hc
  ·exact e
 refine ⟨h0,?_⟩
 obtain ⟨q,rfl⟩:∃ q,k=q+1:=⟨k - 1,by omega⟩
 have hl:(l.take (q+1)).length=q+1:=by rw [List.length_take]; omega
 have hc':covB p r (l.take (q+1))=true:=by
  unfold isCovB at hc
  simp only [Bool.and_eq_true] at hc
  exact hc.1
 have h2:=minV_some (takeV_hit (fun j hj=>isCov_no (h (j+1) (by omega)) (by omega)) (by omega) hc') (fun e=>by rw [e] at hl; cases hl) hc'
 rw [hl] at h2
 exact h2
theorem less_isCov {p:ProgV} {r:RowV} {l:List Int} {i:Nat} {S:Bool} (h:isCovB p r (l.eraseIdx i)=S):lessV p r l i=if S=true then l.eraseIdx i else l:=by
 unfold isCovB at h
 cases S with
 | true =>
  simp only [Bool.and_eq_true,decide_eq_true_eq] at h
  rw [lessV_yes (fun e=>by rw [e] at h; exact absurd h.2 (by simp)) h.1,if_pos rfl]
 | false =>
  rw [if_neg (by decide)]
  refine lessV_no ?_
  cases he:l.eraseIdx i with
  | nil=>exact .inl rfl
  | cons a b =>
   rw [he] at h
   simp at h
   exact .inr h
theorem Inz.past {S:Nat->Prop} {w w':World} {b n c:Nat} {l:List Int} (h:Inz w (.slice (some ⟨b,0,none⟩) n c) l) (hx:Ext S w w') (hb:¬ S b):Inz w' (.slice (some ⟨b,0,none⟩) n c) l:=by
 obtain ⟨ao,c',e,h1,h2,h3,h4⟩:=h
 cases e
 refine ⟨_,_,rfl,h1,h2,h3,fun hp=>?_⟩
 obtain ⟨b',off,e,hlt,hc⟩:=h4 hp
 cases e
 exact ⟨_,_,rfl,Nat.lt_of_lt_of_le hlt hx.size,fun i r hi j u hu=>(hx.cell (p:=⟨b,0+i*1+j,none⟩) hlt hb).trans (hc i r hi j u hu)⟩
def RCovPost (w:World) (p:ProgV) (row:Int) (x:List Rat) (r:Ending) (w':World):Prop:=∃ sv c ok,r=.returned (.tuple #[.agg #[.int .i64 c.kind,.slice none 0 0,.int .i64 c.row,sv],.bool ok])/\Inz w' sv c.vars/\c.mul=[]/\CovR p row x c ok/\XF w w'
theorem RCover_any (w:World) (pv xv:Value) (p:ProgV) (row:Int) (x:List Rat) (L:Nat) (hp:IsPrg w pv p) (hx:Rats w xv x L) (h1:1<=L) (hL:L<=4194304) (hl:∀ i,i<p.rows.length->(p.r i).terms.length<=12) :
  Calls Tryz.prog 21 #[pv,.int .i64 row,xv] w (RCovPost w p row x):=by
 have HVa:=bH (fun W (hW:XF w W)=>Valid4_any W pv p (hp.keep hW))
 have HCd:=bH (fun W (hW:XF w W) (i:Nat) (hi:i<p.rows.length) (hval:validB p=true)=>Cand_any W pv xv p i x L (hp.keep hW) hval hi (hx.keep hW) h1 hL (hl i hi))
 have HIc:=bH (fun W (hW:XF w W) (i:Nat) (hi:i<p.rows.length) (hval:validB p=true) v vs (hv:Inz W v vs) (hvs:∀ u ∈ vs,binB p u=true)=>IsCover_any W pv v p i vs (hp.keep hW) hval hi hv (cov_binary hvs))
 have HL12:=bH hl
 obtain ⟨vv,rv,rfl,hpv,hpr⟩:=hp
 obtain ⟨vo,vc,rfl,-,-,-⟩:=hpv.shape
 obtain ⟨ro,rc,rfl,-,-,-⟩:=hpr.shape
 obtain ⟨xo,xc,rfl,-,-,-⟩:=hx.shape
 obtain ⟨VB,hVB⟩:∃ x,validB p=x:=⟨_,rfl⟩
 have HVB:=bH hVB
 rw [hVB] at HVa HCd HIc
 obtain ⟨n,hn'⟩:∃ x,p.vars.length=x:=⟨_,rfl⟩
 obtain ⟨m,hm'⟩:∃ x,p.rows.length=x:=⟨_,rfl⟩
 obtain ⟨xn,hxn⟩:∃ y,x.length=y:=⟨_,rfl⟩
 have HM:=bH hm'
 rw [hn',hm'] at HVa HCd HIc
 rw [hxn] at HCd
 rw [hn',hm',hxn]
 clear hpv hpr hx hl hn' hm' hxn hVB
 have hxa:=(Ext.refl (fun _=>False) w).alloc (.cells #[.slice vo n vc,.slice ro m rc] 25)
 have hxb:=(Ext.refl (fun _=>False) (w.alloc (.cells #[.slice vo n vc,.slice ro m rc] 25))).alloc (.cells #[.int .i64 0,.slice none 0 0,.int .i64 0,.slice none 0 0] 29)
 have hb1:=blk_keep (blk_alloc_at w (.cells #[.slice vo n vc,.slice ro m rc] 25)) hxb
 have hb2:blk ((w.alloc (.cells #[.slice vo n vc,.slice ro m rc] 25)).alloc (.cells #[.int .i64 0,.slice none 0 0,.int .i64 0,.slice none 0 0] 29)) (w.heap.size+1)=some (.cells #[.int .i64 0,.slice none 0 0,.int .i64 0,.slice none 0 0] 29 (0,0)):=by
  have h:=blk_alloc_at (w.alloc (.cells #[.slice vo n vc,.slice ro m rc] 25)) (.cells #[.int .i64 0,.slice none 0 0,.int .i64 0,.slice none 0 0] 29)
  rwa [World.size_alloc] at h
 have HB:=bH hb1
 have HZ:=bH hb2
 have HX:=bH (hxa.trans hxb)
 have HLo:=bH (show w.heap.size<=w.heap.size+1 by omega)
 clear hxa hxb hb1 hb2
 go_enter Tryz.func21,Tryz.ntmps21
 go_upto_region 1 with fail
 generalize (w.alloc (.cells #[.slice vo n vc,.slice ro m rc] 25)).alloc (.cells #[.int .i64 0,.slice none 0 0,.int .i64 0,.slice none 0 0] 29)=w1 at *
 generalize w.heap.size+1=cb at *
 obtain ⟨pb,hpb⟩:∃ q,w.heap.size=q:=⟨_,rfl⟩
 rw [hpb] at HB ⊢
 clear hpb
 have p0:=cellq HB.out 0 rfl
 have p1:=cellq HB.out 1 rfl
 go_wp2_with fail
 refine (HVa.out w1 HX.out).mono ?_
 rintro r2 w2 ⟨rfl,hx2⟩
 replace HB:=bH (blk_keep HB.out hx2)
 replace HZ:=bH (blk_keep HZ.out hx2)
 replace HX:=bH (HX.out.trans hx2)
 clear p0 p1 hx2 HVa
 cases VB with
 | false =>
  have HEx:=bH (show ¬ (0<=row/\row<p.rows.length/\validB p=true) from fun h=>by rw [HVB.out] at h; cases h.2.2)
  have HP:=bH (cut_put HZ.out (.int .i64 0) (.slice none 0 0) (.int .i64 0) (.slice none 0 0))
  have y0:=free_of_cells HZ.out
  have z0:=cellq HZ.out 0 rfl
  have z1:=cellq HZ.out 1 rfl
  have z2:=cellq HZ.out 2 rfl
  have z3:=cellq HZ.out 3 rfl
  go_wp2
  generalize (((w2.setCell ⟨cb,0,none⟩ (.int .i64 0)).setCell ⟨cb,1,none⟩ (.slice none 0 0)).setCell ⟨cb,2,none⟩ (.int .i64 0)).setCell ⟨cb,3,none⟩ (.slice none 0 0)=w99 at *
  have g0:=cellq HP.out.1 0 rfl
  have g1:=cellq HP.out.1 1 rfl
  have g2:=cellq HP.out.1 2 rfl
  have g3:=cellq HP.out.1 3 rfl
  exact bodyPost_ret (v:=.tuple #[.agg #[.int .i64 0,.slice none 0 0,.int .i64 0,.slice none 0 0],.bool false]) (by simp [results,Tryz.results21,go_sem,g0,g1,g2,g3]) rfl ⟨.slice none 0 0,⟨0,[],0,[]⟩,false,rfl,IRow.inz (IRow.nil _ 0),rfl,.inr ⟨HEx.out,rfl,rfl⟩,(HX.out).own HP.out.2 (fun k e=>by rw [show k=cb from e]; exact HLo.out)⟩
 | true =>
 by_cases hr0:row<0
 ·have HEx:=bH (show ¬ (0<=row/\row<p.rows.length/\validB p=true) from fun h=>by omega)
  have HP:=bH (cut_put HZ.out (.int .i64 0) (.slice none 0 0) (.int .i64 0) (.slice none 0 0))
  have y0:=free_of_cells HZ.out
  have z0:=cellq HZ.out 0 rfl
  have z1:=cellq HZ.out 1 rfl
  have z2:=cellq HZ.out 2 rfl
  have z3:=cellq HZ.out 3 rfl
  go_wp2
  generalize (((w2.setCell ⟨cb,0,none⟩ (.int .i64 0)).setCell ⟨cb,1,none⟩ (.slice none 0 0)).setCell ⟨cb,2,none⟩ (.int .i64 0)).setCell ⟨cb,3,none⟩ (.slice none 0 0)=w99 at *
  have g0:=cellq HP.out.1 0 rfl
  have g1:=cellq HP.out.1 1 rfl
  have g2:=cellq HP.out.1 2 rfl
  have g3:=cellq HP.out.1 3 rfl
  exact bodyPost_ret (v:=.tuple #[.agg #[.int .i64 0,.slice none 0 0,.int .i64 0,.slice none 0 0],.bool false]) (by simp [results,Tryz.results21,go_sem,g0,g1,g2,g3]) rfl ⟨.slice none 0 0,⟨0,[],0,[]⟩,false,rfl,IRow.inz (IRow.nil _ 0),rfl,.inr ⟨HEx.out,rfl,rfl⟩,(HX.out).own HP.out.2 (fun k e=>by rw [show k=cb from e]; exact HLo.out)⟩
 have p1:=cellq HB.out 1 rfl
 by_cases hr1:(m:Int)<=row
 ·have HEx:=bH (show ¬ (0<=row/\row<p.rows.length/\validB p=true) from fun h=>by have:=HM.out; omega)
  have HP:=bH (cut_put HZ.out (.int .i64 0) (.slice none 0 0) (.int .i64 0) (.slice none 0 0))
  have y0:=free_of_cells HZ.out
  have z0:=cellq HZ.out 0 rfl
  have z1:=cellq HZ.out 1 rfl
  have z2:=cellq HZ.out 2 rfl
  have z3:=cellq HZ.out 3 rfl
  go_wp2
  generalize (((w2.setCell ⟨cb,0,none⟩ (.int .i64 0)).setCell ⟨cb,1,none⟩ (.slice none 0 0)).setCell ⟨cb,2,none⟩ (.int .i64 0)).setCell ⟨cb,3,none⟩ (.slice none 0 0)=w99 at *
  have g0:=cellq HP.out.1 0 rfl
  have g1:=cellq HP.out.1 1 rfl
  have g2:=cellq HP.out.1 2 rfl
  have g3:=cellq HP.out.1 3 rfl
  exact bodyPost_ret (v:=.tuple #[.agg #[.int .i64 0,.slice none 0 0,.int .i64 0,.slice none 0 0],.bool false]) (by simp [results,Tryz.results21,go_sem,g0,g1,g2,g3]) rfl ⟨.slice none 0 0,⟨0,[],0,[]⟩,false,rfl,IRow.inz (IRow.nil _ 0),rfl,.inr ⟨HEx.out,rfl,rfl⟩,(HX.out).own HP.out.2 (fun k e=>by rw [show k=cb from e]; exact HLo.out)⟩
 obtain ⟨ri,rfl⟩:∃ i:Nat,row=i:=⟨row.toNat,by omega⟩
 have him:ri<m:=by omega
 have HEx:=bH (show 0<=(ri:Int)/\(ri:Int)<p.rows.length/\validB p=true from ⟨by omega,by rw [HM.out]; omega,HVB.out⟩)
 have HCx:=bH (HCd.out w2 HX.out ri him rfl)
 have HIx:=bH (fun W (hW:XF w W) v vs (hv:Inz W v vs) (hvs:∀ u ∈ vs,binB p u=true)=>HIc.out W hW ri him rfl v vs hv hvs)
 have HL:=bH (HL12.out ri (by rw [HM.out]; exact him))
 have p0:=cellq HB.out 0 rfl
 clear HCd HIc HL12
 go_upto_region 4 with (go_at_call 44; (with_reducible refine HCx.out.mono ?_); rintro q3 w3 ⟨b,ln,c,l,rfl,hz3,hl3,hln,hord,hx3⟩; have HO:=bH (bI hz3 (bI hl3 (bI hord (Nat.le_trans hln HL.out)))); clear hz3 hl3 hln hord)
 replace HB:=bH (blk_keep HB.out hx3)
 replace HZ:=bH (blk_keep HZ.out hx3)
 replace HX:=bH (HX.out.trans hx3)
 clear hx3 HCx p0 p1 HL
 have HOb:=bH HO.out.2.2.1.bin
 have l12:ln<=12:=HO.out.2.2.2
 go_wp2_with fail
 go_loopg [9] (ln+1) (fun gg v9 wr=>∃ k:Nat,k<=ln+1/\gg=ln+1 - k/\v9=.int .i64 k/\(∀ j,j<k->isCovB p (p.r ri) (l.take j)=false)/\XF w3 wr)
 case atStart=>exact ⟨0,Nat.zero_le _,rfl,rfl,fun j hj=>absurd hj (Nat.not_lt_zero j),Ext.refl _ _⟩
 case round =>
  obtain ⟨k,hkn,rfl,rfl,hno,hxr⟩:=hrel
  have HNo:=bH hno
  have HR:=bH hxr
  clear hno
  have HBr:=bH (blk_keep HB.out hxr)
  have p0:=cq (cellq HBr.out 0 rfl)
  have p1:=cq (cellq HBr.out 1 rfl)
  clear hxr
  have hcap:=HO.out.1.cap
  by_cases hkl:k<=ln
  ·have k0:(k:Int)<=(ln:Int):=by omega
   have k1:(0:Int)<=(k:Int):=by omega
   have k2:k<=c:=by omega
   obtain ⟨S,hS⟩:∃ S,isCovB p (p.r ri) (l.take k)=S:=⟨_,rfl⟩
   have HS:=bH hS
   have HIk:=bH (fun W (hW:XF wr W)=>HIx.out W ((HX.out.trans HR.out).trans hW) (.slice (some ⟨b,0,none⟩) k c) (l.take k) (((HO.out.1).take hkl).keep (HR.out.trans hW)) (fun u hu=>HOb.out u (List.mem_of_mem_take hu)))
   rw [hS] at HIk
   clear hS hcap
   go_upto_region 5 with fail
   refine wp_region_held_drew (S:=(XF wr)) (by kernel_rfl) ((Ext.refl _ wr).drew) (fun hHeld=>?_)
   refine ht 0 (h:=(ht 1 (h:=(ht 2 (h:=(ht 3 (h:=(ht 4 (h:=?_)))))))))
   (try go_frame)
   refine ht 5 (h:=?_)
   (try go_frame)
   refine ht 6 (h:=?_)
   (try go_frame)
   refine ht 7 (h:=?_)
   (try go_frame)
   refine ht 8 (h:=?_)
   (try go_frame)
   refine ht 9 (h:=?_)
   (try go_frame)
   refine hst 10 (h:=fun K hK=>?_)
   (go_simp; go_at_call 45; (with_reducible refine (HIk.out _ hHeld).mono ?_); rintro q1 w11 ⟨rfl,hx11⟩; have hX1:=hHeld.trans hx11)
   refine hK.out _ _ (hX1) (fun hHeld=>?_)
   clear hK K
   (try go_frame)
   refine ht 11 (h:=(ht 12 (h:=?_)))
   (try go_frame)
   refine wpAnyH_done (by kernel_rfl) ?_ _
   replace HR:=bH (HR.out.trans hX1)
   clear hX1 hx11 hHeld p0 p1 HIk HBr
   cases S with
   | false =>
    go_wp2
    go_roundg (ln+1 - (k+1))
    case measure=>omega
    case rel=>exact ⟨k+1,by omega,rfl,by go_num,(fun j hj=>by
     by_cases e:j=k
     ·subst e; exact HS.out
     ·exact HNo.out j (by omega)),HR.out⟩
   | true =>
    obtain ⟨hk0,hmin⟩:=first_some HNo.out (by rw [HO.out.2.1]; exact hkl) HS.out
    have HMi:=bH hmin
    have HSt:=bH (bI ((HO.out.1.take hkl).keep HR.out) (bI (show (l.take k).length=k by rw [List.length_take,HO.out.2.1]; omega) (fun u (hu:u ∈ l.take k)=>HOb.out u (List.mem_of_mem_take hu))))
    have HOr:=bH HO.out.2.2.1
    have HFs:=bH (minV_spec HO.out.2.2.1 hmin)
    obtain ⟨G,hG⟩:∃ G,dropV p (p.r ri) k (l.take k)=G:=⟨_,rfl⟩
    rw [hG] at HMi HFs
    have k12:k<=12:=by omega
    have k3:¬ (ln:Int)<(k:Int):=by omega
    replace HB:=bH (blk_keep HB.out HR.out)
    replace HZ:=bH (blk_keep HZ.out HR.out)
    replace HX:=bH (HX.out.trans HR.out)
    clear HNo HS HO HOb hmin HR hkl
    go_upto_block 2 with fail
    clear k0 k3
    obtain ⟨w12,hw12⟩:∃ q,q=w11:=⟨_,rfl⟩
    rw [<- hw12] at HB HZ HX HSt ⊢
    clear hw12
    go_wp2_with fail
    go_loopg [8,10] k (fun gg v8 v10 wr=>∃ (j:Nat) (z:Int) (b n' c:Nat) (l:List Int),j=gg/\z=(j:Int) - 1/\v10=.int .i64 z/\v8=.slice (some ⟨b,0,none⟩) n' c/\dropV p (p.r ri) j l=G/\j<=n'/\n'<=12/\l.length=n'/\(∀ u ∈ l,binB p u=true)/\Inz wr (.slice (some ⟨b,0,none⟩) n' c) l/\XF w12 wr)
    case atStart=>exact ⟨k,_,_,_,_,l.take k,rfl,rfl,by go_num,rfl,hG,Nat.le_refl _,k12,HSt.out.2.1,HSt.out.2.2,HSt.out.1,Ext.refl _ _⟩
    case round =>
     obtain ⟨j,z,b,n',c,l,hjg,hz,rfl,rfl,hdr,hjl,hl12,hll,hlb,hzz,hxr⟩:=hrel
     obtain rfl:=hjg
     have HD:=bH hdr
     have HI:=bH (bI hzz (bI hxr (bI hll hlb)))
     clear hdr hzz hxr hll hlb
     by_cases hj0:j=0
     ·have z9:¬ (0:Int)<=z:=by omega
      have HDe:=bH (show l=G from by have h:=HD.out; rw [hj0] at h; exact h)
      have HSo:=bH (Sorted_any wr _ l HI.out.1 (by rw [HDe.out]; exact HFs.out.2.1) (by rw [HI.out.2.2.1]; omega))
      rw [HDe.out] at HSo
      replace HZ:=bH (blk_keep HZ.out HI.out.2.1)
      replace HX:=bH (HX.out.trans HI.out.2.1)
      have HCb:=bH (blk_lt HZ.out)
      clear hz hj0 HD HI hjl hl12
      go_wp2_with fail
      refine HSo.out.mono ?_
      rintro r9 w9 ⟨tb,tn,tc,t,rfl,hzt,htb,hsrt,hx9⟩
      replace HZ:=bH (blk_keep HZ.out hx9)
      replace HX:=bH (HX.out.trans hx9)
      have HT:=bH (bI hzt (bI htb hsrt))
      clear hzt htb hsrt hx9 HSo
      have HP:=bH (cut_put HZ.out (.int .i64 1) (.slice none 0 0) (.int .i64 ri) (.slice (some ⟨tb,0,none⟩) tn tc))
      have y0:=free_of_cells HZ.out
      have z0:=cellq HZ.out 0 rfl
      have z1:=cellq HZ.out 1 rfl
      have z2:=cellq HZ.out 2 rfl
      have z3:=cellq HZ.out 3 rfl
      go_wp2
      generalize (((w9.setCell ⟨cb,0,none⟩ (.int .i64 1)).setCell ⟨cb,1,none⟩ (.slice none 0 0)).setCell ⟨cb,2,none⟩ (.int .i64 ri)).setCell ⟨cb,3,none⟩ (.slice (some ⟨tb,0,none⟩) tn tc)=w99 at *
      have g0:=cellq HP.out.1 0 rfl
      have g1:=cellq HP.out.1 1 rfl
      have g2:=cellq HP.out.1 2 rfl
      have g3:=cellq HP.out.1 3 rfl
      exact bodyPost_ret (v:=.tuple #[.agg #[.int .i64 1,.slice none 0 0,.int .i64 ri,.slice (some ⟨tb,0,none⟩) tn tc],.bool true]) (by simp [results,Tryz.results21,go_sem,g0,g1,g2,g3]) rfl ⟨.slice (some ⟨tb,0,none⟩) tn tc,⟨1,[],ri,t⟩,true,rfl,HT.out.1.past HP.out.2 (fun e=>by have e2:tb=cb:=e; have h1:=HT.out.2.1; have h2:=HCb.out; omega),rfl,.inl ⟨HEx.out,covIs_some HOr.out HMi.out HT.out.2.2⟩,HX.out.own HP.out.2 (fun k e=>by rw [show k=cb from e]; exact HLo.out)⟩
     ·obtain ⟨i,rfl⟩:∃ i,j=i+1:=⟨j - 1,by omega⟩
      obtain rfl:z=(i:Int):=by omega
      obtain ⟨k,hki⟩:∃ k,i+1=k:=⟨_,rfl⟩
      have i0:(i:Int)<=(n':Int):=by omega
      have i1:(0:Int)<=(i:Int):=by omega
      have ik:(i:Int)+1=(k:Int):=by omega
      have k0:(k:Int)<=(n':Int):=by omega
      have k1:(0:Int)<=(k:Int):=by omega
      have hwk:IntKind.i64.wrap (k:Int)=(k:Int):=IntWalk.i64_in _ (by omega)
      have hcp:=HI.out.1.cap
      have i2:i<=c:=by omega
      have HIn:=bH (show l.length=n'/\i<=n'/\k<=n'/\n'<=1000 from ⟨HI.out.2.2.1,by omega,by omega,by omega⟩)
      have HDs:=bH (show dropV p (p.r ri) i (lessV p (p.r ri) l i)=G from HD.out)
      have HEr:=bH (show l.eraseIdx i=l.take i++l.drop k from by rw [<- hki,List.eraseIdx_eq_take_drop_succ])
      have HEb:=bH (show ∀ u ∈ l.take i++l.drop k,binB p u=true from fun u hu=>HI.out.2.2.2 u (by
       rcases List.mem_append.1 hu with h | h
       ·exact List.mem_of_mem_take h
       ·exact List.mem_of_mem_drop h))
      have HSl:=bH (fun S h=>less_isCov (p:=p) (r:=p.r ri) (l:=l) (i:=i) (S:=S) h)
      rw [HEr.out] at HSl
      clear hcp hz hj0 HD
      go_upto_region 13 with fail
      obtain ⟨w10,hw10⟩:∃ q,q=wr:=⟨_,rfl⟩
      rw [<- hw10] at HI ⊢
      have HSv:=bH HI.out.1
      obtain ⟨B,hB⟩:∃ q,w10.heap.size=q:=⟨_,rfl⟩
      have HBd:=bH hB
      clear hB hw10
      refine wp_region_held_drew (S:=(XF w10)) (by kernel_rfl) ((Ext.refl _ w10).drew) (fun hHeld=>?_)
      refine ht 1 (h:=(ht 2 (h:=(ht 3 (h:=(ht 5 (h:=(ht 6 (h:=(ht 7 (h:=(ht 8 (h:=?_)))))))))))))
      (try go_frame)
      refine hst 0 (h:=fun K hK=>?_)
      go_simp
      have hx0:XF w10 (w10.alloc (.cells #[] 3)).drew:=((Ext.refl (fun _=>False) w10).alloc (.cells #[] 3)).drew
      have HO0:=bH (show InsSt w10 (w10.alloc (.cells #[] 3)).drew B (.slice (some ⟨w10.heap.size,0,none⟩) 0 0) [] from InsSt.new HBd.out hx0 (blk_alloc_at w10 _) (Ext.refl (fun _=>False) w10).size)
      generalize (w10.alloc (.cells #[] 3)).drew=u0 at *
      rw [HBd.out]
      rw [HBd.out] at HO0
      refine hK.out _ _ (hx0) (fun hHeld=>?_)
      clear hK K
      (try go_frame)
      refine hst 4 (h:=fun K hK=>?_)
      refine step_append_list (f:=cI) rfl (.tmp 60) (.tmp 63) rfl cI_len (l.take i) (fun x _=>cI_one x) Tryz.underlying27 Tryz.infoInt rfl (by decide) (by decide) B (.slice (some ⟨B,0,none⟩) 0 0) rfl (HO0.out).own _ _ _ rfl ((HSv.out.take HIn.out.2.1).keep hx0) (by simp only [List.length_take,List.length_nil,HIn.out.1]; have:=HIn.out.2.2.2; omega) (HO0.out).low (fun v1 u1 g1 g2 g3=>?_)
      have HO1:Hid (InsSt w10 u1 B v1 (l.take i)):=bH ((HO0.out).app g1 g2)
      have hx1:=HO1.out.ext
      clear g1 g2 g3
      refine hK.out _ _ (hx1) (fun hHeld=>?_)
      clear hK K
      (try go_frame)
      refine hst 9 (h:=fun K hK=>?_)
      refine step_append_list (f:=cI) rfl (.tmp 64) (.tmp 68) rfl cI_len (l.drop k) (fun x _=>cI_one x) Tryz.underlying27 Tryz.infoInt rfl (by decide) (by decide) B v1 rfl (HO1.out).own _ _ _ rfl ((HSv.out.dropIf HIn.out.2.2.1).keep hx1) (by simp only [List.length_take,List.length_drop,HIn.out.1]; have:=HIn.out.2.2.2; omega) (HO1.out).low (fun v2 u2 g1 g2 g3=>?_)
      have HO2:Hid (InsSt w10 u2 B v2 (l.take i++l.drop k)):=bH ((HO1.out).app g1 g2)
      have hx2:=HO2.out.ext
      clear g1 g2 g3
      refine hK.out _ _ (hx2) (fun hHeld=>?_)
      clear hK K
      (try go_frame)
      refine ht 10 (h:=?_)
      (try go_frame)
      refine wpAnyH_done (by kernel_rfl) ?_ _
      generalize (if c=k then (some ⟨b,0,none⟩:Option Addr) else some ⟨b,k,none⟩)=xo'
      obtain ⟨no,nc,hv2⟩:=ownsRow_shape HO2.out.own
      obtain ⟨n2,hn2⟩:∃ q,(l.take i++l.drop k).length=q:=⟨_,rfl⟩
      rw [hn2] at hv2
      have HN2:=bH hn2
      clear hn2
      subst hv2
      have HR2:=bH (HI.out.2.1.trans HO2.out.ext)
      have HZ2:=bH HO2.out.inz
      have HSh:=bH (fun h=>HO2.out.shape h)
      obtain ⟨S,hS⟩:∃ S,isCovB p (p.r ri) (l.take i++l.drop k)=S:=⟨_,rfl⟩
      have HS:=bH hS
      have HIk:=bH (HIx.out u2 (HX.out.trans HR2.out) _ _ HZ2.out HEb.out)
      rw [hS] at HIk
      have HSm:=bH (HSl.out S hS)
      have hbp:=blk_keep HB.out HR2.out
      have p0:=cellq hbp 0 rfl
      have p1:=cellq hbp 1 rfl
      clear hS hbp hx0 hx1 hx2 hHeld HO0 HO1 HSl
      go_wp2_with fail
      refine HIk.out.mono ?_
      rintro r14 w14 ⟨rfl,hx14⟩
      clear p0 p1 HIk
      cases S with
      | false =>
       replace HSm:=bH (HSm.out.trans (if_neg (by decide)))
       go_wp2
       go_roundg i
       case measure=>omega
       case rel=>exact ⟨i,_,b,n',c,l,rfl,rfl,by go_num,rfl,by rw [<- HSm.out]; exact HDs.out,by omega,hl12,HI.out.2.2.1,HI.out.2.2.2,HI.out.1.keep (HO2.out.ext.trans hx14),HR2.out.trans hx14⟩
      | true =>
       replace HSm:=bH (HSm.out.trans (if_pos rfl))
       have hpos:0<(l.take i++l.drop k).length:=by
        have h:=HS.out
        unfold isCovB at h
        simp only [Bool.and_eq_true,decide_eq_true_eq] at h
        exact h.2
       obtain ⟨b',c',e9⟩:=HSh.out hpos
       rw [HN2.out] at e9
       obtain ⟨rfl,rfl⟩:no=some ⟨b',0,none⟩/\nc=c':=by cases e9; exact ⟨rfl,rfl⟩
       have hl2:n2+1=n':=by
        have h:=HN2.out
        rw [<- HEr.out,List.length_eraseIdx_of_lt (by rw [HI.out.2.2.1]; omega),HI.out.2.2.1] at h
        omega
       clear hpos e9 HSh
       go_wp2
       go_roundg i
       case measure=>omega
       case rel=>exact ⟨i,_,b',n2,nc,l.take i++l.drop k,rfl,rfl,by go_num,rfl,by rw [<- HSm.out]; exact HDs.out,by omega,by omega,HN2.out,HEb.out,HZ2.out.keep hx14,HR2.out.trans hx14⟩
  ·have k0:¬ (k:Int)<=(ln:Int):=by omega
   have k3:(ln:Int)<(k:Int):=by omega
   have HMn:=bH (first_none (p:=p) (r:=p.r ri) (l:=l) (fun j hj=>HNo.out j (by rw [HO.out.2.1] at hj; omega)))
   have HWy:=bH (show CovR p ri x ⟨0,[],0,[]⟩ false from .inl ⟨HEx.out,covIs_none HO.out.2.2.1 HMn.out⟩)
   clear hcap
   go_upto_region 5 with fail
   refine wp_region_held_drew (S:=(XF wr)) (by kernel_rfl) ((Ext.refl _ wr).drew) (fun hHeld=>?_)
   refine ht 0 (h:=(ht 1 (h:=(ht 2 (h:=(ht 3 (h:=(ht 4 (h:=?_)))))))))
   (try go_frame)
   refine hk 5 (h:=?_)
   (try go_frame)
   refine hk 6 (h:=?_)
   (try go_frame)
   refine hk 7 (h:=?_)
   (try go_frame)
   refine hk 8 (h:=?_)
   (try go_frame)
   refine hk 9 (h:=?_)
   (try go_frame)
   refine hk 10 (h:=?_)
   (try go_frame)
   refine hk 11 (h:=(ht 12 (h:=?_)))
   (try go_frame)
   refine wpAnyH_done (by kernel_rfl) ?_ _
   have HRd:=bH (HR.out.trans hHeld)
   replace HZ:=bH (blk_keep HZ.out HRd.out)
   replace HX:=bH (HX.out.trans HRd.out)
   clear hHeld p0 p1 HBr HR
   obtain ⟨w98,hw98⟩:∃ q,q=wr.drew:=⟨_,rfl⟩
   rw [<- hw98] at HZ HX ⊢
   clear hw98 HRd
   have HP:=bH (cut_put HZ.out (.int .i64 0) (.slice none 0 0) (.int .i64 0) (.slice none 0 0))
   have y0:=free_of_cells HZ.out
   have z0:=cellq HZ.out 0 rfl
   have z1:=cellq HZ.out 1 rfl
   have z2:=cellq HZ.out 2 rfl
   have z3:=cellq HZ.out 3 rfl
   go_wp2
   generalize (((w98.setCell ⟨cb,0,none⟩ (.int .i64 0)).setCell ⟨cb,1,none⟩ (.slice none 0 0)).setCell ⟨cb,2,none⟩ (.int .i64 0)).setCell ⟨cb,3,none⟩ (.slice none 0 0)=w99 at *
   have g0:=cellq HP.out.1 0 rfl
   have g1:=cellq HP.out.1 1 rfl
   have g2:=cellq HP.out.1 2 rfl
   have g3:=cellq HP.out.1 3 rfl
   exact bodyPost_ret (v:=.tuple #[.agg #[.int .i64 0,.slice none 0 0,.int .i64 0,.slice none 0 0],.bool false]) (by simp [results,Tryz.results21,go_sem,g0,g1,g2,g3]) rfl ⟨.slice none 0 0,⟨0,[],0,[]⟩,false,rfl,IRow.inz (IRow.nil _ 0),rfl,HWy.out,(HX.out).own HP.out.2 (fun k e=>by rw [show k=cb from e]; exact HLo.out)⟩
theorem CovR.uniq {p:ProgV} {row:Int} {x:List Rat} {c c':CutV} {ok ok':Bool} (h:CovR p row x c ok) (h':CovR p row x c' ok'):c=c'/\ok=ok':=by
 rcases h with ⟨k,h⟩ | ⟨k,h,g⟩
 ·rcases h' with ⟨_,h'⟩ | ⟨k',_⟩
  ·exact h.uniq h'
  ·exact absurd k k'
 ·rcases h' with ⟨k',_⟩ | ⟨_,h',g'⟩
  ·exact absurd k' k
  ·exact ⟨g.trans g'.symm,h.trans h'.symm⟩
theorem RRats_nil (w:World):Calls Tryz.prog 47 #[.slice none 0 0,.slice none 0 0] w (BoolPost w true):=by
 go_enter Tryz.func47,Tryz.ntmps47
 go_wp2_with fail
 go_loopg [5] 0 (fun gg v5 wr=>v5=.int .i64 0/\wr=w)
 case atStart=>exact ⟨rfl,rfl⟩
 case round =>
  obtain ⟨rfl,rfl⟩:=hrel
  go_wp2
  go_ret
  exact ⟨rfl,Ext.refl _ _⟩
theorem Same7_any (w:World) (kd cw:Int) (so so2:Option Addr) (n sc sc2:Nat) (vs:List Int) (h1:Inz w (.slice so n sc) vs) (h2:Inz w (.slice so2 n sc2) vs):Calls Tryz.prog 22 #[.agg #[.int .i64 kd,.slice none 0 0,.int .i64 cw,.slice so n sc],.agg #[.int .i64 kd,.slice none 0 0,.int .i64 cw,.slice so2 n sc2]] w (BoolPost w true):=by
 have hxa:=(Ext.refl (fun _=>False) w).alloc (.cells #[.int .i64 kd,.slice none 0 0,.int .i64 cw,.slice so n sc] 29)
 have hxb:=(Ext.refl (fun _=>False) (w.alloc (.cells #[.int .i64 kd,.slice none 0 0,.int .i64 cw,.slice so n sc] 29))).alloc (.cells #[.int .i64 kd,.slice none 0 0,.int .i64 cw,.slice so2 n sc2] 29)
 have hb2:blk ((w.alloc (.cells #[.int .i64 kd,.slice none 0 0,.int .i64 cw,.slice so n sc] 29)).alloc (.cells #[.int .i64 kd,.slice none 0 0,.int .i64 cw,.slice so2 n sc2] 29)) (w.heap.size+1)=some (.cells #[.int .i64 kd,.slice none 0 0,.int .i64 cw,.slice so2 n sc2] 29 (0,0)):=by
  have h:=blk_alloc_at (w.alloc (.cells #[.int .i64 kd,.slice none 0 0,.int .i64 cw,.slice so n sc] 29)) (.cells #[.int .i64 kd,.slice none 0 0,.int .i64 cw,.slice so2 n sc2] 29)
  rwa [World.size_alloc] at h
 have HB:=bH (bI (blk_keep (blk_alloc_at w (.cells #[.int .i64 kd,.slice none 0 0,.int .i64 cw,.slice so n sc] 29)) hxb) (bI hb2 (hxa.trans hxb)))
 have HI:=bH (Ints4_any _ _ _ vs vs (h1.keep (hxa.trans hxb)) (h2.keep (hxa.trans hxb)))
 rw [decide_eq_true rfl] at HI
 have HR:=bH (fun W=>RRats_nil W)
 clear hxa hxb hb2 h1 h2
 go_enter Tryz.func22,Tryz.ntmps22
 go_upto_region 1 with fail
 generalize (w.alloc (.cells #[.int .i64 kd,.slice none 0 0,.int .i64 cw,.slice so n sc] 29)).alloc (.cells #[.int .i64 kd,.slice none 0 0,.int .i64 cw,.slice so2 n sc2] 29)=w1 at *
 obtain ⟨cb,hcb⟩:∃ q,w.heap.size=q:=⟨_,rfl⟩
 rw [hcb] at HB ⊢
 clear hcb
 have e0:=cellq HB.out.1 0 rfl
 have e1:=cellq HB.out.1 1 rfl
 have e2:=cellq HB.out.1 2 rfl
 have e3:=cellq HB.out.1 3 rfl
 have f0:=cellq HB.out.2.1 0 rfl
 have f1:=cellq HB.out.2.1 1 rfl
 have f2:=cellq HB.out.2.1 2 rfl
 have f3:=cellq HB.out.2.1 3 rfl
 go_wp2_with (first
  | (go_at_call 32; (with_reducible refine HI.out.mono ?_); rintro q2 w2 ⟨rfl,hx2⟩; replace e1:=cell_keep e1 hx2; replace f1:=cell_keep f1 hx2)
  | (go_at_call 47; (with_reducible refine (HR.out _).mono ?_); rintro q3 w3 ⟨rfl,hx3⟩))
 go_ret
 exact ⟨rfl,HB.out.2.2.trans (hx2.trans hx3)⟩
theorem cover7_core (w:World) (pv xv:Value) (p:ProgV) (row:Int) (x:List RatV) (hp:IsPrg w pv p) (hrow:InR row) (hx:Raws w xv x):Calls Tryz.prog 5 #[pv,.int .i64 row,xv] w (BoolPost w true):=by
 obtain ⟨vo,vn,vc,ro,rn,rc,rfl⟩:=hp.slicesP
 have HLn:=bH (show p.vars.length=vn/\p.rows.length=rn from by
  obtain ⟨vv,rv,e,h,h2⟩:=hp
  cases e
  obtain ⟨_,_,e,_⟩:=h.shape
  obtain ⟨_,_,e2,_⟩:=h2.shape
  cases e; cases e2
  exact ⟨rfl,rfl⟩)
 obtain ⟨xo,xc,rfl,-⟩:=hx.shape
 have hxp:=(Ext.refl (fun _=>False) w).alloc (.cells #[.slice vo vn vc,.slice ro rn rc] 25)
 have hxa:=hxp
 have HB:=bH (bI (hp.keep hxa) (bI (blk_alloc_at w (.cells #[.slice vo vn vc,.slice ro rn rc] 25)) (bI hxa trivial)))
 have HXx:=bH (fun W (hW:XF (w.alloc (.cells #[.slice vo vn vc,.slice ro rn rc] 25)) W)=>hx.keep (hxa.trans hW))
 clear hp hxa hxp hx
 obtain ⟨xn,hxn⟩:∃ n,x.length=n:=⟨_,rfl⟩
 rw [hxn] at HXx ⊢
 clear hxn
 go_enter Tryz.func5,Tryz.ntmps5
 go_upto_region 1 with fail
 generalize w.alloc (.cells #[.slice vo vn vc,.slice ro rn rc] 25)=w1 at *
 obtain ⟨pb,hpb⟩:∃ q,w.heap.size=q:=⟨_,rfl⟩
 rw [hpb] at HB ⊢
 have HPb:=bH (Nat.le_of_eq hpb)
 clear hpb
 have p0:w1.cell? ⟨pb,0,none⟩=some (.slice vo vn vc):=cellq HB.out.2.1 0 rfl
 have p1:w1.cell? ⟨pb,1,none⟩=some (.slice ro rn rc):=cellq HB.out.2.1 1 rfl
 have HC0:=bH (fun W (hW:XF w1 W)=>show Calls Tryz.prog 10 #[(.agg #[.slice vo vn vc,.slice ro rn rc]),.int .i64 6,.int .i64 8] W (BoolPost W (fewP p 6 8)) from FewP_any W (.agg #[.slice vo vn vc,.slice ro rn rc]) p 6 8 (by decide) (by decide) (HB.out.1.keep hW))
 obtain ⟨b0,hb0⟩:∃ b,fewP p 6 8=b:=⟨_,rfl⟩
 rw [hb0] at HC0
 have HG0:=bH hb0
 clear hb0
 cases b0 with
 | false =>
  go_upto_region 2 with (first | (go_at_call 9; (with_reducible refine (awake7_any _).mono ?_); rintro q2 w2 ⟨rfl,hx2⟩; replace p0:=cell_keep p0 hx2; replace p1:=cell_keep p1 hx2) | (go_at_call 10; (with_reducible refine (HC0.out _ (hx2)).mono ?_); rintro q3 w3 ⟨rfl,hx3⟩; replace p0:=cell_keep p0 hx3; replace p1:=cell_keep p1 hx3))
  go_wp2_with (go_at_call 9; refine (awake7_any _).mono ?_; rintro r8 w8 ⟨rfl,hx8⟩)
  go_ret
  exact ⟨rfl,(HB.out.2.2.1.trans (hx2.trans hx3)).trans hx8⟩
 | true =>
 have HC1:=bH (fun W (hW:XF w1 W)=>show Calls Tryz.prog 17 #[.slice xo xn xc,.int .i64 8] W (BoolPost W (shortB x 8)) from Short_any W (.slice xo xn xc) x 8 (by decide) (HXx.out W hW))
 obtain ⟨b1,hb1⟩:∃ b,shortB x 8=b:=⟨_,rfl⟩
 rw [hb1] at HC1
 have HG1:=bH hb1
 clear hb1
 cases b1 with
 | false =>
  go_upto_region 2 with (first | (go_at_call 9; (with_reducible refine (awake7_any _).mono ?_); rintro q2 w2 ⟨rfl,hx2⟩; replace p0:=cell_keep p0 hx2; replace p1:=cell_keep p1 hx2) | (go_at_call 10; (with_reducible refine (HC0.out _ (hx2)).mono ?_); rintro q3 w3 ⟨rfl,hx3⟩; replace p0:=cell_keep p0 hx3; replace p1:=cell_keep p1 hx3) | (go_at_call 17; (with_reducible refine (HC1.out _ (hx2.trans hx3)).mono ?_); rintro q4 w4 ⟨rfl,hx4⟩; replace p0:=cell_keep p0 hx4; replace p1:=cell_keep p1 hx4))
  go_wp2_with (go_at_call 9; refine (awake7_any _).mono ?_; rintro r8 w8 ⟨rfl,hx8⟩)
  go_ret
  exact ⟨rfl,(HB.out.2.2.1.trans ((hx2.trans hx3).trans hx4)).trans hx8⟩
 | true =>
 go_upto_region 3 with (first | (go_at_call 9; (with_reducible refine (awake7_any _).mono ?_); rintro q2 w2 ⟨rfl,hx2⟩; replace p0:=cell_keep p0 hx2; replace p1:=cell_keep p1 hx2) | (go_at_call 10; (with_reducible refine (HC0.out _ (hx2)).mono ?_); rintro q3 w3 ⟨rfl,hx3⟩; replace p0:=cell_keep p0 hx3; replace p1:=cell_keep p1 hx3) | (go_at_call 17; (with_reducible refine (HC1.out _ (hx2.trans hx3)).mono ?_); rintro q4 w4 ⟨rfl,hx4⟩; replace p0:=cell_keep p0 hx4; replace p1:=cell_keep p1 hx4))
 have HX:=bH ((hx2.trans hx3).trans hx4)
 clear hx2 hx3 hx4 HC0 HC1
 have HRx:=bH (fun W (hW:XF w1 W)=>show Rats W (.slice xo xn xc) (valL x) 4 from (HXx.out W hW).rats (by
  have:=HG1.out
  unfold shortB at this
  simp only [Bool.and_eq_true] at this
  exact this.2))
 obtain ⟨hT,hn6,hm6⟩:=few_parts7 HG0.out
 have HCo:=bH (fun W (hW:XF w1 W)=>Cover_any W (.agg #[.slice vo vn vc,.slice ro rn rc]) (.slice xo xn xc) p row (valL x) 4 (HB.out.1.keep hW) (HRx.out W hW) (by decide) (by decide) hn6 hT)
 have HCr:=bH (fun W (hW:XF w1 W)=>RCover_any W (.agg #[.slice vo vn vc,.slice ro rn rc]) (.slice xo xn xc) p row (valL x) 4 (HB.out.1.keep hW) (HRx.out W hW) (by decide) (by decide) hT)
 clear hn6 hm6 hT
 go_upto_region 4 with (go_at_call 20; (with_reducible refine (HCo.out _ HX.out).mono ?_); rintro q6 w6 ⟨sv,c,ok,rfl,hs,hmul,hcr,hx6⟩; obtain ⟨so,sc,hsv⟩:=ownsRow_shape hs; subst hsv; have HS:=bH (bI (IRow.inz hs) (bI hcr hx6)); clear hs hmul hcr hx6)
 obtain ⟨kd,mu,cw,vs⟩:=c
 obtain ⟨n,hn⟩:∃ q,vs.length=q:=⟨_,rfl⟩
 dsimp only at HS ⊢
 rw [hn] at HS ⊢
 have HN:=bH hn
 clear hn
 have hxa:=(Ext.refl (fun _=>False) w6).alloc (.cells #[.int .i64 kd,.slice none 0 0,.int .i64 cw,.slice so n sc] 29)
 have hx7:=HS.out.2.2.trans hxa
 have HC:=bH (bI (blk_alloc_at w6 (.cells #[.int .i64 kd,.slice none 0 0,.int .i64 cw,.slice so n sc] 29)) (bI (HS.out.1.keep hxa) (bI HS.out.2.1 (HX.out.trans hx7))))
 replace p0:=cell_keep p0 hx7
 replace p1:=cell_keep p1 hx7
 clear hxa hx7 HS HX HCo
 generalize w6.alloc (.cells #[.int .i64 kd,.slice none 0 0,.int .i64 cw,.slice so n sc] 29)=w7 at *
 generalize w6.heap.size=cb at *
 go_upto_region 5 with (go_at_call 21; (with_reducible refine (HCr.out _ HC.out.2.2.2).mono ?_); rintro q8 w8 ⟨sv2,c2,ok2,rfl,hs2,-,hcr2,hx8⟩; obtain ⟨so2,sc2,hsv2,-⟩:=Inz.shape hs2; subst hsv2; obtain ⟨hce,hoe⟩:=CovR.uniq HC.out.2.2.1 hcr2; subst hce; obtain rfl:=hoe.symm; have HS:=bH (bI hs2 hx8); clear hs2 hcr2 hx8)
 try dsimp only at HS
 try dsimp only
 rw [HN.out] at HS ⊢
 have hxa:=(Ext.refl (fun _=>False) w8).alloc (.cells #[.int .i64 kd,.slice none 0 0,.int .i64 cw,.slice so2 n sc2] 29)
 have hx9:=HS.out.2.trans hxa
 have HD:=bH (bI (blk_alloc_at w8 (.cells #[.int .i64 kd,.slice none 0 0,.int .i64 cw,.slice so2 n sc2] 29)) (bI (HS.out.1.keep hxa) (bI (blk_keep HC.out.1 hx9) (bI (HC.out.2.1.keep hx9) (HC.out.2.2.2.trans hx9)))))
 clear hxa hx9 HS p0 p1 HC HCr
 generalize w8.alloc (.cells #[.int .i64 kd,.slice none 0 0,.int .i64 cw,.slice so2 n sc2] 29)=w9 at *
 generalize w8.heap.size=db at *
 have HSm:=bH (Same7_any w9 kd cw so so2 n sc sc2 vs HD.out.2.2.2.1 HD.out.2.1)
 have e0:=cellq HD.out.1 0 rfl
 have e1:=cellq HD.out.1 1 rfl
 have e2:=cellq HD.out.1 2 rfl
 have e3:=cellq HD.out.1 3 rfl
 have f0:=cellq HD.out.2.2.1 0 rfl
 have f1:=cellq HD.out.2.2.1 1 rfl
 have f2:=cellq HD.out.2.2.1 2 rfl
 have f3:=cellq HD.out.2.2.1 3 rfl
 cases ok2 with
 | true =>
  go_wp2_with (go_at_call 22; (with_reducible refine HSm.out.mono ?_); rintro q12 w12 ⟨rfl,hx12⟩)
  go_ret
  exact ⟨rfl,HB.out.2.2.1.trans (HD.out.2.2.2.2.trans hx12)⟩
 | false =>
  go_wp2_with (go_at_call 22; (with_reducible refine HSm.out.mono ?_); rintro q12 w12 ⟨rfl,hx12⟩)
  go_ret
  exact ⟨rfl,HB.out.2.2.1.trans (HD.out.2.2.2.2.trans hx12)⟩
end Go.Proofs.YtjaldknfeojjkaaGreat
