/-
  Texts of the proof, part 4. Conditions: each lemma names its own.
-/
import Derived.Test.YtlbjfkdgbhkdcaaGreatDoorZ3
import Derived.Lib.LaidTab
import Derived.Lib.ItoaLen
import Derived.Shelf.Strings.Builder1
import Derived.Shelf.Strings.Builder2
import Derived.Shelf.Strings.OnBuilder
import Derived.Shelf.Small.Bits
import Derived.Shelf.Strconv.Itoa0
import Derived.Shelf.Strconv.Itoa1
import Derived.Shelf.LaysM
import Derived.Shelf.GgClosure.StringsIndexFunc
import Derived.Ground.GgwProg
import Derived.Shelf.GgClosure.StringsIndexFuncTop
import Derived.Shelf.Strings.FuncGrows
import Derived.Shelf.Slices.Turned
import Derived.Ground.SlgfProg
import Derived.Shelf.SlicesE.IndexFunc
import Derived.Test.YtlbjfkdgbhkdcaaGreatDoorProg
import Derived.Maps.RangeWalk
set_option linter.unusedVariables false
set_option linter.unusedSimpArgs false
set_option maxRecDepth 100000
set_option maxHeartbeats 16000000
namespace Go.Proofs.YtlbjfkdgbhkdcaaGreatDoor
open Go.RowKit Go.MapKept
open Go.ChangeMaps (setBlock)
def NoD (xs:List Value):Prop:=∀ u ∈ xs,∀ d,u≠.int .u32 d
theorem noDig_cells {w:World} {g:Nat} {cur:Array Value} {t:TypeId} {fr:Nat × Nat} (h:blk w g=some (.cells cur t fr)) (hn:NoD cur.toList):NoDig w g:=fun i d hc=>by
 rw [cell_of_cells h] at hc
 exact hn _ (by rw [<- Array.getElem?_toList] at hc; exact List.mem_of_getElem? hc) d rfl
theorem NoDig.cells {w:World} {g:Nat} {cur:Array Value} {t:TypeId} {fr:Nat × Nat} (hn:NoDig w g) (h:blk w g=some (.cells cur t fr)):NoD cur.toList:=fun u hu d e=>by
 obtain ⟨i,hi,rfl⟩:=List.getElem_of_mem hu
 refine hn i d ?_
 rw [cell_of_cells h,<- Array.getElem?_toList,List.getElem?_eq_getElem hi,e]
theorem NoD.append {xs ys:List Value} (h:NoD xs) (k:NoD ys):NoD (xs++ys):=fun u hu=>(List.mem_append.1 hu).elim (h u) (k u)
theorem NoD.take {xs:List Value} (h:NoD xs) (n:Nat):NoD (xs.take n):=fun u hu=>h u (List.mem_of_mem_take hu)
theorem NoD.drop {xs:List Value} (h:NoD xs) (n:Nat):NoD (xs.drop n):=fun u hu=>h u (List.mem_of_mem_drop hu)
theorem noD_zero {z:Array Value} (h:NoD z.toList) (n:Nat):NoD (Builtin.zeroCells z n).toList:=fun u hu=>by
 unfold Builtin.zeroCells at hu
 rw [Array.toList_map] at hu
 obtain ⟨i,hi,rfl⟩:=List.mem_map.1 hu
 have hi':i<n*z.size:=by simpa using hi
 have hz:0<z.size:=Nat.pos_of_ne_zero (fun e=>by rw [e] at hi'; simp at hi')
 have hm:i % z.size<z.size:=Nat.mod_lt _ hz
 rw [getElem!_pos z _ hm]
 exact h _ (by rw [<- Array.getElem_toList]; exact List.getElem_mem _)
section
variable {P:Program}
theorem append_noDig (w:World) (base:Nat) (t ty e:TypeId) (i:TypeInfo) (z:Value) (ht:P.underlying t=some (.slice e)) (hi:P.info? e=some i) (hz:i.zero=some z)
  (hzs:z.cells.size=i.size) (hzn:NoD z.cells.toList)
  (v:Value) (n:Nat) (xs:List Value) (hown:w.ownsRow base e i.size v n xs) (hnd:∀ g,v.ownBlock=some g->NoDig w g) (hxs:NoD xs)
  (a:Addr) (m c:Nat) (news:List Value) (hl:news.length=m*i.size) (hnews:∀ j u,news[j]?=some u->w.cell? (a.add j)=some u) (h1:∀ u ∈ news,u.oneCell'=true) (hnn:NoD news) (hm:0<m)
  (h63:n+m<=maxLen) (hbytes:(n+m)*i.bytes<=140737488355328) :
  ∀ v' w',(Builtin.append_ #[t,t] ty #[v,.slice (some a) m c]).run P w=.ok v' w'->∀ g,v'.ownBlock=some g->NoDig w' g:=by
 intro v' w' hrun g' hg'
 have hsmall:n+m<=9223372036854775807:=by simp only [maxLen] at h63; omega
 rcases hown.2 with ⟨rfl,rfl⟩ | ⟨g,cap,cur,rfl,hbg,hg,hnc,hcm,hcs,htake⟩
 ·have hr:=run_append_nil (P:=P) w t ty e i z ht hi hz a m c news hl hnews hm (by omega) (by have hb:=hbytes; simp only [Nat.zero_add] at hb; omega)
  rw [hr] at hrun
  injection hrun with h2 h3
  subst h2 h3
  cases hg'
  refine noDig_cells (show blk (w.drew.alloc _) w.heap.size=some _ from blk_alloc_at w.drew _) ?_
  rw [Array.toList_append]
  exact (by simpa using hnn:NoD news.toArray.toList).append (noD_zero hzn _)
 ·by_cases hroom:n+m<=cap
  ·have hfit:n*i.size+news.length<=cur.size:=by rw [hl,hcs,<- Nat.add_mul]; exact Nat.mul_le_mul_right _ hroom
   have hr:=run_append_room (P:=P) w t ty e i ht hi g n cap cur hg a m c news hl hnews h1 hroom hfit
   rw [hr] at hrun
   injection hrun with h2 h3
   subst h2 h3
   cases hg'
   have hc:=(hnd g rfl).cells (show blk w g=some _ from hg)
   refine noDig_cells (show blk (w.setRow g _) g=some _ from setRow_heap w g cur _ e _ hg) ?_
   exact ((hc.take _).append hnn).append (hc.drop _)
  ·have holds:∀ j u,xs[j]?=some u->w.cell? ((⟨g,0,none⟩:Addr).add j)=some u:=hown.cells (g:=g) rfl
   have hr:=run_append_grow (P:=P) w t ty e i z ht hi hz ⟨g,0,none⟩ n cap xs hown.1 holds a m c news hl hnews (by omega) (by omega) (growslice_fits (by omega) hbytes)
   rw [hr] at hrun
   injection hrun with h2 h3
   subst h2 h3
   cases hg'
   refine noDig_cells (show blk (w.drew.alloc _) w.heap.size=some _ from blk_alloc_at w.drew _) ?_
   rw [Array.toList_append,Array.toList_append]
   exact (hxs.append (by simpa using hnn:NoD news.toArray.toList)).append (noD_zero hzn _)
end
structure RatC where
 ng:Bool
 a1:Option Addr
 m1:Nat
 c1:Nat
 a2:Option Addr
 m2:Nat
 c2:Nat
def RatC.cells (x:RatC):List Value:=[.bool x.ng,.slice x.a1 x.m1 x.c1,.slice x.a2 x.m2 x.c2]
def RatC.v (x:RatC):Value:=.agg #[.bool x.ng,.slice x.a1 x.m1 x.c1,.slice x.a2 x.m2 x.c2]
theorem ratC_noD (x:RatC):NoD x.cells:=fun u hu d e=>by
 subst e
 simp [RatC.cells] at hu
theorem ratC_one (x:RatC):∀ u ∈ x.cells,u.oneCell'=true:=fun u hu=>by
 simp [RatC.cells] at hu
 rcases hu with rfl | rfl | rfl <;> rfl
theorem ratsC_noD (cs:List RatC):NoD (cs.flatMap RatC.cells):=fun u hu=>by
 obtain ⟨x,hx,hu⟩:=List.mem_flatMap.1 hu
 exact ratC_noD x u hu
def ROwn (w:World) (base:Nat) (v:Value) (l:List Rat) (L:Nat):Prop :=
 ∃ cs:List RatC,cs.length=l.length/\w.ownsRow base 49 3 v l.length (cs.flatMap RatC.cells)/\(∀ g,v.ownBlock=some g->NoDig w g)/\∀ (i:Nat) c q,cs[i]?=some c->l[i]?=some q->Rrat w c.v q L
theorem ROwn.shape {w:World} {base:Nat} {v:Value} {l:List Rat} {L:Nat} (h:ROwn w base v l L):∃ ao cap,v=.slice ao l.length cap:=by
 obtain ⟨cs,_,h1,_⟩:=h
 exact ownsRow_shape h1
theorem ROwn.lt {w:World} {base:Nat} {v:Value} {l:List Rat} {L:Nat} (h:ROwn w base v l L):∀ g,v.ownBlock=some g->base<=g/\g<w.heap.size:=by
 obtain ⟨cs,_,h1,_⟩:=h
 exact h1.lt
theorem ROwn.past {S:Nat->Prop} {w w':World} {base:Nat} {v:Value} {l:List Rat} {L:Nat} (h:ROwn w base v l L) (hx:Ext S w w') (hn:∀ g,v.ownBlock=some g->¬ S g) (hr:∀ u d,Rds w u d->Rds w' u d):ROwn w' base v l L:=by
 have hlt:=h.lt
 obtain ⟨cs,h1,h2,h3,h4⟩:=h
 refine ⟨cs,h1,ownsRow_ext h2 hx hn,fun g hg i d hc=>h3 g hg i d ?_,fun i c q hc hq=>?_⟩
 ·rw [<- hx.cell (p:=⟨g,i,none⟩) (hlt g hg).2 (hn g hg)]; exact hc
 ·obtain ⟨n,m,d,l,k,g1,g2,g3,g4,g5⟩:=h4 i c q hc hq
  exact ⟨n,m,d,l,k,g1,hr _ _ g2,g3,hr _ _ g4,g5⟩
theorem ROwn.keep {w w':World} {base:Nat} {v:Value} {l:List Rat} {L:Nat} (h:ROwn w base v l L) (hx:XF w w'):ROwn w' base v l L:=h.past hx (fun _ _ h=>h) (fun _ _ hr=>hr.keep hx)
theorem ROwn.rats {w:World} {base:Nat} {v:Value} {l:List Rat} {L:Nat} (h:ROwn w base v l L):Rats w v l L:=by
 obtain ⟨cs,h1,h2,h3,h4⟩:=h
 rcases h2.2 with ⟨rfl,h0⟩ | ⟨g,cap,cur,rfl,hb,hg,hnc,hcm,hcs,htake⟩
 ·have hl:=List.eq_nil_of_length_eq_zero h0
  subst hl
  exact Rats.nil w L
 ·refine ⟨cs.map RatC.cells,by rw [List.length_map,h1],⟨some ⟨g,0,none⟩,cap,by rw [List.length_map,h1],by rw [List.length_map,h1]; exact hnc,hcm,(fun e=>by cases e),fun hp=>⟨g,0,rfl,(Array.getElem?_eq_some_iff.1 hg).1,fun i r hi j u hu=>?_⟩⟩,fun i c q hc hq=>?_⟩
  ·rw [List.getElem?_map] at hi
   obtain ⟨x,hx,rfl⟩:=Option.map_eq_some_iff.1 hi
   have hil:i<cs.length:=(List.getElem?_eq_some_iff.1 hx).1
   have hj:j<3:=(List.getElem?_eq_some_iff.1 hu).1
   have hget:=fm_get (f:=RatC.cells) (m:=3) (fun _=>rfl) cs i hx j hj
   rw [<- htake] at hget
   rw [Nat.zero_add,cell_of_cells (show blk w g=some _ from hg),<- Array.getElem?_toList,<- hu,<- hget,List.getElem?_take,if_pos (by
    have:i<l.length:=by omega
    omega)]
  ·rw [List.getElem?_map] at hc
   obtain ⟨x,hx,rfl⟩:=Option.map_eq_some_iff.1 hc
   exact h4 i x q hx hq
theorem run_append_rat (w:World) (base:Nat) (v:Value) (l:List Rat) (L:Nat) (x:RatC) (q:Rat) (ad:Addr) (c:Nat) (ty:TypeId) (h:ROwn w base v l L) (hq:Rrat w x.v q L) (hsrc:∀ j u,x.cells[j]?=some u->w.cell? (ad.add j)=some u) (hl:l.length<=1000000) (hbase:base<=w.heap.size) :
  ∃ v' w',(Builtin.append_ #[37,37] ty #[v,.slice (some ad) 1 c]).run Tryz.prog w=.ok v' w'/\ROwn w' base v' (l++[q]) L/\Ext (fun k=>v.ownBlock=some k) w w'/\(∀ u d,Rds w u d->Rds w' u d):=by
 obtain ⟨i0,hi,hz0,hz1,hz2⟩:=info_parts Tryz.infoRat
 obtain ⟨cs,h1,h2,h3,h4⟩:=h
 have h2':w.ownsRow base 49 i0.size v l.length (cs.flatMap RatC.cells):=by rw [hz1]; exact h2
 have hsz:(Value.agg #[.bool false,.slice none 0 0,.slice none 0 0]).cells.size=i0.size:=by rw [hz1]; rfl
 have hzn:NoD (Value.agg #[.bool false,.slice none 0 0,.slice none 0 0]).cells.toList:=ratC_noD ⟨false,none,0,0,none,0,0⟩
 have hbt:(l.length+1)*i0.bytes<=140737488355328:=by rw [hz2]; omega
 have h63:l.length+1<=maxLen:=by unfold maxLen; omega
 obtain ⟨v',w',hr,g1,g2,_,g5⟩:=run_append_own_at (P:=Tryz.prog) w base 37 ty 49 i0 _ i0.size i0.bytes Tryz.underlying37 hi hz0 rfl rfl hsz (by rw [hz1]; decide) v l.length _ h2' ad 1 c x.cells (by rw [hz1]; rfl) hsrc (ratC_one x) h63 hbt hbase
 have hx:Ext (fun k=>v.ownBlock=some k) w w':=(Ext.refl (fun k=>v.ownBlock=some k) w).grown g2 (fun k hk _=>hk)
 have hrd:∀ u d,Rds w u d->Rds w' u d:=fun u d hu=>hu.past hx (fun k _ hk=>h3 k hk)
 have hnd:=append_noDig (P:=Tryz.prog) w base 37 ty 49 i0 _ Tryz.underlying37 hi hz0 hsz hzn v l.length _ h2' h3 (ratsC_noD cs) ad 1 c x.cells (by rw [hz1]; rfl) hsrc (ratC_one x) (ratC_noD x) (by omega) h63 hbt v' w' hr
 refine ⟨v',w',hr,⟨cs++[x],by rw [List.length_append,List.length_append,h1]; rfl,?_,hnd,fun i c' q' hc' hq'=>?_⟩,hx,hrd⟩
 ·rw [List.length_append,List.flatMap_append,List.flatMap_cons,List.flatMap_nil,List.append_nil]
  rw [hz1] at g1
  exact g1
 ·have hkeep:∀ {c:RatC} {q:Rat},Rrat w c.v q L->Rrat w' c.v q L:=fun hh=>by
   obtain ⟨n,m,d,l,k,e1,e2,e3,e4,e5⟩:=hh
   exact ⟨n,m,d,l,k,e1,hrd _ _ e2,e3,hrd _ _ e4,e5⟩
  by_cases hi':i<cs.length
  ·rw [List.getElem?_append_left hi'] at hc'
   rw [List.getElem?_append_left (by omega)] at hq'
   exact hkeep (h4 i c' q' hc' hq')
  ·rw [List.getElem?_append_right (by omega)] at hc' hq'
   have e:i - cs.length=0:=by
    have:=(List.getElem?_eq_some_iff.1 hc').1
    simp at this
    omega
   rw [e] at hc'
   rw [show i - l.length=0 from by omega] at hq'
   cases hc'; cases hq'
   exact hkeep hq
theorem wpList_append_rat {w:World} {ops:Array Oper} {rest:List Oper} {o:Oper} {a:Act} {Q:Exit->Act->World->Prop} (hgd:o.guard=none) (s x:Operand)
  (ho:o.op=.call { callee:=.builtin .append,args:=#[s,x],argTypes:=#[37,37] })
  (base:Nat) (v:Value) (l:List Rat) (L:Nat) (hs:a.eval s=v) (hown:ROwn w base v l L) (e:RatC) (q:Rat) (hq:Rrat w e.v q L) (ad:Addr) (c:Nat) (hx:a.eval x=.slice (some ad) 1 c) (hsrc:∀ j u,e.cells[j]?=some u->w.cell? (ad.add j)=some u) (hl:l.length<=1000000) (hbase:base<=w.heap.size)
  (h:∀ v' w',ROwn w' base v' (l++[q]) L->Ext (fun k=>v.ownBlock=some k) w w'->(∀ u d,Rds w u d->Rds w' u d)->wpList Tryz.prog ops Q rest (a.put o.dst v') w') :
  wpList Tryz.prog ops Q (o :: rest) a w:=by
 refine wpList_plain hgd fun K hK=>?_
 obtain ⟨v',w',hr,h2,h3,h5⟩:=run_append_rat w base v l L e q ad c o.type hown hq hsrc hl hbase
 unfold Oper.wp execOp
 simp only [ho,resolve,invoke,builtin,Sem.run_bind,Sem.run_pure,Result.andThen_ok,List.map_toArray,List.map_cons,List.map_nil,hs,hx,hr]
 exact hK _ _ (h v' w' h2 h3 h5)
theorem ROwn.empty {w:World} {g base:Nat} (L:Nat) (h:blk w g=some (.cells #[] 49 (0,0))) (hb:base<=g):ROwn w base (.slice (some ⟨g,0,none⟩) 0 0) [] L :=
 ⟨[],rfl,ownsRow_empty 3 hb h,(fun g' e=>by cases e; exact noDig_cells h (fun u hu=>by cases hu)),(fun i c q h=>by simp at h)⟩
def RatsPost (w:World) (l:List Rat) (L:Nat) (r:Ending) (w':World):Prop:=∃ v,r=.returned v/\Rats w' v l L/\XF w w'
theorem ext_own {w0 w w':World} {v:Value} (h:XF w0 w) (hx:Ext (fun k=>v.ownBlock=some k) w w') (hb:∀ g,v.ownBlock=some g->w0.heap.size<=g):XF w0 w' :=
 h.own hx (fun k hk=>hb k hk)
def qOf (ns:List Int) (i:Nat):Rat:=((ns.getD i 0:Int):Rat)
theorem Ints_any (w:World) (b c:Nat) (ns:List Int) (L:Nat) (hc:∀ i,i<ns.length->w.cell? ⟨b,i,none⟩=some (.int .i64 (ns.getD i 0))) (hr:∀ x ∈ ns,InR x) (hn0:ns.length<=1000) (h1:2<=L) :
  Calls Tryz.prog 14 #[.slice (some ⟨b,0,none⟩) ns.length c] w (RatsPost w (listTo ns.length (qOf ns)) L):=by
 have HF:=bH (fun W (hW:XF w W) i (hi:i<ns.length)=>bI (cell_keep (hc i hi) hW) (Rrfrom_any W (ns.getD i 0) (hr _ (by rw [List.getD_eq_getElem?_getD,List.getElem?_eq_getElem hi]; exact List.getElem_mem hi)).1 (hr _ (by rw [List.getD_eq_getElem?_getD,List.getElem?_eq_getElem hi]; exact List.getElem_mem hi)).2))
 have HSz:=bH (fun i (hi:i<ns.length)=>(Sz.int (hr (ns.getD i 0) (by rw [List.getD_eq_getElem?_getD,List.getElem?_eq_getElem hi]; exact List.getElem_mem hi))).mono h1)
 clear hc hr
 have HQ:=bH (show ∀ i,((ns.getD i 0:Int):Rat)=qOf ns i from fun _=>rfl)
 generalize qOf ns=qf at *
 obtain ⟨n,hn'⟩:∃ n,ns.length=n:=⟨_,rfl⟩
 rw [hn'] at hn0 HF HSz ⊢
 clear hn'
 generalize (fun i=>ns.getD i 0)=nf at *
 have hb2:=blk_alloc_at w (.cells #[] 49)
 have HB:=bH (bI (ROwn.empty (base:=w.heap.size) L hb2 (Nat.le_refl _)) ((Ext.refl (fun _=>False) w).alloc (.cells #[] 49)))
 clear hb2
 go_enter Tryz.func14,Tryz.ntmps14
 go_upto_region 2 with fail
 generalize hw1:(w.alloc (.cells #[] 49))=w1 at *
 clear hw1
 obtain ⟨bs,hbs⟩:∃ bs,w.heap.size=bs:=⟨_,rfl⟩
 have HBs:=bH hbs
 rw [hbs] at HB ⊢
 clear hbs
 go_wp2_with fail
 go_loopg [4,3] n (fun gg v4 v3 wr=>∃ (i:Nat) (v:Value),i<=n/\gg=n - i/\v4=.int .i64 i/\v3=v/\ROwn wr bs v (listTo i qf) L/\XF w wr)
 case atStart=>exact ⟨0,_,Nat.zero_le _,rfl,rfl,rfl,HB.out.1,HB.out.2⟩
 case round =>
  obtain ⟨i,v,hi,rfl,rfl,rfl,ho,hx⟩:=hrel
  obtain ⟨ao,cap,rfl⟩:=ho.shape
  have hll:(listTo i qf).length=i:=listTo_length _ _
  rw [hll] at ho ⊢
  by_cases hin:i<n
  ·have i0:(i:Int)<(n:Int):=by omega
   have i1:(0:Int)<=(i:Int):=by omega
   have hcell:=(HF.out wr hx i hin).1
   have HA1:=bH (HF.out wr hx i hin).2
   have HSi:=bH (HSz.out i hin)
   have HQi:=bH (HQ.out i)
   generalize ns.getD i 0=nv at *
   have HO:=bH (bI ho hx)
   have HLl:=bH hll
   clear ho hx hll
   go_wp2_with fail
   refine HA1.out.mono ?_
   rintro r2 w2 ⟨v2,rfl,h2,hx2⟩
   obtain ⟨n2,a2,l2,c2,a2',l2',c2',rfl⟩:=h2.shape
   have hxa:=(Ext.refl (fun _=>False) w2).alloc (.cells #[.bool n2,.slice a2 l2 c2,.slice a2' l2' c2'] 49)
   have HO2:=bH (bI (HO.out.1.keep (hx2.trans hxa)) (bI ((HQi.out ▸ h2.reads HSi.out).keep hxa) ((HO.out.2.trans hx2).trans hxa)))
   have HSz2:=bH (show bs<=(w2.alloc (.cells #[.bool n2,.slice a2 l2 c2,.slice a2' l2' c2'] 49)).heap.size from by have:=HO2.out.2.2.size; have:=HBs.out; omega)
   have HG:=bH (fun g e=>(HO2.out.1.lt g e).1)
   clear h2 hx2 hxa HA1 hcell
   go_wp2_with (at_builtin; refine wpList_append_rat rfl (.tmp 12) (.tmp 18) rfl bs _ _ L rfl HO2.out.1 ⟨n2,a2,l2,c2,a2',l2',c2'⟩ (qf i) HO2.out.2.1 ⟨w2.heap.size,0,none⟩ 1 rfl (cells_new (RatC.cells ⟨n2,a2,l2,c2,a2',l2',c2'⟩) _ rfl) (by rw [HLl.out]; omega) HSz2.out ?_; intro v5 w5 hown5 hx5 hrd5; have HN:Hid (ROwn w5 bs v5 (listTo (i+1) qf) L):=bH (by rw [listTo_succ]; exact hown5); have HX5:Hid (XF w w5):=bH (ext_own HO2.out.2.2 hx5 (fun g e=>by have:=HG.out g e; have:=HBs.out; omega)); clear hown5 hx5 hrd5)
   go_roundg (n - (i+1))
   case measure=>omega
   case rel=>exact ⟨i+1,_,by omega,rfl,by go_num,rfl,HN.out,HX5.out⟩
  ·obtain rfl:i=n:=by omega
   have HO:=bH (bI ho hx)
   clear ho hx
   go_wp2
   go_ret
   exact ⟨_,rfl,by have:=HO.out.1.rats; exact this,HO.out.2⟩
theorem blk_alloc_at' (w:World) (o:Obj) (k:Nat) (h:k=w.heap.size):blk (w.alloc o) k=some o:=by subst h; exact blk_alloc_at w o
def PrgPost (w:World) (p:ProgV) (r:Ending) (w':World):Prop:=∃ v,r=.returned v/\IsPrg w' v p/\XF w w'
section
variable {β:Type} {f:β->List Value} {T:TypeId}
def SOwn (f:β->List Value) (T:TypeId) (w:World) (base:Nat) (v:Value) (l:List β):Prop:=w.ownsRow base T 5 v l.length (l.flatMap f)
theorem SOwn.keep {w w':World} {base:Nat} {v:Value} {l:List β} (h:SOwn f T w base v l) (hx:XF w w'):SOwn f T w' base v l:=ownsRow_ext h hx (fun _ _ h=>h)
theorem SOwn.lt {w:World} {base:Nat} {v:Value} {l:List β} (h:SOwn f T w base v l):∀ g,v.ownBlock=some g->base<=g/\g<w.heap.size:=World.ownsRow.lt h
theorem SOwn.shape {w:World} {base:Nat} {v:Value} {l:List β} (h:SOwn f T w base v l):∃ ao cap,v=.slice ao l.length cap:=ownsRow_shape h
theorem SOwn.empty {w:World} {g base:Nat} (h:blk w g=some (.cells #[] T (0,0))) (hb:base<=g):SOwn f T w base (.slice (some ⟨g,0,none⟩) 0 0) []:=ownsRow_empty 5 hb h
def SArr (f:β->List Value) (T:TypeId) (w:World) (g:Nat) (l:List β):Prop:=∃ cur,blk w g=some (.cells cur T (0,0))/\∀ k x,l[k]?=some x->∀ j,j<5->cur[k*5+j]?=(f x)[j]?
theorem SArr.cell {w:World} {g:Nat} {l:List β} (hf:∀ x,(f x).length=5) (h:SArr f T w g l) {k:Nat} {x:β} (hk:l[k]?=some x) {j:Nat} {u:Value} (hu:(f x)[j]?=some u):w.cell? ⟨g,k*5+j,none⟩=some u/\w.frozen? ⟨g,k*5+j,none⟩=false:=by
 obtain ⟨cur,h1,h2⟩:=h
 have hj:j<5:=by rw [<- hf x]; exact (List.getElem?_eq_some_iff.1 hu).1
 exact ⟨by rw [cell_of_cells h1,h2 k x hk j hj]; exact hu,free_of_cells h1 _⟩
theorem SArr.sl {w:World} {g:Nat} {l:List β} {c:Nat} (hf:∀ x,(f x).length=5) (h:SArr f T w g l) (hc:l.length<=c) (hm:c<=maxLen):Sl w (.slice (some ⟨g,0,none⟩) l.length c) 5 (l.map f):=by
 refine ⟨some ⟨g,0,none⟩,c,by rw [List.length_map],by rw [List.length_map]; exact hc,hm,(fun e=>by cases e),fun _=>⟨g,0,rfl,?_,fun i r hi j u hu=>?_⟩⟩
 ·obtain ⟨cur,h1,_⟩:=h; exact blk_lt h1
 ·rw [List.getElem?_map] at hi
  obtain ⟨x,hx,rfl⟩:=Option.map_eq_some_iff.1 hi
  rw [Nat.zero_add]
  exact (h.cell hf hx hu).1
theorem SOwn.arr {w:World} {base:Nat} {ao:Option Addr} {n c:Nat} {l:List β} (hf:∀ x,(f x).length=5) (h:SOwn f T w base (.slice ao n c) l):(n=0/\l=[]/\(ao=none->c=0)/\c<=maxLen)∨∃ g,ao=some ⟨g,0,none⟩/\base<=g/\n=l.length/\n<=c/\c<=maxLen/\SArr f T w g l:=by
 rcases h.2 with ⟨e,h0⟩ | ⟨g,cap,cur,e,hb,hg,hnc,hcm,hcs,htake⟩
 ·cases e
  exact .inl ⟨rfl,List.eq_nil_of_length_eq_zero h0,fun _=>rfl,Nat.zero_le _⟩
 ·cases e
  refine .inr ⟨g,rfl,hb,rfl,hnc,hcm,cur,hg,fun k x hk j hj=>?_⟩
  have hkl:k<l.length:=(List.getElem?_eq_some_iff.1 hk).1
  have hget:=fm_get (f:=f) (m:=5) hf l k hk j hj
  rw [<- htake,List.getElem?_take,if_pos (by omega),Array.getElem?_toList] at hget
  exact hget
theorem SOwn.sl {w:World} {base:Nat} {v:Value} {l:List β} (hf:∀ x,(f x).length=5) (h:SOwn f T w base v l):Sl w v 5 (l.map f):=by
 obtain ⟨ao,cap,rfl⟩:=h.shape
 rcases h.arr hf with ⟨h0,rfl,hc,hm⟩ | ⟨g,rfl,_,_,h1,h2,h3⟩
 ·exact ⟨ao,cap,rfl,Nat.zero_le _,hm,hc,fun h=>absurd h (Nat.lt_irrefl 0)⟩
 ·exact h3.sl hf h1 h2
end
abbrev RT:=RowV × Value
def cRT (y:RT):List Value:=cR y.1 y.2
theorem cV_len (x:VarV):(cV x).length=5:=rfl
theorem cRT_len (x:RT):(cRT x).length=5:=rfl
section
variable {B:Nat} {y:RT} {oa:Option (List VarV)} {ob:Option (List RT)} {c d:Bool} {w5 w w':World} {vA vB vC vD:Value}
end
theorem IsPrg.slicesP {w:World} {pv:Value} {p:ProgV} (h:IsPrg w pv p):∃ vo vn vc ro rn rc,pv=.agg #[.slice vo vn vc,.slice ro rn rc]:=by
 obtain ⟨vv,rv,rfl,hv,hr⟩:=h
 obtain ⟨vo,vc,rfl,-⟩:=hv.shape
 obtain ⟨ro,rc,rfl,-⟩:=hr.shape
 exact ⟨vo,_,vc,ro,_,rc,rfl⟩
def cI (n:Int):List Value:=[.int .i64 n]
def Inz (w:World) (v:Value) (l:List Int):Prop:=Sl w v 1 (l.map cI)
theorem Inz.shape {w:World} {v:Value} {l:List Int} (h:Inz w v l):∃ ao c,v=.slice ao l.length c/\l.length<=maxLen:=by
 obtain ⟨ao,c,rfl,h1,h2,_⟩:=h
 rw [List.length_map] at h1 ⊢
 exact ⟨ao,c,rfl,Nat.le_trans h1 h2⟩
theorem Inz.keep {w w':World} {v:Value} {l:List Int} (h:Inz w v l) (hx:XF w w'):Inz w' v l:=Sl.keep h hx
theorem Inz.at_ {w:World} {ao:Option Addr} {n c:Nat} {l:List Int} (h:Inz w (.slice ao n c) l) {i:Nat} (hi:i<l.length):∃ b off,ao=some ⟨b,off,none⟩/\w.cell? ⟨b,off+i,none⟩=some (.int .i64 (l.getD i 0)):=by
 obtain ⟨b,off,h1,h2,h3⟩:=Sl.at h (i:=i) (r:=cI l[i]) (by rw [List.getElem?_map,List.getElem?_eq_getElem hi]; rfl)
 refine ⟨b,off,h1,?_⟩
 have:=h3 0 _ rfl
 rw [Nat.mul_one,Nat.add_zero] at this
 rw [getD_lt hi]
 exact this
def IRow (w:World) (base:Nat) (v:Value) (l:List Int):Prop:=w.ownsRow base 3 1 v l.length (l.map fun n=>Value.int .i64 n)
theorem IRow.inz {w:World} {base:Nat} {v:Value} {l:List Int} (h:IRow w base v l):Inz w v l:=by
 rcases h.2 with ⟨rfl,h0⟩ | ⟨g,cap,cur,rfl,hb,hg,hnc,hcm,hcs,htake⟩
 ·exact ⟨none,0,by rw [List.length_map,h0],by rw [List.length_map,h0]; exact Nat.le_refl _,by unfold maxLen; decide,fun _=>rfl,fun h=>by rw [List.length_map,h0] at h; exact absurd h (Nat.lt_irrefl 0)⟩
 ·refine ⟨some ⟨g,0,none⟩,cap,by rw [List.length_map],by rw [List.length_map]; exact hnc,hcm,(fun e=>by cases e),fun _=>⟨g,0,rfl,blk_lt hg,fun i r hi j u hu=>?_⟩⟩
  rw [List.getElem?_map] at hi
  obtain ⟨x,hx,rfl⟩:=Option.map_eq_some_iff.1 hi
  have hi':i<l.length:=(List.getElem?_eq_some_iff.1 hx).1
  match j,hu with
  | 0,hu =>
   cases hu
   rw [Nat.zero_add,Nat.mul_one,Nat.add_zero,cell_of_cells hg,<- Array.getElem?_toList]
   have h2:(cur.toList.take (l.length*1))[i]?=some (.int .i64 x):=by
    rw [htake,List.getElem?_map,hx]; rfl
   rw [List.getElem?_take_of_lt (by omega)] at h2
   exact h2
  | j+1,hu=>simp [cI] at hu
theorem ints_eq {a b:List Int} {n:Nat} (ha:a.length=n) (hb:b.length=n) (h:∀ i,i<n->a.getD i 0=b.getD i 0):a=b:=by
 refine List.ext_getElem (by omega) fun i h1 h2=>?_
 have:=h i (by omega)
 rwa [getD_lt h1,getD_lt h2] at this
theorem Has_any (w:World) (v:Value) (l:List Int) (x:Int) (h:Inz w v l):Calls Tryz.prog 12 #[v,.int .i64 x] w (BoolPost w (decide (x ∈ l))):=by
 obtain ⟨ao,c,rfl,hm⟩:=h.shape
 have hmax:maxLen<=9223372036854775807:=by unfold maxLen; decide
 have HA:=bH h
 clear h
 obtain ⟨n,hn⟩:∃ n,l.length=n:=⟨_,rfl⟩
 have HN:=bH hn
 rw [hn] at HA hm ⊢
 clear hn
 have n1:(n:Int)<=9223372036854775807:=by omega
 go_enter Tryz.func12,Tryz.ntmps12
 go_wp2_with fail
 go_loopg [5] n (fun gg v5 wr=>∃ k:Nat,k<=n/\gg=n - k/\v5=.int .i64 k/\(∀ i,i<k->¬ l.getD i 0=x)/\XF w wr)
 case atStart=>exact ⟨0,Nat.zero_le _,rfl,rfl,fun i hi=>absurd hi (Nat.not_lt_zero i),Ext.refl _ _⟩
 case round =>
  obtain ⟨k,hk,rfl,rfl,hall,hx⟩:=hrel
  have HAl:=bH (bI hall hx)
  clear hall hx
  by_cases hkn:k<n
  ·have k0:(k:Int)<(n:Int):=by omega
   have k1:(0:Int)<=(k:Int):=by omega
   have hkl:k<l.length:=by rw [HN.out]; exact hkn
   obtain ⟨b1,o1,rfl,e0⟩:=(HA.out.keep HAl.out.2).at_ (i:=k) hkl
   have HM:=bH (show l.getD k 0 ∈ l from by rw [getD_lt hkl]; exact List.getElem_mem _)
   obtain ⟨y,hy⟩:∃ y,l.getD k 0=y:=⟨_,rfl⟩
   rw [hy] at e0 HM
   have HY:=bH hy
   clear hy hkl
   by_cases he:y=x
   ·subst he
    go_wp2
    go_ret
    exact ⟨ret_bool (by rw [decide_eq_true HM.out]),HAl.out.2⟩
   ·have h2:(y == x)=false:=by simpa using he
    have h3:decide (y=x)=false:=by simpa using he
    go_wp2
    go_roundg (n - (k+1))
    case measure=>omega
    case rel=>exact ⟨k+1,by omega,rfl,by go_num,fun i hi=>by
     by_cases e:i=k
     ·subst e; rw [HY.out]; exact he
     ·exact HAl.out.1 i (by omega),HAl.out.2⟩
  ·obtain rfl:n=k:=by omega
   go_wp2
   go_ret
   exact ⟨ret_bool (by rw [decide_eq_false (fun e=>by
    obtain ⟨i,hi,e2⟩:=List.getElem_of_mem e
    exact HAl.out.1 i (by rw [<- HN.out]; exact hi) (by rw [getD_lt hi]; exact e2))]),HAl.out.2⟩
theorem Ints4_any (w:World) (av bv:Value) (a b:List Int) (ha:Inz w av a) (hb:Inz w bv b):Calls Tryz.prog 7 #[av,bv] w (BoolPost w (decide (a=b))):=by
 obtain ⟨ao,ac,rfl,ham⟩:=ha.shape
 obtain ⟨bo,bc,rfl,hbm⟩:=hb.shape
 have hmax:maxLen<=9223372036854775807:=by unfold maxLen; decide
 have HA:=bH (bI ha hb)
 clear ha hb
 obtain ⟨n,hn⟩:∃ n,a.length=n:=⟨_,rfl⟩
 obtain ⟨m,hm⟩:∃ m,b.length=m:=⟨_,rfl⟩
 have HN:=bH (bI hn hm)
 rw [hn] at HA ham ⊢
 rw [hm] at HA hbm ⊢
 clear hn hm
 by_cases hnm:n=m
 ·subst hnm
  have n1:(n:Int)<=9223372036854775807:=by omega
  go_enter Tryz.func7,Tryz.ntmps7
  go_upto_region 3 with fail
  go_wp2_with fail
  go_loopg [5] n (fun gg v5 wr=>∃ k:Nat,k<=n/\gg=n - k/\v5=.int .i64 k/\(∀ i,i<k->a.getD i 0=b.getD i 0)/\XF w wr)
  case atStart=>exact ⟨0,Nat.zero_le _,rfl,rfl,fun i hi=>absurd hi (Nat.not_lt_zero i),Ext.refl _ _⟩
  case round =>
   obtain ⟨k,hk,rfl,rfl,hall,hx⟩:=hrel
   have HAl:=bH (bI hall hx)
   clear hall hx
   by_cases hkn:k<n
   ·have k0:(k:Int)<(n:Int):=by omega
    have k1:(0:Int)<=(k:Int):=by omega
    obtain ⟨b1,o1,rfl,e0⟩:=(HA.out.1.keep HAl.out.2).at_ (i:=k) (by rw [HN.out.1]; exact hkn)
    obtain ⟨b2,o2,rfl,e1⟩:=(HA.out.2.keep HAl.out.2).at_ (i:=k) (by rw [HN.out.2]; exact hkn)
    by_cases he:a.getD k 0=b.getD k 0
    ·have HE:=bH he
     rw [he] at e0
     clear he
     generalize b.getD k 0=s at e0 e1
     go_upto_region 6 with fail
     go_quiet (fail)
     go_wp2
     go_roundg (n - (k+1))
     case measure=>omega
     case rel=>exact ⟨k+1,by omega,rfl,by go_num,fun i hi=>by
      by_cases e:i=k
      ·subst e; exact HE.out
      ·exact HAl.out.1 i (by omega),HAl.out.2.trans (Ext.drewN (Ext.refl _ wr) _)⟩
    ·have HE:=bH he
     obtain ⟨s,hs⟩:∃ s,a.getD k 0=s:=⟨_,rfl⟩
     obtain ⟨t,ht⟩:∃ t,b.getD k 0=t:=⟨_,rfl⟩
     rw [hs] at e0 he
     rw [ht] at e1 he
     clear hs ht
     have h2:(s == t)=false:=by simpa using he
     have h3:decide (s=t)=false:=by simpa using he
     go_upto_region 6 with fail
     go_quiet (fail)
     go_wp2
     go_ret
     exact ⟨ret_bool (by rw [decide_eq_false (fun e=>HE.out (by rw [e]))]),HAl.out.2.trans (Ext.drewN (Ext.refl _ wr) _)⟩
   ·obtain rfl:n=k:=by omega
    go_wp2
    go_ret
    exact ⟨ret_bool (by rw [decide_eq_true (ints_eq HN.out.1 HN.out.2 HAl.out.1)]),HAl.out.2⟩
 ·have h1:¬ ((n:Int)=(m:Int)):=by omega
  have h2:((n:Int) == (m:Int))=false:=by simpa using h1
  have h3:decide ((n:Int)=(m:Int))=false:=by simpa using h1
  have HE:=bH hnm
  clear hnm
  go_enter Tryz.func7,Tryz.ntmps7
  go_wp2
  go_ret
  exact ⟨ret_bool (by rw [decide_eq_false (fun e=>HE.out (by rw [<- HN.out.1,<- HN.out.2,e]))]),Ext.refl _ _⟩
theorem SameRow_any (w:World) (r:RowV) (ta tb:Option Addr) (tc td:Nat) (h1:Tms w (.slice ta r.terms.length tc) r.terms) (h2:Tms w (.slice tb r.terms.length td) r.terms) :
  Calls Tryz.prog 28 #[.agg #[.string r.name,.int .i64 r.group,.int .i64 r.kind,.slice ta r.terms.length tc,.int .i64 r.bound],.agg #[.string r.name,.int .i64 r.group,.int .i64 r.kind,.slice tb r.terms.length td,.int .i64 r.bound]] w (BoolPost w true):=by
 obtain ⟨-,-,-,-,htn,-⟩:=h1.shape
 have hmax:maxLen<=9223372036854775807:=by unfold maxLen; decide
 have HT:=bH (bI h1 h2)
 clear h1 h2
 obtain ⟨n,hn⟩:∃ n,r.terms.length=n:=⟨_,rfl⟩
 have HN:=bH hn
 rw [hn] at HT htn ⊢
 clear hn
 obtain ⟨nm,hnm⟩:∃ x,r.name=x:=⟨_,rfl⟩
 obtain ⟨gr,hgr⟩:∃ x,r.group=x:=⟨_,rfl⟩
 obtain ⟨kd,hkd⟩:∃ x,r.kind=x:=⟨_,rfl⟩
 obtain ⟨bd,hbd⟩:∃ x,r.bound=x:=⟨_,rfl⟩
 rw [hnm,hgr,hkd,hbd]
 clear hnm hgr hkd hbd
 have hxa:=(Ext.refl (fun _=>False) w).alloc (.cells #[.string nm,.int .i64 gr,.int .i64 kd,.slice ta n tc,.int .i64 bd] 53)
 have hxb:=(Ext.refl (fun _=>False) (w.alloc (.cells #[.string nm,.int .i64 gr,.int .i64 kd,.slice ta n tc,.int .i64 bd] 53))).alloc (.cells #[.string nm,.int .i64 gr,.int .i64 kd,.slice tb n td,.int .i64 bd] 53)
 have hb2:blk ((w.alloc (.cells #[.string nm,.int .i64 gr,.int .i64 kd,.slice ta n tc,.int .i64 bd] 53)).alloc (.cells #[.string nm,.int .i64 gr,.int .i64 kd,.slice tb n td,.int .i64 bd] 53)) (w.heap.size+1)=some (.cells #[.string nm,.int .i64 gr,.int .i64 kd,.slice tb n td,.int .i64 bd] 53 (0,0)):=by
  have h:=blk_alloc_at (w.alloc (.cells #[.string nm,.int .i64 gr,.int .i64 kd,.slice ta n tc,.int .i64 bd] 53)) (.cells #[.string nm,.int .i64 gr,.int .i64 kd,.slice tb n td,.int .i64 bd] 53)
  rwa [World.size_alloc] at h
 have HB:=bH (bI (blk_keep (blk_alloc_at w (.cells #[.string nm,.int .i64 gr,.int .i64 kd,.slice ta n tc,.int .i64 bd] 53)) hxb) (bI hb2 (hxa.trans hxb)))
 clear hxa hxb hb2
 go_enter Tryz.func28,Tryz.ntmps28
 go_upto_region 1 with fail
 generalize (w.alloc (.cells #[.string nm,.int .i64 gr,.int .i64 kd,.slice ta n tc,.int .i64 bd] 53)).alloc (.cells #[.string nm,.int .i64 gr,.int .i64 kd,.slice tb n td,.int .i64 bd] 53)=w1 at *
 obtain ⟨rb,hrb⟩:∃ q,w.heap.size=q:=⟨_,rfl⟩
 rw [hrb] at HB ⊢
 clear hrb
 have e0:=cellq HB.out.1 0 rfl
 have e1:=cellq HB.out.1 1 rfl
 have e2:=cellq HB.out.1 2 rfl
 have e3:=cellq HB.out.1 3 rfl
 have e4:=cellq HB.out.1 4 rfl
 have f0:=cellq HB.out.2.1 0 rfl
 have f1:=cellq HB.out.2.1 1 rfl
 have f2:=cellq HB.out.2.1 2 rfl
 have f3:=cellq HB.out.2.1 3 rfl
 have f4:=cellq HB.out.2.1 4 rfl
 have hq:(nm.toList == nm.toList)=true:=by simp
 go_upto_region 3 with fail
 clear e0 e1 e2 e4 f0 f1 f2 f4 hq
 go_wp2_with fail
 go_loopg [5] n (fun gg v5 wr=>∃ k:Nat,k<=n/\gg=n - k/\v5=.int .i64 k/\XF w1 wr)
 case atStart=>exact ⟨0,Nat.zero_le _,rfl,rfl,Ext.refl _ _⟩
 case round =>
  clear e3 f3
  obtain ⟨k,hk,rfl,rfl,hx⟩:=hrel
  have HX:=bH hx
  clear hx
  have e3:=cellq (blk_keep HB.out.1 HX.out) 3 rfl
  have f3:=cellq (blk_keep HB.out.2.1 HX.out) 3 rfl
  by_cases hkn:k<n
  ·have k0:(k:Int)<(n:Int):=by omega
   have k1:(0:Int)<=(k:Int):=by omega
   have hkl:k<r.terms.length:=by rw [HN.out]; exact hkn
   obtain ⟨b1,o1,rfl,-,g0,g1,-⟩:=(HT.out.1.keep (HB.out.2.2.trans HX.out)).at k hkl
   obtain ⟨b2,o2,rfl,-,j0,j1,-⟩:=(HT.out.2.keep (HB.out.2.2.trans HX.out)).at k hkl
   generalize r.terms.getD k term0=t at *
   obtain ⟨tv,tc⟩:=t
   dsimp only at g0 g1 j0 j1
   clear hkl
   go_upto_region 6 with fail
   go_quiet (fail)
   go_wp2
   go_roundg (n - (k+1))
   case measure=>omega
   case rel=>exact ⟨k+1,by omega,rfl,by go_num,HX.out.trans (Ext.drewN (Ext.refl _ wr) _)⟩
  ·obtain rfl:n=k:=by omega
   go_wp2
   go_ret
   exact ⟨rfl,HB.out.2.2.trans HX.out⟩
theorem prg_parts {w:World} {vo ro:Option Addr} {vn vc rn rc:Nat} {p:ProgV} (h:IsPrg w (.agg #[.slice vo vn vc,.slice ro rn rc]) p):Vrs w (.slice vo vn vc) p.vars/\Rws w (.slice ro rn rc) p.rows/\p.vars.length=vn/\p.rows.length=rn:=by
 obtain ⟨vv,rv,e,h1,h2⟩:=h
 cases e
 refine ⟨h1,h2,?_,?_⟩
 ·obtain ⟨_,_,e,_⟩:=h1.shape
  cases e; rfl
 ·obtain ⟨_,_,e,_⟩:=h2.shape
  cases e; rfl
theorem Same4_any (w:World) (pv qv:Value) (p:ProgV) (hp:IsPrg w pv p) (hq:IsPrg w qv p):Calls Tryz.prog 10 #[pv,qv] w (BoolPost w true):=by
 obtain ⟨vo,vn,vc,ro,rn,rc,rfl⟩:=hp.slicesP
 obtain ⟨xo,xn,xc,yo,yn,yc,rfl⟩:=hq.slicesP
 have HL:=bH (bI (prg_parts hp).2.2.1 (prg_parts hp).2.2.2)
 obtain rfl:vn=xn:=by rw [<- (prg_parts hp).2.2.1]; exact (prg_parts hq).2.2.1
 obtain rfl:rn=yn:=by rw [<- (prg_parts hp).2.2.2]; exact (prg_parts hq).2.2.2
 have hmax:maxLen<=9223372036854775807:=by unfold maxLen; decide
 have hvn:vn<=9223372036854775807:=by
  obtain ⟨_,_,e,_,h,_⟩:=(prg_parts hp).1.shape
  rw [<- (prg_parts hp).2.2.1]; omega
 have hrn:rn<=9223372036854775807:=by
  obtain ⟨_,_,e,_,h,_⟩:=(prg_parts hp).2.1.shape
  rw [<- (prg_parts hp).2.2.2]; omega
 have HP:=bH (bI hp hq)
 clear hp hq
 have hxa:=(Ext.refl (fun _=>False) w).alloc (.cells #[.slice vo vn vc,.slice ro rn rc] 25)
 have hxb:=(Ext.refl (fun _=>False) (w.alloc (.cells #[.slice vo vn vc,.slice ro rn rc] 25))).alloc (.cells #[.slice xo vn xc,.slice yo rn yc] 25)
 have hb2:blk ((w.alloc (.cells #[.slice vo vn vc,.slice ro rn rc] 25)).alloc (.cells #[.slice xo vn xc,.slice yo rn yc] 25)) (w.heap.size+1)=some (.cells #[.slice xo vn xc,.slice yo rn yc] 25 (0,0)):=by
  have h:=blk_alloc_at (w.alloc (.cells #[.slice vo vn vc,.slice ro rn rc] 25)) (.cells #[.slice xo vn xc,.slice yo rn yc] 25)
  rwa [World.size_alloc] at h
 have HB:=bH (bI (blk_keep (blk_alloc_at w (.cells #[.slice vo vn vc,.slice ro rn rc] 25)) hxb) (bI hb2 (hxa.trans hxb)))
 clear hxa hxb hb2
 go_enter Tryz.func10,Tryz.ntmps10
 go_upto_region 1 with fail
 generalize (w.alloc (.cells #[.slice vo vn vc,.slice ro rn rc] 25)).alloc (.cells #[.slice xo vn xc,.slice yo rn yc] 25)=w1 at *
 obtain ⟨rb,hrb⟩:∃ q,w.heap.size=q:=⟨_,rfl⟩
 rw [hrb] at HB ⊢
 clear hrb
 have e0:=cellq HB.out.1 0 rfl
 have e1:=cellq HB.out.1 1 rfl
 have f0:=cellq HB.out.2.1 0 rfl
 have f1:=cellq HB.out.2.1 1 rfl
 go_upto_region 3 with fail
 go_wp2_with fail
 go_loopg [5] vn (fun gg v5 wr=>∃ k:Nat,k<=vn/\gg=vn - k/\v5=.int .i64 k/\XF w1 wr)
 case atStart=>exact ⟨0,Nat.zero_le _,rfl,rfl,Ext.refl _ _⟩
 case round =>
  clear e0 e1 f0 f1
  obtain ⟨k,hk,rfl,rfl,hx⟩:=hrel
  have HX:=bH hx
  clear hx
  have e0:=cellq (blk_keep HB.out.1 HX.out) 0 rfl
  have e1:=cellq (blk_keep HB.out.1 HX.out) 1 rfl
  have f0:=cellq (blk_keep HB.out.2.1 HX.out) 0 rfl
  have f1:=cellq (blk_keep HB.out.2.1 HX.out) 1 rfl
  by_cases hkn:k<vn
  ·have k0:(k:Int)<(vn:Int):=by omega
   have k1:(0:Int)<=(k:Int):=by omega
   have hkl:k<p.vars.length:=by rw [HL.out.1]; exact hkn
   obtain ⟨b1,o1,rfl,-,g0,g1,g2,g3,g4,-⟩:=(prg_parts (HP.out.1.keep (HB.out.2.2.trans HX.out))).1.atp k hkl
   obtain ⟨b2,o2,rfl,-,j0,j1,j2,j3,j4,-⟩:=(prg_parts (HP.out.2.keep (HB.out.2.2.trans HX.out))).1.atp k hkl
   generalize p.v k=t at g0 g1 g2 g3 g4 j0 j1 j2 j3 j4
   obtain ⟨lo,up,op,ig,co⟩:=t
   dsimp only at g0 g1 g2 g3 g4 j0 j1 j2 j3 j4
   clear hkl e1 f1
   go_upto_region 6 with fail
   go_quiet (fail)
   go_wp2
   go_roundg (vn - (k+1))
   case measure=>omega
   case rel=>exact ⟨k+1,by omega,rfl,by go_num,HX.out.trans (Ext.drewN (Ext.refl _ wr) _)⟩
  ·obtain rfl:vn=k:=by omega
   obtain ⟨wo,rfl⟩:∃ x,x=wr:=⟨_,rfl⟩
   go_upto_region 8 with fail
   go_wp2_with fail
   go_loopg [6] rn (fun gg v6 wr=>∃ k:Nat,k<=rn/\gg=rn - k/\v6=.int .i64 k/\XF w1 wr)
   case atStart=>exact ⟨0,Nat.zero_le _,rfl,rfl,HX.out⟩
   case round =>
    clear e0 e1 f0 f1 HX
    obtain ⟨k,hk,rfl,rfl,hx⟩:=hrel
    have HX:=bH hx
    clear hx
    have e1:=cellq (blk_keep HB.out.1 HX.out) 1 rfl
    have f1:=cellq (blk_keep HB.out.2.1 HX.out) 1 rfl
    by_cases hkn:k<rn
    ·have k0:(k:Int)<(rn:Int):=by omega
     have k1:(0:Int)<=(k:Int):=by omega
     have hkl:k<p.rows.length:=by rw [HL.out.2]; exact hkn
     obtain ⟨b1,o1,ta,tc,rfl,-,g0,g1,g2,g3,g4,-,hT1⟩:=(prg_parts (HP.out.1.keep (HB.out.2.2.trans HX.out))).2.1.atp k hkl
     obtain ⟨b2,o2,tb,td,rfl,-,j0,j1,j2,j3,j4,-,hT2⟩:=(prg_parts (HP.out.2.keep (HB.out.2.2.trans HX.out))).2.1.atp k hkl
     generalize p.r k=r at g0 g1 g2 g3 g4 hT1 j0 j1 j2 j3 j4 hT2
     have e1:=cq e1
     have f1:=cq f1
     have g0:=cq g0
     have g1:=cq g1
     have g2:=cq g2
     have g3:=cq g3
     have g4:=cq g4
     have j0:=cq j0
     have j1:=cq j1
     have j2:=cq j2
     have j3:=cq j3
     have j4:=cq j4
     have HSr:=bH (fun W (hW:XF wr W)=>SameRow_any W r ta tb tc td (hT1.keep hW) (hT2.keep hW))
     clear hT1 hT2 hkl
     go_upto_region 11 with fail
     refine wp_region_held_drew (S:=(XF wr)) (by kernel_rfl) ((Ext.refl _ wr).drew) (fun hHeld=>?_)
     refine ht 0 (h:=(ht 1 (h:=(ht 2 (h:=(ht 3 (h:=(ht 4 (h:=(ht 5 (h:=(ht 6 (h:=(ht 7 (h:=(ht 8 (h:=(ht 9 (h:=?_)))))))))))))))))))
     (try go_frame)
     refine hst 10 (h:=fun K hK=>?_)
     (go_simp; go_at_call 28; (with_reducible refine (HSr.out _ hHeld).mono ?_); rintro q5 w5 ⟨rfl,hx5⟩; have hX5:=hHeld.trans hx5)
     refine hK.out _ _ (hX5) (fun hHeld=>?_)
     clear hK K
     (try go_frame)
     refine ht 11 (h:=?_)
     (try go_frame)
     refine wpAnyH_done (by kernel_rfl) ?_ _
     go_wp2
     go_roundg (rn - (k+1))
     case measure=>omega
     case rel=>exact ⟨k+1,by omega,rfl,by go_num,HX.out.trans hX5⟩
    ·obtain rfl:rn=k:=by omega
     go_wp2
     go_ret
     exact ⟨rfl,HB.out.2.2.trans HX.out⟩
theorem Tryz.infoVar:(Tryz.prog.info? 60).map (fun i=>(i.zero,i.size,i.bytes))=some (some (.agg #[.int .i64 0,.int .i64 0,.bool false,.bool false,.int .i64 0]),5,32):=by kernel_rfl
theorem Tryz.infoRow:(Tryz.prog.info? 53).map (fun i=>(i.zero,i.size,i.bytes))=some (some (.agg #[.string ⟨#[]⟩,.int .i64 0,.int .i64 0,.slice none 0 0,.int .i64 0]),5,64):=by kernel_rfl
section
variable {β:Type} {f:β->List Value} {T ts:TypeId}
end
theorem cV_one (x:VarV):∀ u ∈ cV x,u.oneCell'=true:=fun u hu=>by
 simp [cV] at hu
 rcases hu with rfl | rfl | rfl | rfl | rfl <;> rfl
theorem cRT_one {y:RT} {ao:Option Addr} {n c:Nat} (h:y.2=.slice ao n c):∀ u ∈ cRT y,u.oneCell'=true:=fun u hu=>by
 simp [cRT,cR] at hu
 rcases hu with rfl | rfl | rfl | rfl | rfl <;> first | rfl | (rw [h]; rfl)
theorem Rws.ofPairs {w:World} {v:Value} {prs:List RT} (h:Sl w v 5 (prs.map cRT)) (hT:∀ y ∈ prs,Tms w y.2 y.1.terms/\RowOk y.1):Rws w v (prs.map (·.1)):=by
 refine ⟨prs.map (·.2),by simp,?_,fun i r tv hr ht=>?_⟩
 ·have:List.zipWith cR (prs.map (·.1)) (prs.map (·.2))=prs.map cRT:=by
   rw [List.zipWith_map,List.zipWith_self]; rfl
  rw [this]; exact h
 ·rw [List.getElem?_map] at hr ht
  obtain ⟨y,hy,rfl⟩:=Option.map_eq_some_iff.1 hr
  rw [hy] at ht
  cases ht
  exact hT y (List.mem_of_getElem? hy)
theorem typ_ne {w:World} {k k':Nat} {T T':TypeId} {a a':Array Value} (h:blk w k=some (.cells a T (0,0))) (h':blk w k'=some (.cells a' T' (0,0))) (hn:T≠T'):k≠k':=fun e=>by
 subst e
 rw [h] at h'
 cases h'
 exact hn rfl
def TyB (w:World) (k:Nat) (T:TypeId):Prop:=∃ arr,blk w k=some (.cells arr T (0,0))
theorem TyB.ne {w:World} {k k':Nat} {T T':TypeId} (h:TyB w k T) (h':TyB w k' T') (hn:T≠T'):k≠k':=by
 obtain ⟨a,h1⟩:=h
 obtain ⟨b,h2⟩:=h'
 exact typ_ne h1 h2 hn
theorem wpList_append_el {w:World} {ops:Array Oper} {rest:List Oper} {o:Oper} {a:Act} {Q:Exit->Act->World->Prop} {β:Type} {f:β->List Value} {T ts:TypeId} {z:Value} {size bytes:Nat} (hgd:o.guard=none) (s x:Operand)
  (ho:o.op=.call { callee:=.builtin .append,args:=#[s,x],argTypes:=#[ts,ts] }) (hf:∀ x,(f x).length=size) (x0:β) (h1:∀ u ∈ f x0,u.oneCell'=true) (ht:Tryz.prog.underlying ts=some (.slice T)) (hi:(Tryz.prog.info? T).map (fun i=>(i.zero,i.size,i.bytes))=some (some z,size,bytes)) (hz:z.cells.size=size) (hsz:0<size) (hbs:bytes<=1000)
  (base:Nat) (v:Value) (l:List β) (hs:a.eval s=v) (hown:w.ownsRow base T size v l.length (l.flatMap f)) (ad:Addr) (c:Nat) (hx:a.eval x=.slice (some ad) 1 c) (hsrc:∀ j u,(f x0)[j]?=some u->w.cell? (ad.add j)=some u) (hl:l.length<=100000) (hbase:base<=w.heap.size)
  (h:∀ v' w',w'.ownsRow base T size v' (l++[x0]).length ((l++[x0]).flatMap f)->Ext (fun k=>v.ownBlock=some k) w w'->(v'.ownBlock=v.ownBlock∨v'.ownBlock=some w.heap.size)->wpList Tryz.prog ops Q rest (a.put o.dst v') w') :
  wpList Tryz.prog ops Q (o :: rest) a w:=by
 obtain ⟨i0,hi0,hz0,hz1,hz2⟩:=info_parts hi
 refine wpList_append_any hgd s x ts ho base T i0 z size bytes ht hi0 hz0 hz1 hz2 hz hsz v l.length (l.flatMap f) hs hown (some ad) 1 c (fun e=>by cases e) (f x0) hx (by rw [hf,Nat.one_mul]) (.inr ⟨ad,rfl,hsrc⟩) h1 (by unfold maxLen; omega) (Nat.le_trans (Nat.mul_le_mul (show l.length+1<=100001 by omega) hbs) (by decide)) hbase (fun v' w' g1 g2 g3=>h v' w' ?_ ?_ g3)
 ·rw [List.length_append,List.flatMap_append]
  simpa using g1
 ·exact (Ext.refl (fun k=>v.ownBlock=some k) w).grown g2 (fun k hk _=>hk)
theorem step_append_el {w:World} {ops:Array Oper} {o:Oper} {a:Act} {K:Act->World->Prop} {Q:Exit->Act->World->Prop} {E:Prop} {β:Type} {f:β->List Value} {T ts:TypeId} {z:Value} {size bytes:Nat} (hgd:o.guard=none) (s x:Operand)
  (ho:o.op=.call { callee:=.builtin .append,args:=#[s,x],argTypes:=#[ts,ts] }) (hf:∀ x,(f x).length=size) (x0:β) (h1:∀ u ∈ f x0,u.oneCell'=true) (ht:Tryz.prog.underlying ts=some (.slice T)) (hi:(Tryz.prog.info? T).map (fun i=>(i.zero,i.size,i.bytes))=some (some z,size,bytes)) (hz:z.cells.size=size) (hsz:0<size) (hbs:bytes<=1000)
  (base:Nat) (v:Value) (l:List β) (hs:a.eval s=v) (hown:w.ownsRow base T size v l.length (l.flatMap f)) (ad:Addr) (c:Nat) (hx:a.eval x=.slice (some ad) 1 c) (hsrc:∀ j u,(f x0)[j]?=some u->w.cell? (ad.add j)=some u) (hl:l.length<=100000) (hbase:base<=w.heap.size)
  (h:∀ v' w',w'.ownsRow base T size v' (l++[x0]).length ((l++[x0]).flatMap f)->Ext (fun k=>v.ownBlock=some k) w w'->(v'.ownBlock=v.ownBlock∨v'.ownBlock=some w.heap.size)->K (a.put o.dst v') w') :
  if Region.wanted o (yielded ops a.tmps)=true then Oper.wp Tryz.prog o a w K Q else E:=by
 obtain ⟨i0,hi0,hz0,hz1,hz2⟩:=info_parts hi
 refine step_append_any hgd s x ts ho base T i0 z size bytes ht hi0 hz0 hz1 hz2 hz hsz v l.length (l.flatMap f) hs hown (some ad) 1 c (fun e=>by cases e) (f x0) hx (by rw [hf,Nat.one_mul]) (.inr ⟨ad,rfl,hsrc⟩) h1 (by unfold maxLen; omega) (Nat.le_trans (Nat.mul_le_mul (show l.length+1<=100001 by omega) hbs) (by decide)) hbase (fun v' w' g1 g2 g3=>h v' w' ?_ ?_ g3)
 ·rw [List.length_append,List.flatMap_append]
  simpa using g1
 ·exact (Ext.refl (fun k=>v.ownBlock=some k) w).grown g2 (fun k hk _=>hk)
theorem own_ty {w:World} {base:Nat} {T:TypeId} {s n:Nat} {v:Value} {xs:List Value} (h:w.ownsRow base T s v n xs):∀ g,v.ownBlock=some g->TyB w g T:=fun g hg=>by
 rcases h.2 with ⟨rfl,_⟩ | ⟨g2,cap,cur,rfl,_,h2,_⟩
 ·cases hg
 ·cases hg; exact ⟨_,h2⟩
theorem own_down {w:World} {b b' s n:Nat} {T:TypeId} {v:Value} {xs:List Value} (h:w.ownsRow b T s v n xs) (hb:b'<=b):w.ownsRow b' T s v n xs:=by
 refine ⟨h.1,?_⟩
 rcases h.2 with h | ⟨g,cap,cur,e,h1,h2⟩
 ·exact .inl h
 ·exact .inr ⟨g,cap,cur,e,Nat.le_trans hb h1,h2⟩
theorem own_sl {β:Type} {f:β->List Value} {m:Nat} {w:World} {base:Nat} {T:TypeId} {v:Value} {l:List β} (hf:∀ x,(f x).length=m) (h:w.ownsRow base T m v l.length (l.flatMap f)):Sl w v m (l.map f):=by
 rcases h.2 with ⟨rfl,h0⟩ | ⟨g,cap,cur,rfl,hb,hg,hnc,hcm,hcs,htake⟩
 ·exact ⟨none,0,by rw [List.length_map,h0],by rw [List.length_map,h0]; exact Nat.le_refl _,by unfold maxLen; decide,fun _=>rfl,fun h=>by rw [List.length_map,h0] at h; exact absurd h (Nat.lt_irrefl 0)⟩
 ·refine ⟨some ⟨g,0,none⟩,cap,by rw [List.length_map],by rw [List.length_map]; exact hnc,hcm,(fun e=>by cases e),fun _=>⟨g,0,rfl,blk_lt hg,fun i r hi j u hu=>?_⟩⟩
  rw [List.getElem?_map] at hi
  obtain ⟨x,hx,rfl⟩:=Option.map_eq_some_iff.1 hi
  have hj:j<m:=by rw [<- hf x]; exact (List.getElem?_eq_some_iff.1 hu).1
  have hget:=fm_get hf l i hx j hj
  rw [hu,<- htake,List.getElem?_take] at hget
  rw [Nat.zero_add,cell_of_cells hg,<- Array.getElem?_toList]
  split at hget
  ·exact hget
  ·cases hget
theorem sl_lies {β:Type} {f:β->List Value} {m:Nat} {w:World} {ao:Option Addr} {n c:Nat} {l:List β} (hm:0<m) (hf:∀ x,(f x).length=m) (h:Sl w (.slice ao n c) m (l.map f)):n=l.length/\(ao=none->c=0)/\Lies w ao l.length (l.flatMap f):=by
 obtain ⟨ao',c',e,h1,h2,h3,h4⟩:=h
 cases e
 rw [List.length_map] at h4 ⊢
 refine ⟨rfl,h3,?_⟩
 by_cases h0:l.length=0
 ·exact .inl h0
 ·obtain ⟨b,off,rfl,hb,hc⟩:=h4 (by omega)
  refine .inr ⟨_,rfl,fun j u hu=>?_⟩
  have hj:j<l.length*m:=by
   have:=(List.getElem?_eq_some_iff.1 hu).1
   rwa [fm_length hf] at this
  have hi:j / m<l.length:=(Nat.div_lt_iff_lt_mul hm).2 hj
  have hr:j % m<m:=Nat.mod_lt _ hm
  have hg:=fm_get (f:=f) (m:=m) hf l (j / m) (List.getElem?_eq_getElem hi) (j % m) hr
  rw [Nat.div_add_mod'] at hg
  have:=hc (j / m) _ (by rw [List.getElem?_map,List.getElem?_eq_getElem hi]; rfl) (j % m) u (hg.symm.trans hu)
  rw [Nat.add_assoc,Nat.div_add_mod'] at this
  simpa [Addr.add_lit] using this
theorem wpList_append_list {w:World} {ops:Array Oper} {rest:List Oper} {o:Oper} {a:Act} {Q:Exit->Act->World->Prop} {β:Type} {f:β->List Value} {T ts:TypeId} {z:Value} {size bytes:Nat} {l:List β} (hgd:o.guard=none) (s x:Operand)
  (ho:o.op=.call { callee:=.builtin .append,args:=#[s,x],argTypes:=#[ts,ts] }) (hf:∀ x,(f x).length=size) (l2:List β) (h1:∀ x ∈ l2,∀ u ∈ f x,u.oneCell'=true) (ht:Tryz.prog.underlying ts=some (.slice T)) (hi:(Tryz.prog.info? T).map (fun i=>(i.zero,i.size,i.bytes))=some (some z,size,bytes)) (hz:z.cells.size=size) (hsz:0<size) (hbs:bytes<=1000)
  (base:Nat) (v:Value) (hs:a.eval s=v) (hown:w.ownsRow base T size v l.length (l.flatMap f)) (ao:Option Addr) (n c:Nat) (hx:a.eval x=.slice ao n c) (hsl:Sl w (.slice ao n c) size (l2.map f)) (hl:l.length+l2.length<=1000) (hbase:base<=w.heap.size)
  (h:∀ v' w',w'.ownsRow base T size v' (l++l2).length ((l++l2).flatMap f)->Ext (fun k=>v.ownBlock=some k) w w'->(v'.ownBlock=v.ownBlock∨v'.ownBlock=some w.heap.size)->wpList Tryz.prog ops Q rest (a.put o.dst v') w') :
  wpList Tryz.prog ops Q (o :: rest) a w:=by
 obtain ⟨i0,hi0,hz0,hz1,hz2⟩:=info_parts hi
 obtain ⟨rfl,hc,hnews⟩:=sl_lies hsz hf hsl
 refine wpList_append_any hgd s x ts ho base T i0 z size bytes ht hi0 hz0 hz1 hz2 hz hsz v l.length (l.flatMap f) hs hown ao l2.length c hc (l2.flatMap f) hx (fm_length hf l2) hnews (fun u hu=>?_) (by unfold maxLen; omega) (Nat.le_trans (Nat.mul_le_mul hl hbs) (by decide)) hbase (fun v' w' g1 g2 g3=>h v' w' ?_ ?_ g3)
 ·obtain ⟨x,hm,hu⟩:=List.mem_flatMap.1 hu
  exact h1 x hm u hu
 ·rw [List.length_append,List.flatMap_append]
  exact g1
 ·exact (Ext.refl (fun k=>v.ownBlock=some k) w).grown g2 (fun k hk _=>hk)
theorem wpList_append_new {w:World} {ops:Array Oper} {rest:List Oper} {o:Oper} {a:Act} {Q:Exit->Act->World->Prop} {β:Type} {f:β->List Value} {T ts:TypeId} {z:Value} {size bytes:Nat} (hgd:o.guard=none) (s x:Operand)
  (ho:o.op=.call { callee:=.builtin .append,args:=#[s,x],argTypes:=#[ts,ts] }) (hf:∀ x,(f x).length=size) (l2:List β) (h1:∀ x ∈ l2,∀ u ∈ f x,u.oneCell'=true) (ht:Tryz.prog.underlying ts=some (.slice T)) (hi:(Tryz.prog.info? T).map (fun i=>(i.zero,i.size,i.bytes))=some (some z,size,bytes)) (hz:z.cells.size=size) (hsz:0<size) (hbs:bytes<=1000)
  (base:Nat) (v:Value) (hs:a.eval s=v) (hown:w.ownsRow base T size v 0 []) (ao:Option Addr) (n c:Nat) (hx:a.eval x=.slice ao n c) (hsl:Sl w (.slice ao n c) size (l2.map f)) (hl:l2.length<=1000) (hbase:base<=w.heap.size)
  (h:∀ v' w',w'.ownsRow base T size v' l2.length (l2.flatMap f)->Ext (fun k=>v.ownBlock=some k) w w'->(v'.ownBlock=v.ownBlock∨v'.ownBlock=some w.heap.size)->wpList Tryz.prog ops Q rest (a.put o.dst v') w') :
  wpList Tryz.prog ops Q (o :: rest) a w:=wpList_append_list (l:=[]) hgd s x ho hf l2 h1 ht hi hz hsz hbs base v hs hown ao n c hx hsl (by rw [List.length_nil,Nat.zero_add]; exact hl) hbase h
theorem prg_of {w:World} {va vb:Value} {vars:List VarV} {l:List RT} (h1:Sl w va 5 (vars.map cV)) (h2:∀ x ∈ vars,VarOk x) (h3:Sl w vb 5 (l.map cRT)) (h4:∀ y ∈ l,Tms w y.2 y.1.terms/\RowOk y.1):IsPrg w (.agg #[va,vb]) ⟨vars,l.map (·.1)⟩:=⟨_,_,rfl,⟨h1,h2⟩,Rws.ofPairs h3 h4⟩
def withoutP (p:ProgV) (l:List Int):ProgV:=⟨p.vars,p.rows.filter fun r=>decide (r.group=0) || !decide (r.group ∈ l)⟩
structure WrSt (w0 w:World) (ob:Nat) (va v:Value) (vars:List VarV) (prs:List RT):Prop where
 ext:XF w0 w
 box:blk w ob=some (.cells #[va,v] 25 (0,0))
 low:w0.heap.size<=ob
 vown:SOwn cV 60 w w0.heap.size va vars
 rown:SOwn cRT 53 w w0.heap.size v prs
 done:∀ y ∈ prs,Tms w0 y.2 y.1.terms/\RowOk y.1
section
variable {w0 w w':World} {ob:Nat} {va v v':Value} {vars:List VarV} {prs:List RT} {y:RT}
theorem WrSt.keep (h:WrSt w0 w ob va v vars prs) (hx:XF w w'):WrSt w0 w' ob va v vars prs :=
 ⟨h.ext.trans hx,blk_keep h.box hx,h.low,h.vown.keep hx,h.rown.keep hx,h.done⟩
theorem WrSt.tyv (h:WrSt w0 w ob va v vars prs):∀ g,va.ownBlock=some g->TyB w g 60:=own_ty h.vown
theorem WrSt.tyr (h:WrSt w0 w ob va v vars prs):∀ g,v.ownBlock=some g->TyB w g 53:=own_ty h.rown
theorem WrSt.tyo (h:WrSt w0 w ob va v vars prs):TyB w ob 25:=⟨_,h.box⟩
theorem WrSt.prg (h:WrSt w0 w ob va v vars prs) (hv:∀ x ∈ vars,VarOk x):IsPrg w (.agg #[va,v]) ⟨vars,prs.map (·.1)⟩ :=
 prg_of (h.vown.sl cV_len) hv (h.rown.sl cRT_len) (fun y hy=>⟨(h.done y hy).1.keep h.ext,(h.done y hy).2⟩)
theorem WrSt.rrow (h:WrSt w0 w ob va v vars prs):w.ownsRow w0.heap.size 53 5 v prs.length (prs.flatMap cRT):=h.rown
theorem WrSt.pushR (h:WrSt w0 w ob va v vars prs) (hn:w'.ownsRow w0.heap.size 53 5 v' (prs++[y]).length ((prs++[y]).flatMap cRT)) (hx:Ext (fun k=>v.ownBlock=some k) w w') (hy:Tms w0 y.2 y.1.terms/\RowOk y.1):WrSt w0 (w'.setCell ⟨ob,1,none⟩ v') ob va v' vars (prs++[y]):=by
 have hob:blk w' ob=some (.cells #[va,v] 25 (0,0)):=(hx.blk (blk_lt h.box) (fun e=>TyB.ne (h.tyr ob e) h.tyo (by decide) rfl)).trans h.box
 have hx2:=(Ext.refl (fun k=>k=ob) w').setCell (p:=⟨ob,1,none⟩) v' (fun _=>rfl)
 refine ⟨(h.ext.own hx (fun k e=>(h.rown.lt k e).1)).own hx2 (fun k e=>by have e':k=ob:=e; have:=h.low; omega),blk_setCell_same hob 1 v',h.low,?_,ownsRow_ext hn hx2 (fun g hg e=>TyB.ne (own_ty hn g hg) ⟨_,hob⟩ (by decide) e),fun z hz=>?_⟩
 ·refine ownsRow_ext (ownsRow_ext h.vown hx (fun g hg e=>TyB.ne (h.tyv g hg) (h.tyr g e) (by decide) rfl)) hx2 (fun g hg e=>TyB.ne (h.tyv g hg) h.tyo (by decide) e)
 ·rcases List.mem_append.1 hz with e | e
  ·exact h.done z e
  ·rw [List.mem_singleton.1 e]; exact hy
theorem WrSt.past {c:Nat} (h:WrSt w0 w ob va v vars prs) (hx:Ext (fun k=>k=c) w w') (hc:TyB w c 25) (hn:c≠ob) (hl:w0.heap.size<=c):WrSt w0 w' ob va v vars prs :=
 ⟨h.ext.own hx (fun k e=>by have e':k=c:=e; omega),(hx.blk (blk_lt h.box) (fun e=>hn e.symm)).trans h.box,h.low,ownsRow_ext h.vown hx (fun g hg e=>TyB.ne (h.tyv g hg) hc (by decide) e),ownsRow_ext h.rown hx (fun g hg e=>TyB.ne (h.tyr g hg) hc (by decide) e),h.done⟩
theorem WrSt.pushBox (h:WrSt w0 w ob va v vars prs) (hn:w'.ownsRow w0.heap.size 53 5 v' (prs++[y]).length ((prs++[y]).flatMap cRT)) (hx:Ext (fun k=>v.ownBlock=some k) w w'):blk w' ob=some (.cells #[va,v] 25 (0,0)):=(hx.blk (blk_lt h.box) (fun e=>TyB.ne (h.tyr ob e) h.tyo (by decide) rfl)).trans h.box
end
section
variable {P:Program} {md:Region.Mode} {ops:Array Oper} {Q:Exit->Act->World->Prop} {S:World->Prop} {k:Nat->Bool}
def Wts (md:Region.Mode) (ops:Array Oper) (j i:Nat):Prop:=∃ ok,ops[j]?=some ok/\∃ e ∈ ok.after,Region.binds md e=true/\e.on=i
end
section
variable {P:Program} {md:Region.Mode} {l:List Oper} {Q:Exit->Act->World->Prop} {S:World->Prop} {k:Nat}
end
section
variable {P:Program} {md:Region.Mode} {ops:Array Oper} {Q:Exit->Act->World->Prop} {S S':World->Prop} {k:Nat->Bool}
def EndsM (P:Program) (md:Region.Mode) (ops:Array Oper) (Q:Exit->Act->World->Prop) (S:World->Prop) (k:Nat->Bool):Nat->Array Bool->Act->World->Prop
 | 0,ls,a,w=>Region.ready md ops ls=[]/\Q .normal a w
 | n+1,ls,a,w=>(Region.ready md ops ls=[]->Q .normal a w)/\∀ i ∈ Region.ready md ops ls,wpOp P ops Q i (fun a' w'=>(k i=false->S w->S w')/\EndsM P md ops Q S k n (ls.setIfInBounds i true) a' w') a w
theorem EndsM.any:∀ (n:Nat) (ls:Array Bool) (a:Act) (w:World),EndsM P md ops Q S k n ls a w->wpAny P md ops Q n ls a w
 | 0,_,_,_,h=>h
 | n+1,_,_,_,h=>⟨h.1,fun i hi=>wpOp_mono (fun a w h=>EndsM.any n _ a w h.2) (h.2 i hi)⟩
theorem EndsM.takeD {i:Nat} {oi:Oper} {v:Value} (D:Nat->Prop) (hi:ops[i]?=some oi) (hsel:∀ (j:Nat) (o:Oper) cs b,ops[j]?=some o->o.op≠.select cs b) (hQ:∀ c a w,Q (.panic c) (a.put oi.dst v) w->Q (.panic c) a w)
  (hD:∀ p,D p->∃ q,Wts md ops p q/\(q=i∨D q)) (hk:k i=false/\∀ j,k j=true->D j) :
  ∀ (n:Nat) (ls:Array Bool) (a:Act) (w:World),Apart md ops i oi ls->i ∈ Region.ready md ops ls->(∀ p,D p->ls.getD p false=false)->YieldsIf P ops S oi v a->S w->EndsM P md ops Q S k n (ls.setIfInBounds i true) (a.put oi.dst v) w->EndsM P md ops Q S k (n+1) ls a w:=by
 have first:∀ (n:Nat) (ls:Array Bool) (a:Act) (w:World),i ∈ Region.ready md ops ls->YieldsIf P ops S oi v a->S w->EndsM P md ops Q S k n (ls.setIfInBounds i true) (a.put oi.dst v) w->wpOp P ops Q i (fun a' w'=>(k i=false->S w->S w')/\EndsM P md ops Q S k n (ls.setIfInBounds i true) a' w') a w :=
  fun n ls a w _ hy hS H=>hy.wpOp hi hS ⟨fun _ hs=>hs,H⟩
 intro n
 induction n with
 | zero =>
  intro ls a w _ hr _ hy hS H
  refine ⟨fun h=>(by rw [h] at hr; cases hr),fun j hj=>?_⟩
  rcases Decidable.em (j=i) with e | e
  ·rw [e]; exact first 0 ls a w hr hy hS H
  ·have:=ready_mono hj e
   rw [H.1] at this; cases this
 | succ n ih =>
  intro ls a w hap hr hnl hy hS H
  refine ⟨fun h=>(by rw [h] at hr; cases hr),fun j hj=>?_⟩
  rcases Decidable.em (j=i) with e | e
  ·rw [e]; exact first (n+1) ls a w hr hy hS H
  ·obtain ⟨hju,oj,hoj,_⟩:=mem_ready.1 hj
   have h2:=wpOp_putIf hoj (hap j oj hoj e hju (unlisted hr hoj hj)) (fun cs b=>hsel i oi cs b hi) (fun cs b=>hsel j oj cs b hoj) hQ hy (H.2 j (ready_mono hj e))
   refine wpOp_mono (fun a' w' h3=>?_) h2
   have hr':i ∈ Region.ready md ops (ls.setIfInBounds j true):=ready_mono hr (Ne.symm e)
   have hno:∀ p,Wts md ops j p->p≠i/\ls.getD p false=true:=fun p ⟨ok,ho,e',he,hb,hon⟩=>by
    rw [hoj] at ho; cases ho
    refine ⟨fun ep=>unlisted hr hoj hj e' he hb (hon.trans ep),?_⟩
    obtain ⟨_,o2,ho2,hall⟩:=mem_ready.1 hj
    rw [hoj] at ho2; cases ho2
    rw [<- hon]; exact hall e' he hb
   have hnD:¬ D j:=fun hd=>by
    obtain ⟨q,h4,h5⟩:=hD j hd
    rcases h5 with h5 | h5
    ·exact (hno q h4).1 h5
    ·have h6:=(hno q h4).2
     rw [hnl q h5] at h6; cases h6
   have hjk:k j=false:=by
    cases hkj:k j with
    | false=>rfl
    | true=>exact absurd (hk.2 j hkj) hnD
   have hnl':∀ p,D p->(ls.setIfInBounds j true).getD p false=false:=fun p hp=>by
    have hpj:p≠j:=fun ep=>hnD (ep ▸ hp)
    rw [getD_set_ne false (Ne.symm hpj)]; exact hnl p hp
   have hS':S w':=h3.2.1 hjk hS
   exact ⟨h3.2.1,ih _ a' w' (hap.next hju) hr' hnl' h3.1 hS' (by rw [Array.setIfInBounds_comm _ _ e]; exact h3.2.2)⟩
end
section
variable {P:Program} {md:Region.Mode} {l:List Oper} {Q:Exit->Act->World->Prop} {S:World->Prop} {k:Nat}
def hangs (md:Region.Mode) (o:Oper) (i:Nat) (D:List Nat):Bool:=o.after.any fun e=>Region.binds md e && (e.on == i || D.contains e.on)
def depsOf (md:Region.Mode) (i:Nat):List Oper->Nat->List Nat->List Nat
 | [],_,D=>D
 | o :: l,j,D=>depsOf md i l (j+1) (if hangs md o i D then j :: D else D)
def depsOk (md:Region.Mode) (l:List Oper) (i:Nat) (D:List Nat):Bool:=D.all fun p=>match l[p]? with | some o=>hangs md o i D | none=>false
def lateOk (l:List Oper) (k i:Nat) (D:List Nat):Bool:=decide (i<k) && (List.range l.length).all fun j=>!decide (k<=j) || D.contains j
def idleD (ls:Array Bool) (D:List Nat):Bool:=D.all fun p=>!ls.getD p false
theorem depsOk_spec {i:Nat} {D:List Nat} (h:depsOk md l i D=true):∀ p,p ∈ D->∃ q,Wts md l.toArray p q/\(q=i∨q ∈ D):=fun p hp=>by
 have h1:=List.all_eq_true.1 h p hp
 split at h1
 ·rename_i o ho
  obtain ⟨e,he,hb⟩:=Array.any_eq_true'.1 h1
  simp only [Bool.and_eq_true,Bool.or_eq_true,beq_iff_eq,List.contains_iff_mem] at hb
  exact ⟨e.on,⟨o,by simpa using ho,e,he,hb.1,rfl⟩,hb.2⟩
 ·cases h1
theorem lateOk_spec {i:Nat} {D:List Nat} (h:lateOk l k i D=true):(fun j=>decide (k<=j) && decide (j<l.length)) i=false/\∀ j,(fun j=>decide (k<=j) && decide (j<l.length)) j=true->j ∈ D:=by
 unfold lateOk at h
 simp only [Bool.and_eq_true,decide_eq_true_eq,List.all_eq_true] at h
 refine ⟨by simp only [Bool.and_eq_false_iff,decide_eq_false_iff_not]; left; omega,fun j hj=>?_⟩
 simp only [Bool.and_eq_true,decide_eq_true_eq] at hj
 have h2:=h.2 j (List.mem_range.2 hj.2)
 rw [decide_eq_true hj.1] at h2
 simpa using h2
abbrev EndsMk (P:Program) (md:Region.Mode) (l:List Oper) (Q:Exit->Act->World->Prop) (S:World->Prop) (k:Nat) (n:Nat) (ls:Array Bool) (a:Act) (w:World):Prop:=EndsM P md l.toArray Q S (fun j=>decide (k<=j) && decide (j<l.length)) n ls a w
theorem mu (i:Nat) {oi:Oper} {v:Value} {fuel:Nat} {listed:Array Bool} {a:Act} {w:World} (hi:l[i]?=some oi:=by rfl) (hs:Region.noSelect l.toArray=true:=by kernel_rfl) (hf:Region.free md l.toArray listed i=true:=by kernel_rfl)
  (hr:(Region.ready md l.toArray listed).contains i=true:=by kernel_rfl) (hk:depsOk md l i (depsOf md i l 0 [])=true:=by kernel_rfl) (hl:lateOk l k i (depsOf md i l 0 [])=true:=by kernel_rfl) (hnl:idleD listed (depsOf md i l 0 [])=true:=by kernel_rfl) (hQ:∀ c a w,Q (.panic c) (a.put oi.dst v) w->Q (.panic c) a w:=by exact fun _ _ _ h=>h) (hw:Region.wanted oi (yielded l.toArray a.tmps)=true:=by rfl)
  (he:∀ w,S w->(execOp a.eval oi).run P w=.ok (.value v) w:=by (intro w hSw; (try go_frame); (try dsimp only at hSw); go_simp) <;> with_reducible rfl) (hS:S w:=by assumption) (h:EndsMk P md l Q S k fuel (listed.setIfInBounds i true) (a.put oi.dst v) w):EndsMk P md l Q S k (fuel+1) listed a w :=
 have hi':l.toArray[i]?=some oi:=by simpa using hi
 EndsM.takeD (fun p=>p ∈ depsOf md i l 0 []) hi' (Region.noSelect_spec hs) hQ (depsOk_spec hk) (lateOk_spec hl) fuel listed a w (Region.free_spec hi' hf) (by simpa using hr) (fun p hp=>by have:=List.all_eq_true.1 hnl p hp; simpa using this) (.inl ⟨hw,he⟩) hS h
theorem mst (i:Nat) {oi:Oper} {fuel:Nat} {listed:Array Bool} {a:Act} {w:World} (hi:l[i]?=some oi:=by rfl) (hr:Region.ready md l.toArray listed=[i]:=by kernel_rfl)
  (h:∀ K':Act->World->Prop,Shut (∀ a w,S w->(S w->EndsMk P md l Q S k fuel (listed.setIfInBounds i true) a w)->K' a w)->if Region.wanted oi (yielded l.toArray a.tmps)=true then Oper.wp P oi a w K' Q else K' (a.put oi.dst undef) w) :
  EndsMk P md l Q S k (fuel+1) listed a w:=by
 refine ⟨fun h0=>(by rw [hr] at h0; cases h0),fun j hj=>?_⟩
 rw [hr] at hj
 obtain rfl:=List.mem_singleton.1 hj
 exact wpOp_step (by simpa using hi) (fun K' hK=>h K' (fun a w hS hW=>hK a w ⟨fun _ _=>hS,hW hS⟩))
theorem ml (i:Nat) {oi:Oper} {fuel:Nat} {listed:Array Bool} {a:Act} {w:World} (hi:l[i]?=some oi:=by rfl) (hr:Region.ready md l.toArray listed=[i]:=by kernel_rfl) (hk:(decide (k<=i) && decide (i<l.length))=true:=by kernel_rfl)
  (h:∀ K':Act->World->Prop,Shut (∀ a w,EndsMk P md l Q S k fuel (listed.setIfInBounds i true) a w->K' a w)->if Region.wanted oi (yielded l.toArray a.tmps)=true then Oper.wp P oi a w K' Q else K' (a.put oi.dst undef) w) :
  EndsMk P md l Q S k (fuel+1) listed a w:=by
 refine ⟨fun h0=>(by rw [hr] at h0; cases h0),fun j hj=>?_⟩
 rw [hr] at hj
 obtain rfl:=List.mem_singleton.1 hj
 exact wpOp_step (by simpa using hi) (fun K' hK=>h K' (fun a w hW=>hK a w ⟨fun e=>absurd (hk.symm.trans e) (by decide),hW⟩))
theorem mdone {listed:Array Bool} {a:Act} {w:World} (hr:Region.ready md l.toArray listed=[]) (h:Q .normal a w):∀ fuel,EndsMk P md l Q S k fuel listed a w
 | 0=>⟨hr,h⟩
 | _+1=>⟨fun _=>h,by rw [hr]; simp⟩
theorem mbegin {id:Nat} {a:Act} {w:World} (k:Nat) (S:World->Prop) (hm:P.follows .mixedOrders=true) (hS:S w.drew)
  (h:S w.drew->EndsMk P .any l Q S k l.toArray.size (Array.replicate l.toArray.size false) a w.drew):(Code.region id l.toArray true).wp P Q a w :=
 wp_region_any hm (EndsM.any _ _ _ _ (h hS))
end
def keepR (l:List Int) (r:RowV):Bool:=decide (r.group=0) || !decide (r.group ∈ l)
theorem filter_snoc {α:Type} {f:α->Bool} {l:List α} {d:α} {i:Nat} (hi:i<l.length):(l.take (i+1)).filter f=(l.take i).filter f++if f (l.getD i d) then [l.getD i d] else []:=by
 rw [List.take_succ_eq_append_getElem hi,List.filter_append,getD_lt hi d]
 by_cases h:f l[i] <;> simp [h]
theorem Without4_any (w:World) (pv dv:Value) (p:ProgV) (d:List Int) (hp:IsPrg w pv p) (hd:Inz w dv d) (hn:p.vars.length<=1000) (hm:p.rows.length<=1000):Calls Tryz.prog 11 #[pv,dv] w (fun r w'=>∃ v,r=.returned v/\IsPrg w' v (withoutP p d)/\XF w w'):=by
 obtain ⟨vo,vn,vc,ro,rn,rc,rfl⟩:=hp.slicesP
 obtain ⟨dq,dc,rfl,-⟩:=hd.shape
 obtain ⟨hvs,hrs,hl1,hl2⟩:=prg_parts hp
 rw [hl1] at hn
 rw [hl2] at hm
 have HLn:=bH (bI hl1 hl2)
 have HPw:=bH (bI hvs hrs)
 have HDw:=bH hd
 obtain ⟨dn,hdn⟩:∃ n,d.length=n:=⟨_,rfl⟩
 rw [hdn] at HDw ⊢
 clear hp hd hvs hrs hl1 hl2 hdn
 have hxa:=(Ext.refl (fun _=>False) w).alloc (.cells #[.slice vo vn vc,.slice ro rn rc] 25)
 have hxb:=(Ext.refl (fun _=>False) (w.alloc (.cells #[.slice vo vn vc,.slice ro rn rc] 25))).alloc (.cells #[.slice none 0 0,.slice none 0 0] 25)
 have hb2:blk ((w.alloc (.cells #[.slice vo vn vc,.slice ro rn rc] 25)).alloc (.cells #[.slice none 0 0,.slice none 0 0] 25)) (w.heap.size+1)=some (.cells #[.slice none 0 0,.slice none 0 0] 25 (0,0)):=by
  have h:=blk_alloc_at (w.alloc (.cells #[.slice vo vn vc,.slice ro rn rc] 25)) (.cells #[.slice none 0 0,.slice none 0 0] 25)
  rwa [World.size_alloc] at h
 have HB:=bH (bI (blk_keep (blk_alloc_at w (.cells #[.slice vo vn vc,.slice ro rn rc] 25)) hxb) (bI hb2 (hxa.trans hxb)))
 clear hxa hxb hb2
 go_enter Tryz.func11,Tryz.ntmps11
 go_upto_region 1 with fail
 generalize (w.alloc (.cells #[.slice vo vn vc,.slice ro rn rc] 25)).alloc (.cells #[.slice none 0 0,.slice none 0 0] 25)=w1 at *
 obtain ⟨pb,hpb⟩:∃ q,w.heap.size=q:=⟨_,rfl⟩
 rw [hpb] at HB ⊢
 have HPb:=bH hpb
 clear hpb
 have hxe:=(Ext.refl (fun _=>False) w1).alloc (.cells #[] 60)
 have HE:=bH (bI (show SOwn cV 60 (w1.alloc (.cells #[] 60)) w.heap.size (.slice (some ⟨w1.heap.size,0,none⟩) 0 0) [] from SOwn.empty (blk_alloc_at w1 (.cells #[] 60)) HB.out.2.2.size) (HB.out.2.2.trans hxe))
 have p0:=cell_keep (cellq HB.out.1 0 rfl) hxe
 clear hxe
 go_upto_region 2 with (at_builtin; refine wpList_append_new (f:=cV) rfl (.tmp 8) (.tmp 10) rfl cV_len p.vars (fun x _=>cV_one x) Tryz.underlying22 Tryz.infoVar rfl (by decide) (by decide) w.heap.size (.slice (some ⟨w1.heap.size,0,none⟩) 0 0) rfl HE.out.1 vo vn vc rfl (HPw.out.1.1.keep HE.out.2) (by have:=HLn.out.1; omega) HE.out.2.size ?_; intro va wa g1 g2 g3; obtain ⟨vao,vac,rfl⟩:=ownsRow_shape g1)
 have HS0:Hid (WrSt w (wa.alloc (.cells #[.slice vao p.vars.length vac,.slice none 0 0] 25)) wa.heap.size (.slice vao p.vars.length vac) (.slice none 0 0) p.vars []/\blk (wa.alloc (.cells #[.slice vao p.vars.length vac,.slice none 0 0] 25)) pb=some (.cells #[.slice vo vn vc,.slice ro rn rc] 25 (0,0))/\blk (wa.alloc (.cells #[.slice vao p.vars.length vac,.slice none 0 0] 25)) (pb+1)=some (.cells #[.slice none 0 0,.slice none 0 0] 25 (0,0))/\pb+1<wa.heap.size):=bH (by
  have hlt:w1.heap.size<(w1.alloc (.cells #[] 60)).heap.size:=by simp
  have hxw:=(Ext.refl (fun _=>False) wa).alloc (.cells #[.slice vao p.vars.length vac,.slice none 0 0] 25)
  have hge:XF w1 wa:=((Ext.refl (fun _=>False) w1).alloc (.cells #[] 60)).own g2 (fun k hk=>by cases hk; exact Nat.le_refl _)
  refine ⟨⟨(HB.out.2.2.trans hge).trans hxw,blk_alloc_at wa _,(HB.out.2.2.trans hge).size,?_,World.ownsRow_nil _ _ _ 5,fun y hy=>by cases hy⟩,blk_keep HB.out.1 (hge.trans hxw),blk_keep HB.out.2.1 (hge.trans hxw),Nat.lt_of_lt_of_le (blk_lt HB.out.2.1) hge.size⟩
  exact SOwn.keep g1 hxw)
 clear g1 g2 g3 p0 HE
 generalize wa.alloc (.cells #[.slice vao p.vars.length vac,.slice none 0 0] 25)=w2 at *
 generalize wa.heap.size=ob at *
 generalize hva:Value.slice vao p.vars.length vac=va at *
 clear hva
 have p1:=cellq HS0.out.2.1 1 rfl
 have HOb:=bH HS0.out.2.2.2
 go_wp2_with fail
 go_loopg [6,7] rn (fun gg v6 v7 wr=>∃ (i:Nat) (v:Value) (prs:List RT),i<=rn/\gg=rn - i/\v6=.int .i64 i/\WrSt w wr ob va v p.vars prs/\prs.map (·.1)=(p.rows.take i).filter (keepR d)/\prs.length<=i/\blk wr pb=some (.cells #[.slice vo vn vc,.slice ro rn rc] 25 (0,0))/\blk wr (pb+1)=some (.cells #[.slice none 0 0,.slice none 0 0] 25 (0,0)))
 case atStart=>exact ⟨0,_,[],Nat.zero_le _,rfl,rfl,HS0.out.1,rfl,Nat.le_refl _,HS0.out.2.1,HS0.out.2.2.1⟩
 case round =>
  clear p1 HS0
  obtain ⟨i,v,prs,hi,rfl,rfl,hm1,hm2,hm3,hb1,hb2⟩:=hrel
  have HM:=bH hm1
  have HPm:=bH hm2
  have HPl:=bH hm3
  have HPk:=bH (bI hb1 hb2)
  clear hm1 hm2 hm3 hb1 hb2
  have p1:=cellq HPk.out.1 1 rfl
  by_cases hin:i<rn
  ·have i0:(i:Int)<(rn:Int):=by omega
   have i1:(0:Int)<=(i:Int):=by omega
   have hil:i<p.rows.length:=by rw [HLn.out.2]; exact hin
   obtain ⟨b,off,ta,tc,rfl,hbw,e0,e1,e2,e3,e4,hok,hT⟩:=HPw.out.2.atp i hil
   have HFx:=bH (filter_snoc (f:=keepR d) (d:=row0) hil)
   rw [show p.rows.getD i row0=p.r i from rfl] at HFx
   obtain ⟨r,hr⟩:∃ r,p.r i=r:=⟨_,rfl⟩
   rw [hr] at e0 e1 e2 e3 e4 hok hT HFx
   clear hr hil
   have HYd:=bH (bI hT hok)
   have HYo:=bH (show ∀ u ∈ cRT (r,(.slice ta r.terms.length tc:Value)),u.oneCell'=true from cRT_one rfl)
   have HYc:=bH (show cRT (r,(.slice ta r.terms.length tc:Value))=[.string r.name,.int .i64 r.group,.int .i64 r.kind,.slice ta r.terms.length tc,.int .i64 r.bound] from rfl)
   have HYf:=bH (show (r,(.slice ta r.terms.length tc:Value)).1=r from rfl)
   obtain ⟨y,hy⟩:∃ y:RT,(r,(.slice ta r.terms.length tc:Value))=y:=⟨_,rfl⟩
   rw [hy] at HYo HYc HYf
   have HYd2:=bH (show Tms w y.2 y.1.terms/\RowOk y.1 from by rw [<- hy]; exact HYd.out)
   clear hy hT hok HYd
   have HKr:=bH (show keepR d r=(decide (r.group=0) || !decide (r.group ∈ d)) from rfl)
   have HHs:=bH (fun W (hW:XF wr W)=>Has_any W (.slice dq dn dc) d r.group (HDw.out.keep (HM.out.ext.trans hW)))
   obtain ⟨nm,hnm⟩:∃ x,r.name=x:=⟨_,rfl⟩
   obtain ⟨gr,hgr⟩:∃ x,r.group=x:=⟨_,rfl⟩
   obtain ⟨kd,hkd⟩:∃ x,r.kind=x:=⟨_,rfl⟩
   obtain ⟨bd,hbd⟩:∃ x,r.bound=x:=⟨_,rfl⟩
   obtain ⟨tl,htl⟩:∃ x,r.terms.length=x:=⟨_,rfl⟩
   rw [hnm] at e0 HYc
   rw [hgr] at e1 HYc HKr HHs
   rw [hkd] at e2 HYc
   rw [htl] at e3 HYc
   rw [hbd] at e4 HYc
   clear hnm hgr hkd hbd htl
   obtain ⟨K,hK⟩:∃ K,keepR d r=K:=⟨_,rfl⟩
   obtain ⟨M,hM⟩:∃ M,decide (gr ∈ d)=M:=⟨_,rfl⟩
   rw [hK] at HKr HFx
   rw [hM] at HKr HHs
   clear hK hM
   have HE5:=bH (bI e0 (bI e1 (bI e2 (bI e3 e4))))
   have HBw:=bH hbw
   clear e0 e2 e3 e4 hbw
   replace e1:=cell_keep e1 HM.out.ext
   go_upto_region 6 with fail
   go_cut [33] (fun v33 wx=>v33=.bool K/\XF wr wx)
   case first =>
    by_cases h0:gr=0
    ·have HK2:=bH (show K=true from by rw [HKr.out,decide_eq_true h0]; rfl)
     subst h0
     go_wp2
     go_meet
     exact ⟨by rw [HK2.out],Ext.refl _ _⟩
    ·have HK2:=bH (show K=!M from by rw [HKr.out,decide_eq_false h0]; rfl)
     have h2:(gr == 0)=false:=by simpa using h0
     have h3:decide (gr=0)=false:=by simpa using h0
     go_wp2_with (go_at_call 12; (with_reducible refine (HHs.out _ (Ext.refl _ _)).mono ?_); rintro q3 w13 ⟨rfl,hx13⟩)
     go_meet
     exact ⟨by rw [HK2.out],hx13⟩
   case rest =>
   obtain ⟨rfl,hcx⟩:=hcut
   have HM2:=bH (HM.out.keep hcx)
   have HPk2:=bH (bI (blk_keep HPk.out.1 hcx) (blk_keep HPk.out.2 hcx))
   obtain ⟨wq,rfl⟩:∃ x,x=wc:=⟨_,rfl⟩
   clear hcx e1 p1 HHs HKr HM HPk
   cases K with
   | false =>
    go_wp2
    go_roundg (rn - (i+1))
    case measure=>omega
    case rel=>exact ⟨i+1,v,prs,by omega,rfl,by go_num,HM2.out,by rw [HPm.out,HFx.out]; simp,by have:=HPl.out; omega,HPk2.out.1,HPk2.out.2⟩
   | true =>
    have hlow:=HM2.out.rown.lt
    have e0:=cqo (S:=fun k=>v.ownBlock=some k) (cell_keep HE5.out.1 HM2.out.ext) (fun e=>by have h1:=(hlow _ e).1; have h2:=HBw.out; omega)
    have e1:=cqo (S:=fun k=>v.ownBlock=some k) (cell_keep HE5.out.2.1 HM2.out.ext) (fun e=>by have h1:=(hlow _ e).1; have h2:=HBw.out; omega)
    have e2:=cqo (S:=fun k=>v.ownBlock=some k) (cell_keep HE5.out.2.2.1 HM2.out.ext) (fun e=>by have h1:=(hlow _ e).1; have h2:=HBw.out; omega)
    have e3:=cqo (S:=fun k=>v.ownBlock=some k) (cell_keep HE5.out.2.2.2.1 HM2.out.ext) (fun e=>by have h1:=(hlow _ e).1; have h2:=HBw.out; omega)
    have e4:=cqo (S:=fun k=>v.ownBlock=some k) (cell_keep HE5.out.2.2.2.2 HM2.out.ext) (fun e=>by have h1:=(hlow _ e).1; have h2:=HBw.out; omega)
    have p1:=cqo (S:=fun k=>v.ownBlock=some k) (cellq HPk2.out.1 1 rfl) (fun e=>TyB.ne (HM2.out.tyr _ e) ⟨_,HPk2.out.1⟩ (by decide) rfl)
    have o1:=cqo (S:=fun k=>v.ownBlock=some k) (cellq HM2.out.box 1 rfl) (fun e=>TyB.ne (HM2.out.tyr _ e) HM2.out.tyo (by decide) rfl)
    clear hlow
    go_upto_region 7 with fail
    refine mbegin 9 (Ext (fun k=>v.ownBlock=some k) wq) (by kernel_rfl) ((Ext.refl _ wq).drew) (fun hHeld=>?_)
    refine mu 0 (h:=(mu 1 (h:=(mu 2 (h:=(mu 3 (h:=(mu 4 (h:=(mu 5 (h:=(mu 6 (h:=?_)))))))))))))
    (try go_frame)
    refine mst 7 (h:=fun K hK=>?_)
    go_simp
    have hxl:XF wq (wq.alloc (.cells #[.string nm,.int .i64 gr,.int .i64 kd,.slice ta tl tc,.int .i64 bd] 53)).drew:=((Ext.refl (fun _=>False) wq).alloc (.cells #[.string nm,.int .i64 gr,.int .i64 kd,.slice ta tl tc,.int .i64 bd] 53)).drew
    have HMa:=bH (HM2.out.keep hxl)
    have hsrc:∀ j u,(cRT y)[j]?=some u->((wq.alloc (.cells #[.string nm,.int .i64 gr,.int .i64 kd,.slice ta tl tc,.int .i64 bd] 53)).drew).cell? ((⟨wq.heap.size,0,none⟩:Addr).add j)=some u:=by rw [HYc.out]; exact cells_new _ _ rfl
    have hX1:Ext (fun k=>v.ownBlock=some k) wq _:=ext_any hxl _
    generalize (wq.alloc (.cells #[.string nm,.int .i64 gr,.int .i64 kd,.slice ta tl tc,.int .i64 bd] 53)).drew=wl at *
    generalize hsz:wq.heap.size=lb at *
    refine hK.out _ _ (hX1) (fun hHeld=>?_)
    clear hK K
    (try go_frame)
    refine mst 8 (h:=fun K hK=>?_)
    refine step_append_el (f:=cRT) rfl (.tmp 35) (.tmp 41) rfl cRT_len y HYo.out Tryz.underlying23 Tryz.infoRow rfl (by decide) (by decide) w.heap.size v prs rfl HMa.out.rrow ⟨lb,0,none⟩ 1 rfl hsrc (by have:=HPl.out; omega) (Nat.le_trans HMa.out.low (Nat.le_of_lt (blk_lt HMa.out.box))) (fun v' w' g1 g2 g3=>?_)
    obtain ⟨ao9,ac9,e9⟩:=ownsRow_shape g1
    obtain ⟨ql,hql⟩:∃ n,(prs++[y]).length=n:=⟨_,rfl⟩
    have HQl:=bH hql
    rw [hql] at e9
    clear hql
    subst e9
    have HMb:=bH (HMa.out.pushR g1 g2 HYd2.out)
    have q1:=cellq (HMa.out.pushBox g1 g2) 1 rfl
    have q3:=free_of_cells (HMa.out.pushBox g1 g2) 1
    have hX2:=hX1.trans g2
    refine hK.out _ _ (hX2) (fun hHeld=>?_)
    clear hK K
    (try go_frame)
    refine ml 9 (h:=fun K hK=>?_)
    go_simp
    refine hK.out _ _ ?_
    clear hK K
    (try go_frame)
    refine ml 10 (h:=fun K hK=>?_)
    go_simp
    refine hK.out _ _ ?_
    clear hK K
    (try go_frame)
    refine mdone (by kernel_rfl) ?_ _
    clear q1 q3
    have HPz:=bH (bI ((hX2.blk (blk_lt HPk2.out.1) (fun e=>TyB.ne (HM2.out.tyr _ e) ⟨_,HPk2.out.1⟩ (by decide) rfl)).trans HPk2.out.1) ((hX2.blk (blk_lt HPk2.out.2) (fun e=>TyB.ne (HM2.out.tyr _ e) ⟨_,HPk2.out.2⟩ (by decide) rfl)).trans HPk2.out.2))
    have hxz:=(Ext.refl (fun k=>k=ob) w').setCell (p:=⟨ob,1,none⟩) (.slice ao9 ql ac9) (fun _=>rfl)
    have HPy:=bH (bI ((hxz.blk (blk_lt HPz.out.1) (fun e=>by have e2:pb=ob:=e; have:=HOb.out; omega)).trans HPz.out.1) ((hxz.blk (blk_lt HPz.out.2) (fun e=>by have e2:pb+1=ob:=e; have:=HOb.out; omega)).trans HPz.out.2))
    go_wp2
    go_roundg (rn - (i+1))
    case measure=>omega
    case rel=>exact ⟨i+1,_,prs++[y],by omega,rfl,by go_num,HMb.out,by rw [List.map_append,HPm.out,HFx.out,List.map_singleton,HYf.out]; rfl,by rw [List.length_append]; have:=HPl.out; simp; omega,HPy.out.1,HPy.out.2⟩
  ·obtain rfl:rn=i:=by omega
   have o0:=cellq HM.out.box 0 rfl
   have o1:=cellq HM.out.box 1 rfl
   have q0:=cellq HPk.out.2 0 rfl
   have q1:=cellq HPk.out.2 1 rfl
   have q2:=free_of_cells HPk.out.2 0
   have q3:=free_of_cells HPk.out.2 1
   obtain ⟨vao,vac,rfl⟩:=ownsRow_shape HM.out.vown
   obtain ⟨rao,rac,e9⟩:=ownsRow_shape HM.out.rown
   obtain ⟨ql,hql⟩:∃ n,prs.length=n:=⟨_,rfl⟩
   rw [hql] at e9
   clear hql
   subst e9
   have hxz:=(((Ext.refl (fun k=>k=pb+1) wr).setCell (p:=⟨pb+1,0,none⟩) (.slice vao p.vars.length vac) (fun _=>rfl)).setCell (p:=⟨pb+1,1,none⟩) (.slice rao ql rac) (fun _=>rfl))
   have HF:=bH (bI (HM.out.past hxz ⟨_,HPk.out.2⟩ (by have:=HOb.out; omega) (by have:=HPb.out; omega)) (blk_setCell_same (blk_setCell_same HPk.out.2 0 (.slice vao p.vars.length vac)) 1 (.slice rao ql rac)))
   clear hxz
   go_wp2
   generalize (wr.setCell ⟨pb+1,0,none⟩ (.slice vao p.vars.length vac)).setCell ⟨pb+1,1,none⟩ (.slice rao ql rac)=w9 at *
   have g0:=cellq HF.out.2 0 rfl
   have g1:=cellq HF.out.2 1 rfl
   have HPr:=bH (HF.out.1.prg (fun x hx=>HPw.out.1.2 x hx))
   have HWo:=bH (show (⟨p.vars,prs.map (·.1)⟩:ProgV)=withoutP p d from by unfold withoutP; rw [HPm.out,<- HLn.out.2,List.take_length]; rfl)
   rw [HWo.out] at HPr
   exact bodyPost_ret (v:=.agg #[.slice vao p.vars.length vac,.slice rao ql rac]) (by simp [results,Tryz.results11,go_sem,g0,g1]) rfl ⟨_,rfl,HPr.out,HF.out.1.ext⟩
theorem Tryz.infoTerm:(Tryz.prog.info? 63).map (fun i=>(i.zero,i.size,i.bytes))=some (some (.agg #[.int .i64 0,.int .i64 0]),2,16):=by kernel_rfl
theorem cT_len' (x:TermV):(cT x).length=2:=rfl
theorem cT_one' (x:TermV):∀ u ∈ cT x,u.oneCell'=true:=fun u hu=>by
 simp [cT] at hu
 rcases hu with rfl | rfl <;> rfl
theorem cloneV_any (w:World) (ao:Option Addr) (n c:Nat) (l:List VarV) (h:Sl w (.slice ao n c) 5 (l.map cV)) (hn:l.length<=1000):Calls Tryz.prog 23 #[.slice ao n c] w (fun r w'=>∃ v',r=.returned v'/\w'.ownsRow w.heap.size 60 5 v' l.length (l.flatMap cV)/\XF w w'):=by
 have q22:∀ (w:World) (a:Option Addr) (n c n' c':Nat),(binOp .eql 22 (.slice a n c) (.slice none n' c')).run Tryz.prog w=.ok (.bool a.isNone) w:=fun w a n c n' c'=>Lib.run_eql_slice_nil w _ _ a n c n' c' Tryz.underlying22
 cases ao with
 | none =>
  obtain ⟨rfl,hc,hl⟩:=sl_lies (by decide) cV_len h
  have h0:l=[]:=by
   rcases hl with h | ⟨a,e,_⟩
   ·exact List.eq_nil_of_length_eq_zero h
   ·cases e
  subst h0
  clear h hl hc
  go_enter Tryz.func23,Tryz.ntmps23
  go_wp2
  go_ret
  exact ⟨_,rfl,World.ownsRow_nil _ _ _ 5,Ext.refl _ _⟩
 | some ad =>
  have hx1:XF w (w.alloc (.cells #[] 60)):=(Ext.refl _ w).alloc _
  have HX:=bH (bI (h.keep hx1) (bI (show (w.alloc (.cells #[] 60)).ownsRow w.heap.size 60 5 (.slice (some ⟨w.heap.size,0,none⟩) 0 0) 0 [] from ownsRow_empty 5 (Nat.le_refl _) (blk_alloc_at w (.cells #[] 60))) hx1))
  clear h hx1
  go_enter Tryz.func23,Tryz.ntmps23
  go_wp2_with (at_builtin; refine wpList_append_new (f:=cV) rfl (.tmp 5) (.tmp 6) rfl cV_len l (fun x _=>cV_one x) Tryz.underlying22 Tryz.infoVar rfl (by decide) (by decide) w.heap.size (.slice (some ⟨w.heap.size,0,none⟩) 0 0) rfl HX.out.2.1 (some ad) n c rfl HX.out.1 hn HX.out.2.2.size ?_; intro v' w' g1 g2 g3; obtain ⟨ao9,ac9,rfl⟩:=ownsRow_shape g1)
  go_ret
  exact ⟨_,rfl,g1,HX.out.2.2.own g2 (fun k hk=>by cases hk; exact Nat.le_refl _)⟩
theorem cloneT_any (w:World) (ao:Option Addr) (n c:Nat) (l:List TermV) (h:Sl w (.slice ao n c) 2 (l.map cT)) (hn:l.length<=1000):Calls Tryz.prog 25 #[.slice ao n c] w (fun r w'=>∃ v',r=.returned v'/\w'.ownsRow w.heap.size 63 2 v' l.length (l.flatMap cT)/\XF w w'):=by
 have q22:∀ (w:World) (a:Option Addr) (n c n' c':Nat),(binOp .eql 51 (.slice a n c) (.slice none n' c')).run Tryz.prog w=.ok (.bool a.isNone) w:=fun w a n c n' c'=>Lib.run_eql_slice_nil w _ _ a n c n' c' Tryz.underlying51
 cases ao with
 | none =>
  obtain ⟨rfl,hc,hl⟩:=sl_lies (by decide) cT_len' h
  have h0:l=[]:=by
   rcases hl with h | ⟨a,e,_⟩
   ·exact List.eq_nil_of_length_eq_zero h
   ·cases e
  subst h0
  clear h hl hc
  go_enter Tryz.func25,Tryz.ntmps25
  go_wp2
  go_ret
  exact ⟨_,rfl,World.ownsRow_nil _ _ _ 2,Ext.refl _ _⟩
 | some ad =>
  have hx1:XF w (w.alloc (.cells #[] 63)):=(Ext.refl _ w).alloc _
  have HX:=bH (bI (h.keep hx1) (bI (show (w.alloc (.cells #[] 63)).ownsRow w.heap.size 63 2 (.slice (some ⟨w.heap.size,0,none⟩) 0 0) 0 [] from ownsRow_empty 2 (Nat.le_refl _) (blk_alloc_at w (.cells #[] 63))) hx1))
  clear h hx1
  go_enter Tryz.func25,Tryz.ntmps25
  go_wp2_with (at_builtin; refine wpList_append_new (f:=cT) rfl (.tmp 5) (.tmp 6) rfl cT_len' l (fun x _=>cT_one' x) Tryz.underlying51 Tryz.infoTerm rfl (by decide) (by decide) w.heap.size (.slice (some ⟨w.heap.size,0,none⟩) 0 0) rfl HX.out.2.1 (some ad) n c rfl HX.out.1 hn HX.out.2.2.size ?_; intro v' w' g1 g2 g3; obtain ⟨ao9,ac9,rfl⟩:=ownsRow_shape g1)
  go_ret
  exact ⟨_,rfl,g1,HX.out.2.2.own g2 (fun k hk=>by cases hk; exact Nat.le_refl _)⟩
theorem SIndex_any (w:World) (v:Value) (l:List Int) (x:Int) (h:Inz w v l):Calls Tryz.prog 45 #[v,.int .i64 x] w (fun r w'=>∃ i:Int,r=.returned (.int .i64 i)/\(0<=i↔x ∈ l)∧-1<=i/\i<=9223372036854775807/\XF w w'):=by
 obtain ⟨ao,c,rfl,hm⟩:=h.shape
 have hmax:maxLen<=9223372036854775807:=by unfold maxLen; decide
 have HA:=bH h
 clear h
 obtain ⟨n,hn⟩:∃ n,l.length=n:=⟨_,rfl⟩
 have HN:=bH hn
 rw [hn] at HA hm ⊢
 clear hn
 have n1:(n:Int)<=9223372036854775807:=by omega
 go_enter Tryz.func45,Tryz.ntmps45
 go_wp2_with fail
 go_loopg [8,5] n (fun gg v8 v5 wr=>∃ k:Nat,k<=n/\gg=n - k/\v8=.int .i64 k/\(∀ i,i<k->¬ l.getD i 0=x)/\XF w wr)
 case atStart=>exact ⟨0,Nat.zero_le _,rfl,rfl,fun i hi=>absurd hi (Nat.not_lt_zero i),Ext.refl _ _⟩
 case round =>
  obtain ⟨k,hk,rfl,rfl,hall,hx⟩:=hrel
  have HAl:=bH (bI hall hx)
  clear hall hx
  by_cases hkn:k<n
  ·have k0:(k:Int)<(n:Int):=by omega
   have k1:(0:Int)<=(k:Int):=by omega
   have hkl:k<l.length:=by rw [HN.out]; exact hkn
   obtain ⟨b1,o1,rfl,e0⟩:=(HA.out.keep HAl.out.2).at_ (i:=k) hkl
   have HM:=bH (show l.getD k 0 ∈ l from by rw [getD_lt hkl]; exact List.getElem_mem _)
   obtain ⟨y,hy⟩:∃ y,l.getD k 0=y:=⟨_,rfl⟩
   rw [hy] at e0 HM
   have HY:=bH hy
   clear hy hkl
   by_cases he:x=y
   ·subst he
    go_wp2
    go_ret
    exact ⟨_,rfl,⟨fun _=>HM.out,fun _=>k1⟩,by omega,by omega,HAl.out.2⟩
   ·have h2:(x == y)=false:=by simpa using he
    have h3:decide (x=y)=false:=by simpa using he
    go_wp2
    go_roundg (n - (k+1))
    case measure=>omega
    case rel=>exact ⟨k+1,by omega,rfl,by go_num,fun i hi=>by
     by_cases e:i=k
     ·subst e; rw [HY.out]; exact fun e=>he e.symm
     ·exact HAl.out.1 i (by omega),HAl.out.2⟩
  ·obtain rfl:n=k:=by omega
   go_wp2
   go_ret
   exact ⟨-1,rfl,⟨fun e=>absurd e (by decide),fun e=>by
    obtain ⟨i,hi,e2⟩:=List.getElem_of_mem e
    exact absurd (by rw [getD_lt hi]; exact e2) (HAl.out.1 i (by rw [<- HN.out]; exact hi))⟩,by decide,by decide,HAl.out.2⟩
theorem SContains_any (w:World) (v:Value) (l:List Int) (x:Int) (h:Inz w v l):Calls Tryz.prog 24 #[v,.int .i64 x] w (BoolPost w (decide (x ∈ l))):=by
 have HI:=bH (SIndex_any w v l x h)
 obtain ⟨ao,c,rfl,-⟩:=h.shape
 clear h
 generalize l.length=n at *
 go_enter Tryz.func24,Tryz.ntmps24
 go_wp2_with (go_at_call 45; refine HI.out.mono ?_; rintro q1 w1 ⟨i,rfl,hi,hi1,hi2,hx1⟩)
 go_ret
 exact ⟨ret_bool (by
  by_cases hm:x ∈ l
  ·have:=hi.2 hm; simp [hm,this]
  ·have:¬ 0<=i:=fun e=>hm (hi.1 e); simp [hm,this]),hx1⟩
open Go.RowKit
def insG (l:List Int) (g:Int):List Int:=l.takeWhile (fun x=>decide (x<g))++g :: l.dropWhile (fun x=>decide (x<g))
def grpF (l:List Int) (g:Int):List Int:=if g=0∨g ∈ l then l else insG l g
def groupsP (p:ProgV):List Int:=(p.rows.map (·.group)).foldl grpF []
theorem mem_insG {l:List Int} {g x:Int}:x ∈ insG l g↔x=g∨x ∈ l:=by
 unfold insG
 have h:=List.takeWhile_append_dropWhile (p:=fun x=>decide (x<g)) (l:=l)
 constructor
 ·intro hx
  rcases List.mem_append.1 hx with h1 | h1
  ·exact .inr (by rw [<- h]; exact List.mem_append_left _ h1)
  ·rcases List.mem_cons.1 h1 with h1 | h1
   ·exact .inl h1
   ·exact .inr (by rw [<- h]; exact List.mem_append_right _ h1)
 ·rintro (rfl | hx)
  ·exact List.mem_append_right _ (List.mem_cons_self ..)
  ·rw [<- h] at hx
   rcases List.mem_append.1 hx with h1 | h1
   ·exact List.mem_append_left _ h1
   ·exact List.mem_append_right _ (List.mem_cons_of_mem _ h1)
theorem insG_cons (y:Int) (l:List Int) (g:Int):insG (y :: l) g=if y<g then y :: insG l g else g :: y :: l:=by
 unfold insG
 by_cases h:y<g
 ·simp [h]
 ·simp [h]
theorem insG_sorted {g:Int}:∀ {l:List Int},l.Pairwise (·<·)->¬ g ∈ l->(insG l g).Pairwise (·<·)
 | [],_,_=>by simp [insG]
 | y :: l,h,hn=>by
  rw [insG_cons]
  have h1:=List.pairwise_cons.1 h
  by_cases hy:y<g
  ·rw [if_pos hy]
   refine List.pairwise_cons.2 ⟨fun x hx=>?_,insG_sorted h1.2 (fun e=>hn (List.mem_cons_of_mem _ e))⟩
   rcases mem_insG.1 hx with rfl | hx
   ·exact hy
   ·exact h1.1 x hx
  ·rw [if_neg hy]
   have hyg:g<y:=by
    have:¬ g=y:=fun e=>hn (by rw [e]; exact List.mem_cons_self ..)
    omega
   refine List.pairwise_cons.2 ⟨fun x hx=>?_,h⟩
   rcases List.mem_cons.1 hx with rfl | hx
   ·exact hyg
   ·have:=h1.1 x hx; omega
theorem grpF_sorted {l:List Int} (h:l.Pairwise (·<·)) (g:Int):(grpF l g).Pairwise (·<·):=by
 unfold grpF
 split
 ·exact h
 ·rename_i hn
  exact insG_sorted h (fun e=>hn (.inr e))
theorem mem_grpF {l:List Int} {g x:Int}:x ∈ grpF l g↔x ∈ l∨(x=g/\¬ g=0):=by
 unfold grpF
 split
 ·rename_i h
  constructor
  ·exact fun e=>.inl e
  ·rintro (e | ⟨rfl,e⟩)
   ·exact e
   ·exact h.resolve_left e
 ·rename_i h
  rw [mem_insG]
  constructor
  ·rintro (rfl | e)
   ·exact .inr ⟨rfl,fun e=>h (.inl e)⟩
   ·exact .inl e
  ·rintro (e | ⟨rfl,_⟩)
   ·exact .inr e
   ·exact .inl rfl
theorem fold_sorted:∀ (gs:List Int) {l:List Int},l.Pairwise (·<·)->(gs.foldl grpF l).Pairwise (·<·)
 | [],_,h=>h
 | g :: gs,_,h=>fold_sorted gs (grpF_sorted h g)
theorem mem_fold {x:Int}:∀ (gs:List Int) {l:List Int},x ∈ gs.foldl grpF l↔x ∈ l∨(x ∈ gs/\¬ x=0)
 | [],l=>by simp
 | g :: gs,l=>by
  rw [List.foldl_cons,mem_fold gs,mem_grpF,List.mem_cons]
  constructor
  ·rintro ((h | ⟨rfl,h⟩) | ⟨h,h2⟩)
   ·exact .inl h
   ·exact .inr ⟨.inl rfl,h⟩
   ·exact .inr ⟨.inr h,h2⟩
  ·rintro (h | ⟨rfl | h,h2⟩)
   ·exact .inl (.inl h)
   ·exact .inl (.inr ⟨rfl,h2⟩)
   ·exact .inr ⟨h,h2⟩
theorem groups_sorted (p:ProgV):(groupsP p).Pairwise (·<·):=fold_sorted _ List.Pairwise.nil
theorem mem_groups {p:ProgV} {x:Int}:x ∈ groupsP p↔(∃ r ∈ p.rows,r.group=x)/\¬ x=0:=by
 unfold groupsP
 rw [mem_fold]
 simp
theorem sorted_same:∀ {a b:List Int},a.Pairwise (·<·)->b.Pairwise (·<·)->(∀ x,x ∈ a↔x ∈ b)->a=b
 | [],[],_,_,_=>rfl
 | [],y :: b,_,_,h=>by have:=(h y).2 (List.mem_cons_self ..); cases this
 | x :: a,[],_,_,h=>by have:=(h x).1 (List.mem_cons_self ..); cases this
 | x :: a,y :: b,ha,hb,h=>by
  have a1:=List.pairwise_cons.1 ha
  have b1:=List.pairwise_cons.1 hb
  have hxy:x=y:=by
   have h1:=(h x).1 (List.mem_cons_self ..)
   have h2:=(h y).2 (List.mem_cons_self ..)
   rcases List.mem_cons.1 h1 with e | e
   ·exact e
   ·rcases List.mem_cons.1 h2 with e2 | e2
    ·exact e2.symm
    ·have:=b1.1 x e; have:=a1.1 y e2; omega
  subst hxy
  rw [sorted_same a1.2 b1.2 (fun z=>?_)]
  constructor
  ·intro hz
   have:=a1.1 z hz
   rcases List.mem_cons.1 ((h z).1 (List.mem_cons_of_mem _ hz)) with e | e
   ·omega
   ·exact e
  ·intro hz
   have:=b1.1 z hz
   rcases List.mem_cons.1 ((h z).2 (List.mem_cons_of_mem _ hz)) with e | e
   ·omega
   ·exact e
theorem groups_without {p:ProgV} {d:List Int} {g:Int} (h:g ∈ groupsP (withoutP p d)):¬ g ∈ d/\g ∈ groupsP p:=by
 obtain ⟨⟨r,hr,rfl⟩,h0⟩:=mem_groups.1 h
 have h1:=List.mem_filter.1 hr
 have h2:=h1.2
 simp only [Bool.or_eq_true,decide_eq_true_eq,Bool.not_eq_true',decide_eq_false_iff_not] at h2
 exact ⟨h2.resolve_left h0,mem_groups.2 ⟨⟨r,h1.1,rfl⟩,h0⟩⟩
theorem without_nil (p:ProgV):withoutP p []=p:=by
 unfold withoutP
 rw [List.filter_eq_self.2 (fun r _=>by simp)]
structure WnSt (w0 w:World) (ob:Nat) (va v:Value) (vars:List VarV) (prs:List RT):Prop where
 ext:XF w0 w
 box:blk w ob=some (.cells #[va,v] 25 (0,0))
 low:w0.heap.size<=ob
 vown:SOwn cV 60 w w0.heap.size va vars
 rown:SOwn cRT 53 w w0.heap.size v prs
 done:∀ y ∈ prs,w.ownsRow w0.heap.size 63 2 y.2 y.1.terms.length (y.1.terms.flatMap cT)/\(∀ t ∈ y.1.terms,TermOk t)/\RowOk y.1
section
variable {w0 w w':World} {ob:Nat} {va v v':Value} {vars:List VarV} {prs:List RT} {y:RT}
theorem WnSt.keep (h:WnSt w0 w ob va v vars prs) (hx:XF w w'):WnSt w0 w' ob va v vars prs :=
 ⟨h.ext.trans hx,blk_keep h.box hx,h.low,h.vown.keep hx,h.rown.keep hx,fun y hy=>⟨ownsRow_ext (h.done y hy).1 hx (fun _ _ e=>e),(h.done y hy).2⟩⟩
theorem WnSt.prg (h:WnSt w0 w ob va v vars prs) (hv:∀ x ∈ vars,VarOk x):IsPrg w (.agg #[va,v]) ⟨vars,prs.map (·.1)⟩ :=
 prg_of (h.vown.sl cV_len) hv (h.rown.sl cRT_len) (fun y hy=>⟨⟨own_sl cT_len' (h.done y hy).1,(h.done y hy).2.1⟩,(h.done y hy).2.2⟩)
theorem WnSt.rrow (h:WnSt w0 w ob va v vars prs):w.ownsRow w0.heap.size 53 5 v prs.length (prs.flatMap cRT):=h.rown
theorem WnSt.tyr (h:WnSt w0 w ob va v vars prs):∀ g,v.ownBlock=some g->TyB w g 53:=own_ty h.rown
theorem WnSt.tyv (h:WnSt w0 w ob va v vars prs):∀ g,va.ownBlock=some g->TyB w g 60:=own_ty h.vown
theorem WnSt.tyo (h:WnSt w0 w ob va v vars prs):TyB w ob 25:=⟨_,h.box⟩
theorem WnSt.past {c:Nat} (h:WnSt w0 w ob va v vars prs) (hx:Ext (fun k=>k=c) w w') (h1:∀ g,va.ownBlock=some g->g≠c) (h2:∀ g,v.ownBlock=some g->g≠c) (h3:ob≠c) (h4:∀ y ∈ prs,∀ g,y.2.ownBlock=some g->g≠c) (hl:w0.heap.size<=c):WnSt w0 w' ob va v vars prs :=
 ⟨h.ext.own hx (fun k e=>by have e':k=c:=e; omega),(hx.blk (blk_lt h.box) h3).trans h.box,h.low,ownsRow_ext h.vown hx (fun g hg e=>h1 g hg e),ownsRow_ext h.rown hx (fun g hg e=>h2 g hg e),fun y hy=>⟨ownsRow_ext (h.done y hy).1 hx (fun g hg e=>h4 y hy g hg e),(h.done y hy).2⟩⟩
theorem WnSt.pushBox (h:WnSt w0 w ob va v vars prs) (hx:Ext (fun k=>v.ownBlock=some k) w w'):blk w' ob=some (.cells #[va,v] 25 (0,0)):=(hx.blk (blk_lt h.box) (fun e=>TyB.ne (h.tyr ob e) h.tyo (by decide) rfl)).trans h.box
theorem WnSt.pushR (h:WnSt w0 w ob va v vars prs) (hn:w'.ownsRow w0.heap.size 53 5 v' (prs++[y]).length ((prs++[y]).flatMap cRT)) (hx:Ext (fun k=>v.ownBlock=some k) w w') (hy:w.ownsRow w0.heap.size 63 2 y.2 y.1.terms.length (y.1.terms.flatMap cT)/\(∀ t ∈ y.1.terms,TermOk t)/\RowOk y.1):WnSt w0 (w'.setCell ⟨ob,1,none⟩ v') ob va v' vars (prs++[y]):=by
 have hob:=h.pushBox hx
 have hx2:=(Ext.refl (fun k=>k=ob) w').setCell (p:=⟨ob,1,none⟩) v' (fun _=>rfl)
 have hal:∀ z ∈ prs++[y],w.ownsRow w0.heap.size 63 2 z.2 z.1.terms.length (z.1.terms.flatMap cT)/\(∀ t ∈ z.1.terms,TermOk t)/\RowOk z.1:=fun z hz=>by
  rcases List.mem_append.1 hz with e | e
  ·exact h.done z e
  ·rw [List.mem_singleton.1 e]; exact hy
 refine ⟨(h.ext.own hx (fun k e=>(h.rown.lt k e).1)).own hx2 (fun k e=>by have e':k=ob:=e; have:=h.low; omega),blk_setCell_same hob 1 v',h.low,?_,ownsRow_ext hn hx2 (fun g hg e=>TyB.ne (own_ty hn g hg) ⟨_,hob⟩ (by decide) e),fun z hz=>⟨?_,(hal z hz).2⟩⟩
 ·refine ownsRow_ext (ownsRow_ext h.vown hx (fun g hg e=>TyB.ne (h.tyv g hg) (h.tyr g e) (by decide) rfl)) hx2 (fun g hg e=>TyB.ne (h.tyv g hg) h.tyo (by decide) e)
 ·refine ownsRow_ext (ownsRow_ext (hal z hz).1 hx (fun g hg e=>TyB.ne (own_ty (hal z hz).1 g hg) (h.tyr g e) (by decide) rfl)) hx2 (fun g hg e=>TyB.ne (own_ty (hal z hz).1 g hg) h.tyo (by decide) e)
end
theorem LWithout_any (w:World) (pv dv:Value) (p:ProgV) (d:List Int) (hp:IsPrg w pv p) (hd:Inz w dv d) (hn:p.vars.length<=1000) (hm:p.rows.length<=1000) (hT:∀ i,i<p.rows.length->(p.r i).terms.length<=1000):Calls Tryz.prog 6 #[pv,dv] w (fun r w'=>∃ v,r=.returned v/\IsPrg w' v (withoutP p d)/\XF w w'):=by
 obtain ⟨vo,vn,vc,ro,rn,rc,rfl⟩:=hp.slicesP
 obtain ⟨dq,dc,rfl,-⟩:=hd.shape
 obtain ⟨hvs,hrs,hl1,hl2⟩:=prg_parts hp
 rw [hl2] at hm
 have HLn:=bH (bI hl1 hl2)
 have HPw:=bH (bI hvs hrs)
 have HDw:=bH hd
 have HTl:=bH hT
 have HNv:=bH hn
 obtain ⟨dn,hdn⟩:∃ n,d.length=n:=⟨_,rfl⟩
 rw [hdn] at HDw ⊢
 clear hp hd hvs hrs hl1 hl2 hdn hT hn
 have hxa:=(Ext.refl (fun _=>False) w).alloc (.cells #[.slice vo vn vc,.slice ro rn rc] 25)
 have hxb:=(Ext.refl (fun _=>False) (w.alloc (.cells #[.slice vo vn vc,.slice ro rn rc] 25))).alloc (.cells #[.slice none 0 0,.slice none 0 0] 25)
 have hb2:blk ((w.alloc (.cells #[.slice vo vn vc,.slice ro rn rc] 25)).alloc (.cells #[.slice none 0 0,.slice none 0 0] 25)) (w.heap.size+1)=some (.cells #[.slice none 0 0,.slice none 0 0] 25 (0,0)):=by
  have h:=blk_alloc_at (w.alloc (.cells #[.slice vo vn vc,.slice ro rn rc] 25)) (.cells #[.slice none 0 0,.slice none 0 0] 25)
  rwa [World.size_alloc] at h
 have HB:=bH (bI (blk_keep (blk_alloc_at w (.cells #[.slice vo vn vc,.slice ro rn rc] 25)) hxb) (bI hb2 (hxa.trans hxb)))
 clear hxa hxb hb2
 go_enter Tryz.func6,Tryz.ntmps6
 go_upto_region 1 with fail
 generalize (w.alloc (.cells #[.slice vo vn vc,.slice ro rn rc] 25)).alloc (.cells #[.slice none 0 0,.slice none 0 0] 25)=w1 at *
 obtain ⟨pb,hpb⟩:∃ q,w.heap.size=q:=⟨_,rfl⟩
 rw [hpb] at HB ⊢
 have HPb:=bH hpb
 clear hpb
 have p0:=cellq HB.out.1 0 rfl
 have HCv:=bH (cloneV_any w1 vo vn vc p.vars (HPw.out.1.1.keep HB.out.2.2) HNv.out)
 go_upto_region 2 with (go_at_call 23; refine HCv.out.mono ?_; rintro q1 wa ⟨va,rfl,g1,hx1⟩; obtain ⟨vao,vac,rfl⟩:=ownsRow_shape g1)
 have HS0:Hid (WnSt w (wa.alloc (.cells #[.slice vao p.vars.length vac,.slice none 0 0] 25)) wa.heap.size (.slice vao p.vars.length vac) (.slice none 0 0) p.vars []/\blk (wa.alloc (.cells #[.slice vao p.vars.length vac,.slice none 0 0] 25)) pb=some (.cells #[.slice vo vn vc,.slice ro rn rc] 25 (0,0))/\blk (wa.alloc (.cells #[.slice vao p.vars.length vac,.slice none 0 0] 25)) (pb+1)=some (.cells #[.slice none 0 0,.slice none 0 0] 25 (0,0))/\pb+1<wa.heap.size):=bH (by
  have hxw:=(Ext.refl (fun _=>False) wa).alloc (.cells #[.slice vao p.vars.length vac,.slice none 0 0] 25)
  refine ⟨⟨(HB.out.2.2.trans hx1).trans hxw,blk_alloc_at wa _,(HB.out.2.2.trans hx1).size,?_,World.ownsRow_nil _ _ _ 5,fun y hy=>by cases hy⟩,blk_keep HB.out.1 (hx1.trans hxw),blk_keep HB.out.2.1 (hx1.trans hxw),Nat.lt_of_lt_of_le (blk_lt HB.out.2.1) hx1.size⟩
  exact ownsRow_ext (own_down g1 HB.out.2.2.size) hxw (fun _ _ e=>e))
 clear g1 hx1 p0 HCv
 generalize wa.alloc (.cells #[.slice vao p.vars.length vac,.slice none 0 0] 25)=w2 at *
 generalize wa.heap.size=ob at *
 generalize hva:Value.slice vao p.vars.length vac=va at *
 clear hva
 have p1:=cellq HS0.out.2.1 1 rfl
 have HOb:=bH HS0.out.2.2.2
 go_wp2_with fail
 go_loopg [15,7] rn (fun gg v15 v7 wr=>∃ (i:Nat) (v:Value) (prs:List RT),i<=rn/\gg=rn - i/\v15=.int .i64 i/\WnSt w wr ob va v p.vars prs/\prs.map (·.1)=(p.rows.take i).filter (keepR d)/\prs.length<=i/\blk wr (pb+1)=some (.cells #[.slice none 0 0,.slice none 0 0] 25 (0,0)))
 case atStart=>exact ⟨0,_,[],Nat.zero_le _,rfl,rfl,HS0.out.1,rfl,Nat.le_refl _,HS0.out.2.2.1⟩
 case round =>
  clear p1 HS0
  obtain ⟨i,v,prs,hi,rfl,rfl,hm1,hm2,hm3,hb2⟩:=hrel
  have HM:=bH hm1
  have HPm:=bH hm2
  have HPl:=bH hm3
  have HPk:=bH hb2
  clear hm1 hm2 hm3 hb2
  by_cases hin:i<rn
  ·have i0:(i:Int)<(rn:Int):=by omega
   have i1:(0:Int)<=(i:Int):=by omega
   have hil:i<p.rows.length:=by rw [HLn.out.2]; exact hin
   obtain ⟨b,off,ta,tc,rfl,hbw,e0,e1,e2,e3,e4,hok,hT⟩:=HPw.out.2.atp i hil
   have HFx:=bH (filter_snoc (f:=keepR d) (d:=row0) hil)
   have HTi:=bH (HTl.out i hil)
   rw [show p.rows.getD i row0=p.r i from rfl] at HFx
   obtain ⟨r,hr⟩:∃ r,p.r i=r:=⟨_,rfl⟩
   rw [hr] at e0 e1 e2 e3 e4 hok hT HFx HTi
   clear hr hil
   have HYd:=bH (bI hT hok)
   have HYc:=bH (fun u:Value=>show cRT (r,u)=[.string r.name,.int .i64 r.group,.int .i64 r.kind,u,.int .i64 r.bound] from rfl)
   clear hT hok
   have HKr:=bH (show keepR d r=(decide (r.group=0) || !decide (r.group ∈ d)) from rfl)
   have HHs:=bH (fun W (hW:XF w W)=>SContains_any W (.slice dq dn dc) d r.group (HDw.out.keep hW))
   obtain ⟨nm,hnm⟩:∃ x,r.name=x:=⟨_,rfl⟩
   obtain ⟨gr,hgr⟩:∃ x,r.group=x:=⟨_,rfl⟩
   obtain ⟨kd,hkd⟩:∃ x,r.kind=x:=⟨_,rfl⟩
   obtain ⟨bd,hbd⟩:∃ x,r.bound=x:=⟨_,rfl⟩
   obtain ⟨tl,htl⟩:∃ x,r.terms.length=x:=⟨_,rfl⟩
   have HTt:=bH htl
   rw [hnm] at e0 HYc
   rw [hgr] at e1 HYc HKr HHs
   rw [hkd] at e2 HYc
   rw [htl] at e3 HYd
   rw [hbd] at e4 HYc
   clear hnm hgr hkd hbd htl
   obtain ⟨K,hK⟩:∃ K,keepR d r=K:=⟨_,rfl⟩
   obtain ⟨M,hM⟩:∃ M,decide (gr ∈ d)=M:=⟨_,rfl⟩
   rw [hK] at HKr HFx
   rw [hM] at HKr HHs
   clear hK hM hbw
   replace e0:=cell_keep e0 HM.out.ext
   replace e1:=cell_keep e1 HM.out.ext
   replace e2:=cell_keep e2 HM.out.ext
   replace e3:=cell_keep e3 HM.out.ext
   replace e4:=cell_keep e4 HM.out.ext
   have hxa:=(Ext.refl (fun _=>False) wr).alloc (.cells #[.string nm,.int .i64 gr,.int .i64 kd,.slice ta tl tc,.int .i64 bd] 53)
   have HA:=bH (bI (blk_alloc_at wr (.cells #[.string nm,.int .i64 gr,.int .i64 kd,.slice ta tl tc,.int .i64 bd] 53)) (bI (HM.out.keep hxa) (bI (blk_keep HPk.out hxa) HM.out.ext.size)))
   have HNe:=bH (show (∀ g,va.ownBlock=some g->g≠wr.heap.size)/\(∀ g,v.ownBlock=some g->g≠wr.heap.size)/\ob≠wr.heap.size/\(∀ y ∈ prs,∀ g,y.2.ownBlock=some g->g≠wr.heap.size)/\pb+1≠wr.heap.size from ⟨fun g hg=>Nat.ne_of_lt (HM.out.vown.lt g hg).2,fun g hg=>Nat.ne_of_lt (HM.out.rown.lt g hg).2,Nat.ne_of_lt (blk_lt HM.out.box),fun y hy g hg=>Nat.ne_of_lt (World.ownsRow.lt (HM.out.done y hy).1 g hg).2,Nat.ne_of_lt (blk_lt HPk.out)⟩)
   clear hxa HM HPk
   go_upto_region 5 with fail
   generalize wr.alloc (.cells #[.string nm,.int .i64 gr,.int .i64 kd,.slice ta tl tc,.int .i64 bd] 53)=w4 at *
   generalize wr.heap.size=rb at *
   clear e0 e1 e2 e3 e4
   have f1:=cellq HA.out.1 1 rfl
   go_cut [28] (fun v28 wx=>v28=.bool K/\XF w4 wx)
   case first =>
    by_cases h0:gr=0
    ·have HK2:=bH (show K=true from by rw [HKr.out,decide_eq_true h0]; rfl)
     subst h0
     go_wp2
     go_meet
     exact ⟨by rw [HK2.out],Ext.refl _ _⟩
    ·have HK2:=bH (show K=!M from by rw [HKr.out,decide_eq_false h0]; rfl)
     have h2:(gr == 0)=false:=by simpa using h0
     have h3:decide (gr=0)=false:=by simpa using h0
     go_wp2_with (go_at_call 24; (with_reducible refine (HHs.out _ HA.out.2.1.ext).mono ?_); rintro q3 w13 ⟨rfl,hx13⟩)
     go_meet
     exact ⟨by rw [HK2.out],hx13⟩
   case rest =>
   obtain ⟨rfl,hcx⟩:=hcut
   have HA2:=bH (bI (blk_keep HA.out.1 hcx) (bI (HA.out.2.1.keep hcx) (bI (blk_keep HA.out.2.2.1 hcx) HA.out.2.2.2)))
   obtain ⟨wq,rfl⟩:∃ x,x=wc:=⟨_,rfl⟩
   clear hcx f1 HHs HKr HA
   cases K with
   | false =>
    go_wp2
    go_roundg (rn - (i+1))
    case measure=>omega
    case rel=>exact ⟨i+1,v,prs,by omega,rfl,by go_num,HA2.out.2.1,by rw [HPm.out,HFx.out]; simp,by have:=HPl.out; omega,HA2.out.2.2.1⟩
   | true =>
    have f3:=cellq HA2.out.1 3 rfl
    have f4:=free_of_cells HA2.out.1 3
    have HCt:=bH (cloneT_any wq ta tl tc r.terms (HYd.out.1.keep HA2.out.2.1.ext).1 HTi.out)
    rw [HTt.out] at HCt
    go_upto_region 7 with (go_at_call 25; refine HCt.out.mono ?_; rintro q5 w5 ⟨vt,rfl,g5,hx5⟩; obtain ⟨tao,tac,rfl⟩:=ownsRow_shape g5; have f3:=cellq (blk_keep HA2.out.1 hx5) 3 rfl; have f4:=free_of_cells (blk_keep HA2.out.1 hx5) 3)
    have hx6:=(Ext.refl (fun k=>k=rb) w5).setCell (p:=⟨rb,3,none⟩) (.slice tao tl tac) (fun _=>rfl)
    have HA3:Hid (blk (w5.setCell ⟨rb,3,none⟩ (.slice tao tl tac)) rb=some (.cells #[.string nm,.int .i64 gr,.int .i64 kd,.slice tao tl tac,.int .i64 bd] 53 (0,0))/\WnSt w (w5.setCell ⟨rb,3,none⟩ (.slice tao tl tac)) ob va v p.vars prs/\blk (w5.setCell ⟨rb,3,none⟩ (.slice tao tl tac)) (pb+1)=some (.cells #[.slice none 0 0,.slice none 0 0] 25 (0,0))/\(w5.setCell ⟨rb,3,none⟩ (.slice tao tl tac)).ownsRow w.heap.size 63 2 (.slice tao tl tac) r.terms.length (r.terms.flatMap cT)) :=
     bH ⟨blk_setCell_same (blk_keep HA2.out.1 hx5) 3 _,(HA2.out.2.1.keep hx5).past hx6 HNe.out.1 HNe.out.2.1 HNe.out.2.2.1 HNe.out.2.2.2.1 HA2.out.2.2.2,(hx6.blk (blk_lt (blk_keep HA2.out.2.2.1 hx5)) HNe.out.2.2.2.2).trans (blk_keep HA2.out.2.2.1 hx5),by
      rw [HTt.out]
      exact ownsRow_ext (own_down g5 HA2.out.2.1.ext.size) hx6 (fun g hg e=>by have h1:=(World.ownsRow.lt g5 g hg).1; have h2:=blk_lt HA2.out.1; have e':g=rb:=e; omega)⟩
    clear hx6 hx5 g5 f3 f4 HCt HA2
    generalize w5.setCell ⟨rb,3,none⟩ (.slice tao tl tac)=w6 at *
    have o1:=cellq HA3.out.2.1.box 1 rfl
    have f0:=cellq HA3.out.1 0 rfl
    have f1:=cellq HA3.out.1 1 rfl
    have f2:=cellq HA3.out.1 2 rfl
    have f3:=cellq HA3.out.1 3 rfl
    have f4:=cellq HA3.out.1 4 rfl
    have HM4:=bH (HA3.out.2.1.keep ((Ext.refl (fun _=>False) w6).alloc (.cells #[.string nm,.int .i64 gr,.int .i64 kd,.slice tao tl tac,.int .i64 bd] 53)))
    have HY4:=bH (ownsRow_ext HA3.out.2.2.2 ((Ext.refl (fun _=>False) w6).alloc (.cells #[.string nm,.int .i64 gr,.int .i64 kd,.slice tao tl tac,.int .i64 bd] 53)) (fun _ _ e=>e))
    have HP4:=bH (blk_keep HA3.out.2.2.1 ((Ext.refl (fun _=>False) w6).alloc (.cells #[.string nm,.int .i64 gr,.int .i64 kd,.slice tao tl tac,.int .i64 bd] 53)))
    have HTo:=bH (bI HYd.out.1.2 HYd.out.2)
    go_wp2_with (at_builtin; refine wpList_append_el (f:=cRT) rfl (.tmp 34) (.tmp 36) rfl cRT_len (r,.slice tao tl tac) (cRT_one rfl) Tryz.underlying23 Tryz.infoRow rfl (by decide) (by decide) w.heap.size v prs rfl HM4.out.rrow ⟨w6.heap.size,0,none⟩ 1 rfl (by rw [HYc.out]; exact cells_new _ _ rfl) (by have:=HPl.out; omega) HM4.out.ext.size ?_; intro v' w' g1 g2 g3; obtain ⟨ao9,ac9,e9⟩:=ownsRow_shape g1; obtain ⟨ql,hql⟩:∃ n,(prs++[(r,(.slice tao tl tac:Value))]).length=n:=⟨_,rfl⟩; rw [hql] at e9; clear hql; subst e9; have HMb:=bH (HM4.out.pushR g1 g2 ⟨HY4.out,HTo.out⟩); have q1:=cellq (HM4.out.pushBox g2) 1 rfl; have q3:=free_of_cells (HM4.out.pushBox g2) 1)
    have hpz:=(g2.blk (blk_lt HP4.out) (fun e=>TyB.ne (HM4.out.tyr _ e) ⟨_,HP4.out⟩ (by decide) rfl)).trans HP4.out
    have hxz:=(Ext.refl (fun k=>k=ob) w').setCell (p:=⟨ob,1,none⟩) (.slice ao9 ql ac9) (fun _=>rfl)
    have HPy:=bH ((hxz.blk (blk_lt hpz) (fun e=>by have e2:pb+1=ob:=e; have:=HOb.out; omega)).trans hpz)
    clear g1 g2 g3 hpz hxz
    go_roundg (rn - (i+1))
    case measure=>omega
    case rel=>exact ⟨i+1,_,prs++[(r,(.slice tao tl tac:Value))],by omega,rfl,by go_num,HMb.out,by rw [List.map_append,HPm.out,HFx.out]; rfl,by rw [List.length_append]; have:=HPl.out; simp; omega,HPy.out⟩
  ·obtain rfl:rn=i:=by omega
   have o0:=cellq HM.out.box 0 rfl
   have o1:=cellq HM.out.box 1 rfl
   have q0:=cellq HPk.out 0 rfl
   have q1:=cellq HPk.out 1 rfl
   have q2:=free_of_cells HPk.out 0
   have q3:=free_of_cells HPk.out 1
   obtain ⟨vao,vac,rfl⟩:=ownsRow_shape HM.out.vown
   obtain ⟨rao,rac,e9⟩:=ownsRow_shape HM.out.rown
   obtain ⟨ql,hql⟩:∃ n,prs.length=n:=⟨_,rfl⟩
   rw [hql] at e9
   clear hql
   subst e9
   have hxz:=(((Ext.refl (fun k=>k=pb+1) wr).setCell (p:=⟨pb+1,0,none⟩) (.slice vao p.vars.length vac) (fun _=>rfl)).setCell (p:=⟨pb+1,1,none⟩) (.slice rao ql rac) (fun _=>rfl))
   have hty:TyB wr (pb+1) 25:=⟨_,HPk.out⟩
   have HF:=bH (bI (HM.out.past hxz (fun g hg=>TyB.ne (HM.out.tyv g hg) hty (by decide)) (fun g hg=>TyB.ne (HM.out.tyr g hg) hty (by decide)) (by have:=HOb.out; omega) (fun y hy g hg=>TyB.ne (own_ty (HM.out.done y hy).1 g hg) hty (by decide)) (by have:=HPb.out; omega)) (blk_setCell_same (blk_setCell_same HPk.out 0 (.slice vao p.vars.length vac)) 1 (.slice rao ql rac)))
   clear hxz hty
   go_wp2
   generalize (wr.setCell ⟨pb+1,0,none⟩ (.slice vao p.vars.length vac)).setCell ⟨pb+1,1,none⟩ (.slice rao ql rac)=w9 at *
   have g0:=cellq HF.out.2 0 rfl
   have g1:=cellq HF.out.2 1 rfl
   have HPr:=bH (HF.out.1.prg (fun x hx=>HPw.out.1.2 x hx))
   have HWo:=bH (show (⟨p.vars,prs.map (·.1)⟩:ProgV)=withoutP p d from by unfold withoutP; rw [HPm.out,<- HLn.out.2,List.take_length]; rfl)
   rw [HWo.out] at HPr
   exact bodyPost_ret (v:=.agg #[.slice vao p.vars.length vac,.slice rao ql rac]) (by simp [results,Tryz.results6,go_sem,g0,g1]) rfl ⟨_,rfl,HPr.out,HF.out.1.ext⟩
theorem Inz.take {w:World} {ao:Option Addr} {n c:Nat} {l:List Int} (h:Inz w (.slice ao n c) l) {k:Nat} (hk:k<=n):Inz w (.slice ao k c) (l.take k):=by
 obtain ⟨ao',c',e,h1,h2,h3,h4⟩:=h
 cases e
 rw [List.length_map] at h1 h4 hk
 refine ⟨ao,c,by rw [List.length_map,List.length_take,Nat.min_eq_left hk],by rw [List.length_map,List.length_take]; omega,h2,h3,fun hp=>?_⟩
 rw [List.length_map,List.length_take] at hp
 obtain ⟨b,off,e,hb,hc⟩:=h4 (by omega)
 refine ⟨b,off,e,hb,fun i r hi j u hu=>hc i r ?_ j u hu⟩
 rw [List.getElem?_map] at hi ⊢
 rw [List.getElem?_take] at hi
 split at hi
 ·exact hi
 ·cases hi
theorem Inz.drop {w:World} {b off n c:Nat} {l:List Int} (h:Inz w (.slice (some ⟨b,off,none⟩) n c) l) {k:Nat} (hk:k<=n):Inz w (.slice (some ⟨b,off+k,none⟩) (n - k) (c - k)) (l.drop k):=by
 obtain ⟨ao',c',e,h1,h2,h3,h4⟩:=h
 cases e
 rw [List.length_map] at h1 h4 hk
 refine ⟨_,c - k,by rw [List.length_map,List.length_map,List.length_drop],by rw [List.length_map,List.length_drop]; omega,by omega,(fun e=>by cases e),fun hp=>?_⟩
 rw [List.length_map,List.length_drop] at hp
 obtain ⟨b',off',e,hb,hc⟩:=h4 (by omega)
 cases e
 refine ⟨b,off+k,rfl,hb,fun i r hi j u hu=>?_⟩
 have:=hc (k+i) r (by rw [List.getElem?_map,List.getElem?_drop] at hi; rw [List.getElem?_map]; exact hi) j u hu
 rw [show off+k+i*1+j=off+(k+i)*1+j by omega]
 exact this
def Tab10 (w:World):Prop:=Lib.TabIs Tryz.prog w "internal/strconv.uint64pow10" .u64 Lib.pow10Tab
theorem Tab10.keep {w w':World} (h:Tab10 w) (hx:XF w w'):Tab10 w':=by
 unfold Tab10 Lib.TabIs World.var? at h ⊢
 cases hg:Tryz.prog.globalNamed "internal/strconv.uint64pow10" with
 | none=>rw [hg] at h; cases h
 | some g =>
  rw [hg] at h
  simp only [Option.bind_some] at h ⊢
  have hlt:g<w.heap.size:=by
   rcases Nat.lt_or_ge g w.heap.size with h' | h'
   ·exact h'
   ·rw [Array.getElem?_eq_none h'] at h; cases h
  rw [hx.block g hlt id]
  exact h
theorem ext_grow (w:World) (k:Nat) (os:Array Obj):XF w (Go.Sort.grow (w.drewN k) os):=by
 have h1:XF w (w.drewN k):=Ext.drewN (Ext.refl _ w) k
 refine h1.trans ⟨rfl,rfl,rfl,?_,fun i hi _=>?_⟩
 ·show _<=((w.drewN k).heap++os).size
  rw [Array.size_append]; omega
 ·show ((w.drewN k).heap++os)[i]?=_
  rw [Array.getElem?_append_left hi]
def numT (n:Int):ByteArray:=⟨(Lib.itoa n).toArray⟩
def StrPost (w:World) (s:ByteArray) (r:Ending) (w':World):Prop:=r=.returned (.string s)/\XF w w'
theorem numT_size {n:Int} (h:InR n):(numT n).size<=21:=Lib.itoa_length_le n h.1 h.2
theorem itoa_any (w:World) (n:Int) (hn:InR n) (ht:Tab10 w):Calls Tryz.prog 43 #[.int .i64 n] w (StrPost w (numT n)) :=
 (Tryz.strconv_Itoa n hn.1 hn.2 w ht).mono fun r w' ⟨h1,k,os,h2⟩=>⟨h1,by rw [h2]; exact ext_grow w k os⟩
theorem number_any (w:World) (n:Int) (hn:InR n) (ht:Tab10 w):Calls Tryz.prog 42 #[.int .i64 n] w (StrPost w (numT n)):=by
 have HF:=bH (Tryz.strconv_FormatInt_10 n hn.1 hn.2 w ht)
 clear hn ht
 go_enter Tryz.func42,Tryz.ntmps42
 go_wp2_with (go_at_call 64; refine HF.out.mono ?_; rintro r1 w1 ⟨rfl,k,os,rfl⟩)
 go_ret
 exact ⟨rfl,ext_grow w k os⟩
end Go.Proofs.YtlbjfkdgbhkdcaaGreatDoor
namespace Go.Proofs
open Go.Shelf
def Tryz.lays156_ren:Go.Shelf.Ren:=⟨fun | 156=>66 | 165=>85 | 166=>86 | 169=>87 | 240=>111 | 241=>112 | 276=>130 | 277=>131 | n=>n,fun | 31=>56 | 9=>9 | 3=>3 | 4=>4 | 0=>0 | 20=>20 | 72=>121 | 76=>125 | 70=>118 | 37=>119 | 75=>124 | 127=>151 | 164=>166 | 5=>5 | 80=>127 | n=>n,fun | n=>n⟩
theorem Tryz.lays156:Go.Proofs.Lays.n156 Tryz.prog Tryz.lays156_ren:={
 mixed:=by kernel_rfl
 f156:=Tryz.func66.trans (congrArg some (by kernel_rfl))
 f165:=Tryz.func85.trans (congrArg some (by kernel_rfl))
 f166:=Tryz.func86.trans (congrArg some (by kernel_rfl))
 f169:=Tryz.func87.trans (congrArg some (by kernel_rfl))
 f240:=Tryz.func111.trans (congrArg some (by kernel_rfl))
 f241:=Tryz.func112.trans (congrArg some (by kernel_rfl))
 f276:=Tryz.func130.trans (congrArg some (by kernel_rfl))
 f277:=Tryz.func131.trans (congrArg some (by kernel_rfl))
 t0:=Tryz.underlying0
 a0:=Tryz.isAgg0
 z0:=Tryz.sizeOf0
 v0:=Tryz.zeroValue0
 t3:=Tryz.underlying3
 a3:=Tryz.isAgg3
 z3:=Tryz.sizeOf3
 v3:=Tryz.zeroValue3
 t4:=Tryz.underlying4
 a4:=Tryz.isAgg4
 z4:=Tryz.sizeOf4
 v4:=Tryz.zeroValue4
 t9:=Tryz.underlying9
 a9:=Tryz.isAgg9
 z9:=Tryz.sizeOf9
 v9:=Tryz.zeroValue9
 t20:=Tryz.underlying20
 a20:=Tryz.isAgg20
 z20:=Tryz.sizeOf20
 v20:=Tryz.zeroValue20
 t31:=Tryz.underlying56
 a31:=Tryz.isAgg56
 z31:=Tryz.sizeOf56
 v31:=Tryz.zeroValue56
 t37:=Tryz.underlying119
 a37:=Tryz.isAgg119
 z37:=Tryz.sizeOf119
 v37:=Tryz.zeroValue119
 t70:=Tryz.underlying118
 a70:=Tryz.isAgg118
 z70:=Tryz.sizeOf118
 v70:=Tryz.zeroValue118
 t72:=Tryz.underlying121
 a72:=Tryz.isAgg121
 z72:=Tryz.sizeOf121
 v72:=Tryz.zeroValue121
 t75:=Tryz.underlying124
 a75:=Tryz.isAgg124
 z75:=Tryz.sizeOf124
 v75:=Tryz.zeroValue124
 t76:=Tryz.underlying125
 a76:=Tryz.isAgg125
 z76:=Tryz.sizeOf125
 v76:=Tryz.zeroValue125
 t127:=Tryz.underlying151
 a127:=Tryz.isAgg151
 z127:=Tryz.sizeOf151
 v127:=Tryz.zeroValue151
 t164:=Tryz.underlying166
 a164:=Tryz.isAgg166
 z164:=Tryz.sizeOf166
 v164:=Tryz.zeroValue166 }
theorem Tryz.Builder_Extra_156:Builder.Extra Tryz.prog Tryz.lays156_ren:={
 sizeBuilder:=by kernel_rfl
 liesBuilder:=by kernel_rfl
 t5:=Tryz.underlying5
 a5:=Tryz.isAgg5
 z5:=Tryz.sizeOf5
 v5:=Tryz.zeroValue5
 infoByte:=by kernel_rfl
 cellsByte:=by kernel_rfl
 sizeByte:=by kernel_rfl
 neB5:=by decide }
open Go.RowKit in
theorem Tryz.strings_Join (bk o c:Nat) (xs:List ByteArray) (sep:ByteArray) (w:World) (hcells:∀ (j:Nat) x,xs[j]?=some x->w.cell? ⟨bk,o+j,none⟩=some (.string x)) (hbk:bk<w.heap.size) (hN:xs.length<=140737488355328) (hcap:xs.length<=c) (hlen:(Lib.join (xs.map (·.data.toList)) sep.data.toList).length<=140737488355328) :
  Calls Tryz.prog 66 #[.slice (some ⟨bk,o,none⟩) xs.length c,.string sep] w fun e w'=>e=.returned (.string ⟨(Lib.join (xs.map (·.data.toList)) sep.data.toList).toArray⟩)/\Below w.heap.size w w':=Any.strings_Join Tryz.lays156 Tryz.Builder_Extra_156 bk o c xs sep w hcells hbk hN hcap hlen
end Go.Proofs
namespace Go.Proofs.YtlbjfkdgbhkdcaaGreatDoor
open Go.RowKit Go.MapKept
open Go.ChangeMaps (setBlock)
theorem Tryz.infoString:(Tryz.prog.info? 9).map (fun i=>(i.zero,i.size,i.bytes))=some (some (.string ⟨#[]⟩),1,16):=by kernel_rfl
def cS (s:ByteArray):List Value:=[.string s]
def SRow (w:World) (base:Nat) (v:Value) (l:List ByteArray):Prop:=w.ownsRow base 9 1 v l.length (l.map Value.string)
theorem SRow.keep {w w':World} {base:Nat} {v:Value} {l:List ByteArray} (h:SRow w base v l) (hx:XF w w'):SRow w' base v l:=ownsRow_ext h hx (fun _ _ e=>e)
theorem wpList_appS {w:World} {ops:Array Oper} {rest:List Oper} {o:Oper} {a:Act} {Q:Exit->Act->World->Prop} (hgd:o.guard=none) (s x:Operand)
  (ho:o.op=.call { callee:=.builtin .append,args:=#[s,x],argTypes:=#[56,56] }) (base:Nat) (v:Value) (l:List ByteArray) (hs:a.eval s=v) (hown:SRow w base v l) (y:ByteArray) {b:Nat} {c:Nat} (hx:a.eval x=.slice (some ⟨b,0,none⟩) 1 c) (hc:w.cell? ⟨b,0,none⟩=some (.string y)) (hl:l.length<=100000) (hbase:base<=w.heap.size)
  (h:∀ v' w',SRow w' base v' (l++[y])->Ext (fun k=>v.ownBlock=some k) w w'->wpList Tryz.prog ops Q rest (a.put o.dst v') w') :
  wpList Tryz.prog ops Q (o :: rest) a w:=by
 obtain ⟨i0,hi0,hz0,hz1,hz2⟩:=info_parts Tryz.infoString
 refine wpList_append_any hgd s x 56 ho base 9 i0 _ 1 16 Tryz.underlying56 hi0 hz0 hz1 hz2 rfl (by decide) v l.length (l.map Value.string) hs hown (some ⟨b,0,none⟩) 1 c (fun e=>by cases e) [.string y] hx rfl (.inr ⟨_,rfl,fun j u hu=>?_⟩) (fun u hu=>by simp at hu; subst hu; rfl) (by unfold maxLen; omega) (by omega) hbase (fun v' w' g1 g2 g3=>h v' w' ?_ ?_)
 ·match j,hu with
  | 0,hu =>
   cases hu
   rw [Addr.add_lit]
   exact hc
  | j+1,hu=>simp at hu
 ·unfold SRow
  rw [List.length_append,List.map_append]
  exact g1
 ·exact (Ext.refl (fun k=>v.ownBlock=some k) w).grown g2 (fun k hk _=>hk)
theorem SRow.cells {w:World} {base:Nat} {v:Value} {l:List ByteArray} (h:SRow w base v l) (h0:0<l.length):∃ b c,v=.slice (some ⟨b,0,none⟩) l.length c/\l.length<=c/\b<w.heap.size/\base<=b/\∀ (j:Nat) x,l[j]?=some x->w.cell? ⟨b,j,none⟩=some (.string x):=by
 rcases h.2 with ⟨_,e⟩ | ⟨g,cap,cur,rfl,k1,k2,k3,k4,k5,k6⟩
 ·omega
 ·refine ⟨g,cap,rfl,k3,blk_lt k2,k1,fun j x hx=>?_⟩
  have hj:j<l.length:=(List.getElem?_eq_some_iff.1 hx).1
  rw [cell_of_cells k2,<- Array.getElem?_toList]
  have h2:(cur.toList.take (l.length*1))[j]?=some (.string x):=by
   rw [k6,List.getElem?_map,hx]; rfl
  rw [List.getElem?_take_of_lt (by omega)] at h2
  exact h2
def xT (t:TermV):ByteArray:=⟨#[120]⟩++numT t.var
def absI (n:Int):Int:=if n<0 then -n else n
def yT (t:TermV):ByteArray:=if absI t.coef=1 then xT t else numT (absI t.coef)++⟨#[32]⟩++xT t
def termT (i:Nat) (t:TermV):ByteArray:=if i=0 then (if t.coef<0 then ⟨#[45]⟩++yT t else yT t) else if t.coef<0 then ⟨#[45,32]⟩++yT t else ⟨#[43,32]⟩++yT t
def partsT (ts:List TermV) (k:Nat):List ByteArray:=(List.range k).map fun i=>termT i (ts.getD i term0)
def termsT (ts:List TermV):ByteArray:=if ts=[] then ⟨#[48]⟩ else ⟨(Lib.join ((partsT ts ts.length).map (·.data.toList)) [32]).toArray⟩
theorem partsT_len (ts:List TermV) (k:Nat):(partsT ts k).length=k:=by simp [partsT]
theorem partsT_next (ts:List TermV) (k:Nat):partsT ts (k+1)=partsT ts k++[termT k (ts.getD k term0)]:=by
 unfold partsT
 rw [List.range_succ,List.map_append]; rfl
theorem app_size (a b:ByteArray):(a++b).size=a.size+b.size:=ByteArray.size_append
theorem absI_in {n:Int} (h:limB n=true):InR (absI n)/\absI n<=1099511627776/\0<=absI n:=by
 unfold limB at h
 simp only [Bool.and_eq_true,decide_eq_true_eq] at h
 unfold absI InR
 split <;> omega
theorem termT_size {i:Nat} {t:TermV} (hv:InR t.var) (hc:limB t.coef=true):(termT i t).size<=50:=by
 have h1:=numT_size hv
 have h2:=numT_size (absI_in hc).1
 have hx:(xT t).size<=22:=by unfold xT; rw [app_size]; show 1+_<=_; omega
 have hy:(yT t).size<=44:=by
  unfold yT
  split
  ·omega
  ·rw [app_size,app_size]; show _+1+_<=_; omega
 unfold termT
 split <;> split <;> first | omega | (rw [app_size]; show 1+_<=_; omega) | (rw [app_size]; show 2+_<=_; omega)
theorem join_le {l:List (List UInt8)} {c:Nat}:(∀ x ∈ l,x.length<=c)->(Lib.join l [32]).length<=l.length*(c+1):=by
 intro h
 cases l with
 | nil=>simp [Lib.join]
 | cons x r =>
  have hl:∀ l:List (List UInt8),(∀ x ∈ l,x.length<=c)->Lib.lens l<=l.length*c:=by
   intro l
   induction l with
   | nil=>intro _; simp [Lib.lens]
   | cons y l ih =>
    intro hy
    have h1:=ih fun x hx=>hy x (List.mem_cons_of_mem _ hx)
    have h2:=hy y (List.mem_cons_self ..)
    simp only [Lib.lens,List.map_cons,List.sum_cons,List.length_cons] at h1 ⊢
    rw [Nat.succ_mul]; omega
  have h1:=hl (x :: r) h
  rw [Lib.join_length]
  have h2:(x :: r).length=r.length+1:=rfl
  generalize Lib.lens (x :: r)=z at *
  rw [h2] at h1 ⊢
  rw [Nat.mul_succ]
  show 1*r.length+_<=_
  omega
theorem terms_any (w:World) (tv:Value) (ts:List TermV) (h:Tms w tv ts) (hl:ts.length<=1000) (hc:∀ t ∈ ts,limB t.coef=true) (ht:Tab10 w):Calls Tryz.prog 44 #[tv] w (StrPost w (termsT ts)):=by
 obtain ⟨ao,c,rfl,-⟩:=id h.1
 rw [List.length_map] at h ⊢
 have HT:=bH (bI h (bI hc ht))
 obtain ⟨n,hn⟩:∃ n,ts.length=n:=⟨_,rfl⟩
 have HN:=bH hn
 rw [hn] at HT hl ⊢
 clear h hc ht hn
 have HNu:=bH (fun W m (hW:XF w W) (hm:InR m)=>number_any W m hm (HT.out.2.2.keep hW))
 have HIt:=bH (fun W m (hW:XF w W) (hm:InR m)=>itoa_any W m hm (HT.out.2.2.keep hW))
 go_enter Tryz.func44,Tryz.ntmps44
 go_upto_region 2 with fail
 go_wp2_with fail
 go_loopg [11,3,4,5,6,7,8] n (fun gg v11 v3 v4 v5 v6 v7 v8 wr=>∃ (k:Nat) (v:Value),k<=n/\gg=n - k/\v11=.int .i64 k/\v=v3/\SRow wr w.heap.size v (partsT ts k)/\XF w wr)
 case atStart=>exact ⟨0,_,Nat.zero_le _,rfl,rfl,rfl,World.ownsRow_nil _ _ _ 1,Ext.refl _ _⟩
 case round =>
  obtain ⟨k,v,hk,rfl,rfl,rfl,hs,hx⟩:=hrel
  have HR:=bH (bI hs hx)
  clear hs hx
  by_cases hkn:k<n
  ·have k0:(k:Int)<(n:Int):=by omega
   have k1:(0:Int)<=(k:Int):=by omega
   obtain ⟨b,off,rfl,hlt,e0,e1,hok⟩:=(HT.out.1.keep HR.out.2).at k (by rw [HN.out]; exact hkn)
   have hmem:ts.getD k term0 ∈ ts:=by rw [getD_lt (by rw [HN.out]; exact hkn) term0]; exact List.getElem_mem _
   have hlc:=absI_in (HT.out.2.1 _ hmem)
   have hlb:=HT.out.2.1 _ hmem
   unfold limB at hlb
   simp only [Bool.and_eq_true,decide_eq_true_eq] at hlb
   have hvr:=hok.var
   have HPn:=bH (partsT_next ts k)
   obtain ⟨t,htt⟩:∃ t,ts.getD k term0=t:=⟨_,rfl⟩
   rw [htt] at e0 e1 hlb hvr HPn
   obtain ⟨tv,htv⟩:∃ x,t.var=x:=⟨_,rfl⟩
   obtain ⟨tc,htc⟩:∃ x,t.coef=x:=⟨_,rfl⟩
   rw [htv] at e0 hvr
   rw [htc] at e1 hlb
   have HV:=bH (bI htv htc)
   obtain ⟨hb1,hb2⟩:=hlb
   clear hok hmem hlc htt htv htc
   have hxa:=(Ext.refl (fun _=>False) wr).alloc (.cells #[.int .i64 tv,.int .i64 tc] 63)
   have HB:=bH (bI (blk_alloc_at wr (.cells #[.int .i64 tv,.int .i64 tc] 63)) (bI (HR.out.1.keep hxa) (HR.out.2.trans hxa)))
   clear hxa hlt
   go_upto_region 5 with fail
   generalize wr.alloc (.cells #[.int .i64 tv,.int .i64 tc] 63)=w4 at *
   generalize wr.heap.size=tb at *
   clear e0 e1
   have e0:=cq (cellq HB.out.1 0 rfl)
   have e1:=cq (cellq HB.out.1 1 rfl)
   have hs1:=numT_size hvr
   have hq1:¬ 9223372036854775807<1+(numT tv).size:=by omega
   have hvr2:=hvr
   have HIt2:=bH (fun W (hW:XF w4 W)=>HIt.out W tv (HB.out.2.2.trans hW) hvr2)
   have HNu2:=bH (fun W m (hW:XF w4 W) (hm:InR m)=>HNu.out W m (HB.out.2.2.trans hW) hm)
   clear hvr2
   refine wp_region_held_drew (S:=(XF w4)) (by kernel_rfl) ((Ext.refl _ w4).drew) (fun hHeld=>?_)
   refine ht 0 (h:=(ht 1 (h:=(ht 4 (h:=(ht 5 (h:=(ht 6 (h:=?_)))))))))
   (try go_frame)
   refine hst 2 (h:=fun K hK=>?_)
   (go_simp; go_at_call 43; (with_reducible refine (HIt2.out _ (hHeld:XF w4 _)).mono ?_); rintro q1 w11 ⟨rfl,hx11⟩; have hX1:=hHeld.trans hx11)
   refine hK.out _ _ (hX1) (fun hHeld=>?_)
   clear hK K
   (try go_frame)
   refine ht 3 (h:=(ht 7 (h:=(ht 8 (h:=?_)))))
   (try go_frame)
   refine wpAnyH_done (by kernel_rfl) ?_ _
   have HW:=bH (bI (HB.out.2.1.keep hX1) (bI (HB.out.2.2.trans hX1) hX1))
   have hle1:w.heap.size<=w11.heap.size+1:=by have:=HW.out.2.1.size; omega
   have c0:=cellq (blk_keep HB.out.1 hX1) 0 rfl
   have c1:=cellq (blk_keep HB.out.1 hX1) 1 rfl
   clear e0 e1 hHeld hx11 hX1 HIt2 HNu HIt
   by_cases hk0:k=0
   ·subst hk0
    by_cases hc:tc<0
    ·by_cases h1:absI tc=1
     ·have hab:absI tc = -tc:=if_pos hc
      rw [hab] at h1
      have hm:max tc (-tc) = -tc:=by omega
      obtain rfl:tc = -1:=by omega
      have HZ:=bH (show termT 0 t=⟨#[45]⟩++(⟨#[120]⟩++numT tv) from by unfold termT yT xT; rw [HV.out.1,HV.out.2]; rw [if_pos rfl]; rw [if_pos (by omega)]; rw [if_pos (by rw [hab]; first | done | rfl)])
      have hq4:¬ 9223372036854775807<1+(1+(numT tv).size):=by omega
      go_wp2_with (first | (at_builtin; refine wpList_appS rfl (.tmp 57) (.tmp 59) rfl w.heap.size v (partsT ts 0) rfl (HW.out.1.keep (((Ext.refl (fun _=>False) w11).alloc _))) (⟨#[45]⟩++(⟨#[120]⟩++numT tv)) rfl (cellq (blk_alloc_at w11 _) 0 rfl) (by rw [partsT_len]; omega) (by rw [World.size_alloc]; exact hle1) ?_; intro v9 w9 hs9 hx9))
      have hlow:=(World.ownsRow.lt HW.out.1)
      have hx0:=(HW.out.2.1.trans (((Ext.refl (fun _=>False) w11).alloc (.cells #[.string (⟨#[45]⟩++(⟨#[120]⟩++numT tv))] 9)))).own hx9 (fun k hk=>(hlow k hk).1)
      rw [<- HZ.out,<- HPn.out] at hs9
      clear hx9 hlow
      go_wp2
      go_roundg (n - (0+1))
      case measure=>omega
      case rel=>exact ⟨0+1,_,by omega,rfl,by go_num,rfl,hs9,hx0⟩
     ·have hab:absI tc = -tc:=if_pos hc
      rw [hab] at h1
      have hm:max tc (-tc) = -tc:=by omega
      have HZ:=bH (show termT 0 t=⟨#[45]⟩++(numT (-tc)++⟨#[32]⟩++(⟨#[120]⟩++numT tv)) from by unfold termT yT xT; rw [HV.out.1,HV.out.2]; rw [if_pos rfl]; rw [if_pos (by omega)]; rw [if_neg (by rw [hab]; exact h1)]; rw [hab])
      have hs2:=numT_size (n:=-tc) (by unfold InR; omega)
      have hq2:¬ 9223372036854775807<(numT (-tc)).size+1:=by omega
      have hq3:¬ 9223372036854775807<(numT (-tc)).size+1+(1+(numT tv).size):=by omega
      have hq4:¬ 9223372036854775807<1+((numT (-tc)).size+1+(1+(numT tv).size)):=by omega
      go_wp2_with (first | (go_at_call 42; refine (HNu2.out w11 (-tc) HW.out.2.2 (by unfold InR; omega)).mono ?_; rintro q2 w12 ⟨rfl,hx12⟩; have hle2:w.heap.size<=w12.heap.size+1:=by have:=hx12.size; omega) | (at_builtin; refine wpList_appS rfl (.tmp 57) (.tmp 59) rfl w.heap.size v (partsT ts 0) rfl (HW.out.1.keep (hx12.trans ((Ext.refl (fun _=>False) w12).alloc _))) (⟨#[45]⟩++(numT (-tc)++⟨#[32]⟩++(⟨#[120]⟩++numT tv))) rfl (cellq (blk_alloc_at w12 _) 0 rfl) (by rw [partsT_len]; omega) (by rw [World.size_alloc]; exact hle2) ?_; intro v9 w9 hs9 hx9))
      have hlow:=(World.ownsRow.lt HW.out.1)
      have hx0:=(HW.out.2.1.trans (hx12.trans ((Ext.refl (fun _=>False) w12).alloc (.cells #[.string (⟨#[45]⟩++(numT (-tc)++⟨#[32]⟩++(⟨#[120]⟩++numT tv)))] 9)))).own hx9 (fun k hk=>(hlow k hk).1)
      rw [<- HZ.out,<- HPn.out] at hs9
      clear hx9 hlow
      go_wp2
      go_roundg (n - (0+1))
      case measure=>omega
      case rel=>exact ⟨0+1,_,by omega,rfl,by go_num,rfl,hs9,hx0⟩
    ·by_cases h1:absI tc=1
     ·have hab:absI tc=tc:=if_neg hc
      rw [hab] at h1
      have hm:max tc (-tc)=tc:=by omega
      subst h1
      have HZ:=bH (show termT 0 t=⟨#[120]⟩++numT tv from by unfold termT yT xT; rw [HV.out.1,HV.out.2]; rw [if_pos rfl]; rw [if_neg (by omega)]; rw [if_pos (by rw [hab])])
      go_wp2_with (first | (at_builtin; refine wpList_appS rfl (.tmp 57) (.tmp 59) rfl w.heap.size v (partsT ts 0) rfl (HW.out.1.keep (((Ext.refl (fun _=>False) w11).alloc _))) (⟨#[120]⟩++numT tv) rfl (cellq (blk_alloc_at w11 _) 0 rfl) (by rw [partsT_len]; omega) (by rw [World.size_alloc]; exact hle1) ?_; intro v9 w9 hs9 hx9))
      have hlow:=(World.ownsRow.lt HW.out.1)
      have hx0:=(HW.out.2.1.trans (((Ext.refl (fun _=>False) w11).alloc (.cells #[.string (⟨#[120]⟩++numT tv)] 9)))).own hx9 (fun k hk=>(hlow k hk).1)
      rw [<- HZ.out,<- HPn.out] at hs9
      clear hx9 hlow
      go_wp2
      go_roundg (n - (0+1))
      case measure=>omega
      case rel=>exact ⟨0+1,_,by omega,rfl,by go_num,rfl,hs9,hx0⟩
     ·have hab:absI tc=tc:=if_neg hc
      rw [hab] at h1
      have hm:max tc (-tc)=tc:=by omega
      have HZ:=bH (show termT 0 t=numT (tc)++⟨#[32]⟩++(⟨#[120]⟩++numT tv) from by unfold termT yT xT; rw [HV.out.1,HV.out.2]; rw [if_pos rfl]; rw [if_neg (by omega)]; rw [if_neg (by rw [hab]; exact h1)]; rw [hab])
      have hs2:=numT_size (n:=tc) (by unfold InR; omega)
      have hq2:¬ 9223372036854775807<(numT (tc)).size+1:=by omega
      have hq3:¬ 9223372036854775807<(numT (tc)).size+1+(1+(numT tv).size):=by omega
      go_wp2_with (first | (go_at_call 42; refine (HNu2.out w11 (tc) HW.out.2.2 (by unfold InR; omega)).mono ?_; rintro q2 w12 ⟨rfl,hx12⟩; have hle2:w.heap.size<=w12.heap.size+1:=by have:=hx12.size; omega) | (at_builtin; refine wpList_appS rfl (.tmp 57) (.tmp 59) rfl w.heap.size v (partsT ts 0) rfl (HW.out.1.keep (hx12.trans ((Ext.refl (fun _=>False) w12).alloc _))) (numT (tc)++⟨#[32]⟩++(⟨#[120]⟩++numT tv)) rfl (cellq (blk_alloc_at w12 _) 0 rfl) (by rw [partsT_len]; omega) (by rw [World.size_alloc]; exact hle2) ?_; intro v9 w9 hs9 hx9))
      have hlow:=(World.ownsRow.lt HW.out.1)
      have hx0:=(HW.out.2.1.trans (hx12.trans ((Ext.refl (fun _=>False) w12).alloc (.cells #[.string (numT (tc)++⟨#[32]⟩++(⟨#[120]⟩++numT tv))] 9)))).own hx9 (fun k hk=>(hlow k hk).1)
      rw [<- HZ.out,<- HPn.out] at hs9
      clear hx9 hlow
      go_wp2
      go_roundg (n - (0+1))
      case measure=>omega
      case rel=>exact ⟨0+1,_,by omega,rfl,by go_num,rfl,hs9,hx0⟩
   ·have k2:¬ ((k:Int)=0):=by omega
    have k3:(0:Int)<(k:Int):=by omega
    have k4:((k:Int) == 0)=false:=by simpa using k2
    by_cases hc:tc<0
    ·by_cases h1:absI tc=1
     ·have hab:absI tc = -tc:=if_pos hc
      rw [hab] at h1
      have hm:max tc (-tc) = -tc:=by omega
      obtain rfl:tc = -1:=by omega
      have HZ:=bH (show termT k t=⟨#[45,32]⟩++(⟨#[120]⟩++numT tv) from by unfold termT yT xT; rw [HV.out.1,HV.out.2]; rw [if_neg hk0]; rw [if_pos (by omega)]; rw [if_pos (by rw [hab]; first | done | rfl)])
      have hq4:¬ 9223372036854775807<2+(1+(numT tv).size):=by omega
      go_wp2_with (first | (at_builtin; refine wpList_appS rfl (.tmp 57) (.tmp 59) rfl w.heap.size v (partsT ts k) rfl (HW.out.1.keep (((Ext.refl (fun _=>False) w11).alloc _))) (⟨#[45,32]⟩++(⟨#[120]⟩++numT tv)) rfl (cellq (blk_alloc_at w11 _) 0 rfl) (by rw [partsT_len]; omega) (by rw [World.size_alloc]; exact hle1) ?_; intro v9 w9 hs9 hx9))
      have hlow:=(World.ownsRow.lt HW.out.1)
      have hx0:=(HW.out.2.1.trans (((Ext.refl (fun _=>False) w11).alloc (.cells #[.string (⟨#[45,32]⟩++(⟨#[120]⟩++numT tv))] 9)))).own hx9 (fun k hk=>(hlow k hk).1)
      rw [<- HZ.out,<- HPn.out] at hs9
      clear hx9 hlow
      go_wp2
      go_roundg (n - (k+1))
      case measure=>omega
      case rel=>exact ⟨k+1,_,by omega,rfl,by go_num,rfl,hs9,hx0⟩
     ·have hab:absI tc = -tc:=if_pos hc
      rw [hab] at h1
      have hm:max tc (-tc) = -tc:=by omega
      have HZ:=bH (show termT k t=⟨#[45,32]⟩++(numT (-tc)++⟨#[32]⟩++(⟨#[120]⟩++numT tv)) from by unfold termT yT xT; rw [HV.out.1,HV.out.2]; rw [if_neg hk0]; rw [if_pos (by omega)]; rw [if_neg (by rw [hab]; exact h1)]; rw [hab])
      have hs2:=numT_size (n:=-tc) (by unfold InR; omega)
      have hq2:¬ 9223372036854775807<(numT (-tc)).size+1:=by omega
      have hq3:¬ 9223372036854775807<(numT (-tc)).size+1+(1+(numT tv).size):=by omega
      have hq4:¬ 9223372036854775807<2+((numT (-tc)).size+1+(1+(numT tv).size)):=by omega
      go_wp2_with (first | (go_at_call 42; refine (HNu2.out w11 (-tc) HW.out.2.2 (by unfold InR; omega)).mono ?_; rintro q2 w12 ⟨rfl,hx12⟩; have hle2:w.heap.size<=w12.heap.size+1:=by have:=hx12.size; omega) | (at_builtin; refine wpList_appS rfl (.tmp 57) (.tmp 59) rfl w.heap.size v (partsT ts k) rfl (HW.out.1.keep (hx12.trans ((Ext.refl (fun _=>False) w12).alloc _))) (⟨#[45,32]⟩++(numT (-tc)++⟨#[32]⟩++(⟨#[120]⟩++numT tv))) rfl (cellq (blk_alloc_at w12 _) 0 rfl) (by rw [partsT_len]; omega) (by rw [World.size_alloc]; exact hle2) ?_; intro v9 w9 hs9 hx9))
      have hlow:=(World.ownsRow.lt HW.out.1)
      have hx0:=(HW.out.2.1.trans (hx12.trans ((Ext.refl (fun _=>False) w12).alloc (.cells #[.string (⟨#[45,32]⟩++(numT (-tc)++⟨#[32]⟩++(⟨#[120]⟩++numT tv)))] 9)))).own hx9 (fun k hk=>(hlow k hk).1)
      rw [<- HZ.out,<- HPn.out] at hs9
      clear hx9 hlow
      go_wp2
      go_roundg (n - (k+1))
      case measure=>omega
      case rel=>exact ⟨k+1,_,by omega,rfl,by go_num,rfl,hs9,hx0⟩
    ·by_cases h1:absI tc=1
     ·have hab:absI tc=tc:=if_neg hc
      rw [hab] at h1
      have hm:max tc (-tc)=tc:=by omega
      subst h1
      have HZ:=bH (show termT k t=⟨#[43,32]⟩++(⟨#[120]⟩++numT tv) from by unfold termT yT xT; rw [HV.out.1,HV.out.2]; rw [if_neg hk0]; rw [if_neg (by omega)]; rw [if_pos (by rw [hab])])
      have hq4:¬ 9223372036854775807<2+(1+(numT tv).size):=by omega
      go_wp2_with (first | (at_builtin; refine wpList_appS rfl (.tmp 57) (.tmp 59) rfl w.heap.size v (partsT ts k) rfl (HW.out.1.keep (((Ext.refl (fun _=>False) w11).alloc _))) (⟨#[43,32]⟩++(⟨#[120]⟩++numT tv)) rfl (cellq (blk_alloc_at w11 _) 0 rfl) (by rw [partsT_len]; omega) (by rw [World.size_alloc]; exact hle1) ?_; intro v9 w9 hs9 hx9))
      have hlow:=(World.ownsRow.lt HW.out.1)
      have hx0:=(HW.out.2.1.trans (((Ext.refl (fun _=>False) w11).alloc (.cells #[.string (⟨#[43,32]⟩++(⟨#[120]⟩++numT tv))] 9)))).own hx9 (fun k hk=>(hlow k hk).1)
      rw [<- HZ.out,<- HPn.out] at hs9
      clear hx9 hlow
      go_wp2
      go_roundg (n - (k+1))
      case measure=>omega
      case rel=>exact ⟨k+1,_,by omega,rfl,by go_num,rfl,hs9,hx0⟩
     ·have hab:absI tc=tc:=if_neg hc
      rw [hab] at h1
      have hm:max tc (-tc)=tc:=by omega
      have HZ:=bH (show termT k t=⟨#[43,32]⟩++(numT (tc)++⟨#[32]⟩++(⟨#[120]⟩++numT tv)) from by unfold termT yT xT; rw [HV.out.1,HV.out.2]; rw [if_neg hk0]; rw [if_neg (by omega)]; rw [if_neg (by rw [hab]; exact h1)]; rw [hab])
      have hs2:=numT_size (n:=tc) (by unfold InR; omega)
      have hq2:¬ 9223372036854775807<(numT (tc)).size+1:=by omega
      have hq3:¬ 9223372036854775807<(numT (tc)).size+1+(1+(numT tv).size):=by omega
      have hq4:¬ 9223372036854775807<2+((numT (tc)).size+1+(1+(numT tv).size)):=by omega
      go_wp2_with (first | (go_at_call 42; refine (HNu2.out w11 (tc) HW.out.2.2 (by unfold InR; omega)).mono ?_; rintro q2 w12 ⟨rfl,hx12⟩; have hle2:w.heap.size<=w12.heap.size+1:=by have:=hx12.size; omega) | (at_builtin; refine wpList_appS rfl (.tmp 57) (.tmp 59) rfl w.heap.size v (partsT ts k) rfl (HW.out.1.keep (hx12.trans ((Ext.refl (fun _=>False) w12).alloc _))) (⟨#[43,32]⟩++(numT (tc)++⟨#[32]⟩++(⟨#[120]⟩++numT tv))) rfl (cellq (blk_alloc_at w12 _) 0 rfl) (by rw [partsT_len]; omega) (by rw [World.size_alloc]; exact hle2) ?_; intro v9 w9 hs9 hx9))
      have hlow:=(World.ownsRow.lt HW.out.1)
      have hx0:=(HW.out.2.1.trans (hx12.trans ((Ext.refl (fun _=>False) w12).alloc (.cells #[.string (⟨#[43,32]⟩++(numT (tc)++⟨#[32]⟩++(⟨#[120]⟩++numT tv)))] 9)))).own hx9 (fun k hk=>(hlow k hk).1)
      rw [<- HZ.out,<- HPn.out] at hs9
      clear hx9 hlow
      go_wp2
      go_roundg (n - (k+1))
      case measure=>omega
      case rel=>exact ⟨k+1,_,by omega,rfl,by go_num,rfl,hs9,hx0⟩
  ·obtain rfl:n=k:=by omega
   by_cases h0:n=0
   ·subst h0
    have hts:ts=[]:=List.eq_nil_of_length_eq_zero HN.out
    obtain ⟨ao',ac',rfl⟩:∃ ao ac,v=.slice ao 0 ac:=by
     obtain ⟨a1,c1,e⟩:=ownsRow_shape HR.out.1
     rw [partsT_len] at e
     exact ⟨a1,c1,e⟩
    go_wp2
    go_ret
    exact ⟨by rw [hts]; rfl,HR.out.2⟩
   ·obtain ⟨g,gc,rfl,hcg,hlt,hlo,hcells⟩:=HR.out.1.cells (by rw [partsT_len]; omega)
    rw [partsT_len] at hcg ⊢
    have n0:¬ ((n:Int)=0):=by omega
    have n1:((n:Int) == 0)=false:=by simpa using n0
    have n2:decide ((n:Int)=0)=false:=by simpa using n0
    have HJ:=bH (Tryz.strings_Join g 0 gc (partsT ts n) ⟨#[32]⟩ wr (fun j x hx=>by rw [Nat.zero_add]; exact hcells j x hx) hlt (by rw [partsT_len]; omega) (by rw [partsT_len]; exact hcg) (by
     refine Nat.le_trans (join_le (c:=50) (fun x hx=>?_)) ?_
     ·obtain ⟨y,hy,rfl⟩:=List.mem_map.1 hx
      obtain ⟨i,hi,rfl⟩:=List.mem_map.1 hy
      have hin:i<ts.length:=by rw [HN.out]; exact List.mem_range.1 hi
      have hm:ts.getD i term0 ∈ ts:=by rw [getD_lt hin term0]; exact List.getElem_mem _
      exact termT_size (HT.out.1.2 _ hm).var (HT.out.2.1 _ hm)
     ·rw [List.length_map,partsT_len]; omega))
    rw [partsT_len] at HJ
    clear hcells
    go_wp2_with (go_at_call 66; refine HJ.out.mono ?_; rintro q2 w12 ⟨rfl,hx12⟩)
    go_ret
    exact ⟨by unfold termsT; rw [if_neg (fun e=>h0 (by rw [<- HN.out,e]; rfl)),HN.out]; rfl,HR.out.2.trans (Below.ext hx12)⟩
end Go.Proofs.YtlbjfkdgbhkdcaaGreatDoor
