/-
  Texts of the proof, part 1. Conditions: each lemma names its own.
-/
import Derived.Test.YtjaldknfeojjkaaGreatZ10
import Derived.Test.YtjaldknfeojjkaaGreatZ5
import Derived.Test.YtjaldknfeojjkaaGreatZ6
import Derived.Test.YtjaldknfeojjkaaGreatZ7
import Derived.Maps.RangeWalk
set_option linter.unusedVariables false
set_option linter.unusedSimpArgs false
set_option maxRecDepth 100000
set_option maxHeartbeats 16000000
namespace Go.Proofs.YtjaldknfeojjkaaGreat
open Go.RowKit Go.MapKept
open Go.ChangeMaps (setBlock)
theorem ratC_list {w:World} {L:Nat}:∀ (cs:List (List Value)) (l:List Rat),cs.length=l.length->(∀ (i:Nat) c q,cs[i]?=some c->l[i]?=some q->Rrat w (.agg c.toArray) q L)->∃ ks:List RatC,cs=ks.map RatC.cells
 | [],_,_,_=>⟨[],rfl⟩
 | c :: cs,[],h,_=>by simp at h
 | c :: cs,q :: l,h,hr=>by
  obtain ⟨ks,rfl⟩:=ratC_list cs l (by simpa using h) (fun i c q h1 h2=>hr (i+1) c q (by simpa using h1) (by simpa using h2))
  obtain ⟨n1,a1,l1,c1,x1,y1,k1,_,_,e,_⟩:=(hr 0 c q rfl rfl).open
  refine ⟨⟨n1,a1,l1,c1,x1,y1,k1⟩ :: ks,?_⟩
  have e2:c.toArray=#[.bool n1,.slice a1 l1 c1,.slice x1 y1 k1]:=by injection e
  have e3:=congrArg Array.toList e2
  simp at e3
  rw [e3]; rfl
section
variable {P:Program}
theorem append_noDig' (w:World) (base:Nat) (t ty e:TypeId) (i:TypeInfo) (z:Value) (ht:P.underlying t=some (.slice e)) (hi:P.info? e=some i) (hz:i.zero=some z)
  (hzs:z.cells.size=i.size) (hzn:NoD z.cells.toList)
  (g:Nat) (n cap:Nat) (xs:List Value) (hown:w.ownsRow base e i.size (.slice (some ⟨g,0,none⟩) n cap) n xs) (hnd:NoDig w g) (hxs:NoD xs)
  (a:Addr) (m c:Nat) (news:List Value) (hl:news.length=m*i.size) (hnews:∀ j u,news[j]?=some u->w.cell? (a.add j)=some u) (h1:∀ u ∈ news,u.oneCell'=true) (hnn:NoD news)
  (h63:n+m<=maxLen) (hbytes:(n+m)*i.bytes<=140737488355328) :
  ∀ v' w',(Builtin.append_ #[t,t] ty #[.slice (some ⟨g,0,none⟩) n cap,.slice (some a) m c]).run P w=.ok v' w'->∀ g,v'.ownBlock=some g->NoDig w' g:=by
 intro v' w' hrun g' hg'
 have hsmall:n+m<=9223372036854775807:=by simp only [maxLen] at h63; omega
 have hsz:=hown.1
 rcases hown.2 with ⟨h,_⟩ | ⟨g2,cap2,cur,h,hbg,hg,hnc,hcm,hcs,htake⟩
 ·cases h
 ·cases h
  by_cases hroom:n+m<=cap
  ·have hfit:n*i.size+news.length<=cur.size:=by rw [hl,hcs,<- Nat.add_mul]; exact Nat.mul_le_mul_right _ hroom
   have hr:=run_append_room (P:=P) w t ty e i ht hi g n cap cur hg a m c news hl hnews h1 hroom hfit
   rw [hr] at hrun
   injection hrun with h2 h3
   subst h2 h3
   cases hg'
   have hc:=hnd.cells (show blk w g=some _ from hg)
   refine noDig_cells (show blk (w.setRow g _) g=some _ from setRow_heap w g cur _ e _ hg) ?_
   exact ((hc.take _).append hnn).append (hc.drop _)
  ·have holds:∀ j u,xs[j]?=some u->w.cell? ((⟨g,0,none⟩:Addr).add j)=some u:=hown.cells (g:=g) rfl
   have hr:=run_append_grow (P:=P) w t ty e i z ht hi hz ⟨g,0,none⟩ n cap xs hown.1 holds a m c news hl hnews (by omega) (by omega) (growslice_fits (by omega) hbytes)
   rw [hr] at hrun
   injection hrun with h2 h3
   subst h2 h3
   cases hg'
   refine noDig_cells (show blk (w.drew.alloc _) w.heap.size=some _ from blk_alloc_at w.drew _) ?_
   rw [Array.toList_append,Array.toList_append]
   exact (hxs.append (by simpa using hnn:NoD news.toArray.toList)).append (noD_zero hzn _)
end
theorem run_append_rats (w:World) (base g n cap:Nat) (l:List Rat) (L:Nat) (ao:Option Addr) (m c:Nat) (l2:List Rat) (ty:TypeId) (h:ROwn w base (.slice (some ⟨g,0,none⟩) n cap) l L) (h2:Rats w (.slice ao m c) l2 L) (hl:l.length+l2.length<=1000000) (hbase:base<=w.heap.size) :
  ∃ v' w',(Builtin.append_ #[26,26] ty #[.slice (some ⟨g,0,none⟩) n cap,.slice ao m c]).run Tryz.prog w=.ok v' w'/\ROwn w' base v' (l++l2) L/\Ext (fun k=>(Value.slice (some ⟨g,0,none⟩) n cap).ownBlock=some k) w w'/\(∀ u d,Rds w u d->Rds w' u d)/\∃ g' c',v'=.slice (some ⟨g',0,none⟩) (l++l2).length c':=by
 obtain ⟨i0,hi,hz0,hz1,hz2⟩:=info_parts Tryz.infoRat
 obtain ⟨n',c0,e0⟩:=h.shape
 cases e0
 obtain ⟨cs,k1,k2,k3,k4⟩:=h
 obtain ⟨ds,q1,q2,q3⟩:=h2
 obtain ⟨ks,rfl⟩:=ratC_list ds l2 q1 q3
 rw [List.length_map] at q1
 obtain ⟨rfl,hc,hnews⟩:=sl_lies (f:=RatC.cells) (by decide) (fun _=>rfl) q2
 have h2':w.ownsRow base 64 i0.size (.slice (some ⟨g,0,none⟩) l.length cap) l.length (cs.flatMap RatC.cells):=by rw [hz1]; exact k2
 have hsz:(Value.agg #[.bool false,.slice none 0 0,.slice none 0 0]).cells.size=i0.size:=by rw [hz1]; rfl
 have hzn:NoD (Value.agg #[.bool false,.slice none 0 0,.slice none 0 0]).cells.toList:=ratC_noD ⟨false,none,0,0,none,0,0⟩
 have hbt:(l.length+ks.length)*i0.bytes<=140737488355328:=by rw [hz2]; omega
 have h63:l.length+ks.length<=maxLen:=by unfold maxLen; omega
 have hone:∀ u ∈ ks.flatMap RatC.cells,u.oneCell'=true:=fun u hu=>by
  obtain ⟨x,_,hu⟩:=List.mem_flatMap.1 hu
  exact ratC_one x u hu
 have hlen:(ks.flatMap RatC.cells).length=ks.length*i0.size:=by rw [hz1]; exact fm_length (f:=RatC.cells) (m:=3) (fun _=>rfl) ks
 cases ao with
 | none =>
  have hm:ks.length=0:=by
   rcases hnews with h | ⟨ad,h,_⟩
   ·exact h
   ·cases h
  have hc0:=hc rfl
  subst hc0
  have hk:ks=[]:=List.eq_nil_of_length_eq_zero hm
  subst hk
  have hl2:l2=[]:=List.eq_nil_of_length_eq_zero q1.symm
  subst hl2
  refine ⟨_,w,run_append_owned_none w base _ ty _ i0 _ Tryz.underlying26 hi _ l.length _ h2',by rw [List.append_nil]; exact ⟨cs,k1,k2,k3,k4⟩,Ext.refl _ _,fun _ _ h=>h,g,cap,by rw [List.append_nil]⟩
 | some ad =>
  have hn:∀ j u,(ks.flatMap RatC.cells)[j]?=some u->w.cell? (ad.add j)=some u:=by
   rcases hnews with h | ⟨ad',h,h2⟩
   ·have hk:ks=[]:=List.eq_nil_of_length_eq_zero h
    subst hk
    intro j u hu; simp at hu
   ·cases h; exact h2
  obtain ⟨v',w',hr,g1,g2,g3,g5⟩:=run_append_own_at (P:=Tryz.prog) w base 26 ty 64 i0 _ i0.size i0.bytes Tryz.underlying26 hi hz0 rfl rfl hsz (by rw [hz1]; decide) _ l.length _ h2' ad ks.length c _ hlen hn hone h63 hbt hbase
  have hx:Ext (fun k=>(Value.slice (some ⟨g,0,none⟩) l.length cap).ownBlock=some k) w w':=(Ext.refl _ w).grown g2 (fun k hk _=>hk)
  have hrd:∀ u d,Rds w u d->Rds w' u d:=fun u d hu=>hu.past hx (fun k _ hk=>k3 k hk)
  have hnd:=append_noDig' (P:=Tryz.prog) w base 26 ty 64 i0 _ Tryz.underlying26 hi hz0 hsz hzn g l.length cap _ h2' (k3 g rfl) (ratsC_noD cs) ad ks.length c _ hlen hn hone (ratsC_noD ks) h63 hbt v' w' hr
  rw [hz1] at g1
  refine ⟨v',w',hr,⟨cs++ks,by rw [List.length_append,List.length_append,k1,q1],?_,hnd,fun i c' q' hc' hq'=>?_⟩,hx,hrd,?_⟩
  ·rw [List.length_append,List.flatMap_append,<- q1]
   exact g1
  ·have hkeep:∀ {u:Value} {q:Rat},Rrat w u q L->Rrat w' u q L:=fun hh=>by
    obtain ⟨n,m,d,l,k,e1,e2,e3,e4,e5⟩:=hh
    exact ⟨n,m,d,l,k,e1,hrd _ _ e2,e3,hrd _ _ e4,e5⟩
   by_cases hi':i<cs.length
   ·rw [List.getElem?_append_left hi'] at hc'
    rw [List.getElem?_append_left (by omega)] at hq'
    exact hkeep (k4 i c' q' hc' hq')
   ·rw [List.getElem?_append_right (by omega)] at hc' hq'
    rw [k1] at hc'
    exact hkeep (q3 (i - l.length) c'.cells q' (by rw [List.getElem?_map,hc']; rfl) hq')
  ·rcases g1.2 with ⟨h,_⟩ | ⟨g',cap',cur,h,_⟩
   ·exact absurd (g3.1 h).1 (by intro h; cases h)
   ·exact ⟨g',cap',by rw [h,List.length_append,q1]⟩
theorem wpList_append_rats {w:World} {ops:Array Oper} {rest:List Oper} {o:Oper} {a:Act} {Q:Exit->Act->World->Prop} (hgd:o.guard=none) (s x:Operand)
  (ho:o.op=.call { callee:=.builtin .append,args:=#[s,x],argTypes:=#[26,26] })
  (base g n cap:Nat) (l:List Rat) (L:Nat) (hs:a.eval s=.slice (some ⟨g,0,none⟩) n cap) (hown:ROwn w base (.slice (some ⟨g,0,none⟩) n cap) l L) (ao:Option Addr) (m c:Nat) (l2:List Rat) (hx:a.eval x=.slice ao m c) (h2:Rats w (.slice ao m c) l2 L) (hl:l.length+l2.length<=1000000) (hbase:base<=w.heap.size)
  (h:∀ g' c' w',ROwn w' base (.slice (some ⟨g',0,none⟩) (l++l2).length c') (l++l2) L->Ext (fun k=>(Value.slice (some ⟨g,0,none⟩) n cap).ownBlock=some k) w w'->(∀ u d,Rds w u d->Rds w' u d)->wpList Tryz.prog ops Q rest (a.put o.dst (.slice (some ⟨g',0,none⟩) (l++l2).length c')) w') :
  wpList Tryz.prog ops Q (o :: rest) a w:=by
 refine wpList_plain hgd fun K hK=>?_
 obtain ⟨v',w',hr,k2,k3,k5,g',c',rfl⟩:=run_append_rats w base g n cap l L ao m c l2 o.type hown h2 hl hbase
 unfold Oper.wp execOp
 simp only [ho,resolve,invoke,builtin,Sem.run_bind,Sem.run_pure,Result.andThen_ok,List.map_toArray,List.map_cons,List.map_nil,hs,hx,hr]
 exact hK _ _ (h g' c' w' k2 k3 k5)
theorem wpList_append_rats0 {w:World} {ops:Array Oper} {rest:List Oper} {o:Oper} {a:Act} {Q:Exit->Act->World->Prop} (hgd:o.guard=none) (s x:Operand)
  (ho:o.op=.call { callee:=.builtin .append,args:=#[s,x],argTypes:=#[26,26] })
  (base g n cap:Nat) (L:Nat) (hs:a.eval s=.slice (some ⟨g,0,none⟩) n cap) (hown:ROwn w base (.slice (some ⟨g,0,none⟩) n cap) [] L) (ao:Option Addr) (m c:Nat) (l2:List Rat) (hx:a.eval x=.slice ao m c) (h2:Rats w (.slice ao m c) l2 L) (hl:l2.length<=1000000) (hbase:base<=w.heap.size)
  (h:∀ g' c' w',ROwn w' base (.slice (some ⟨g',0,none⟩) l2.length c') l2 L->Ext (fun k=>(Value.slice (some ⟨g,0,none⟩) n cap).ownBlock=some k) w w'->(∀ u d,Rds w u d->Rds w' u d)->wpList Tryz.prog ops Q rest (a.put o.dst (.slice (some ⟨g',0,none⟩) l2.length c')) w') :
  wpList Tryz.prog ops Q (o :: rest) a w:=wpList_append_rats hgd s x ho base g n cap [] L hs hown ao m c l2 hx h2 (by rw [List.length_nil,Nat.zero_add]; exact hl) hbase h
def PtOk (p:ProgV) (i:Nat) (x:List Rat):Prop:=x.length=i/\∀ j,j<i->∃ z:Int,x[j]?=some (z:Rat)/\(p.v j).lo<=z/\z<=(p.v j).up
theorem PtOk.next {p:ProgV} {i:Nat} {x:List Rat} {z:Int} (h:PtOk p i x) (h1:(p.v i).lo<=z) (h2:z<=(p.v i).up):PtOk p (i+1) (x++[(z:Rat)]):=by
 refine ⟨by rw [List.length_append,h.1]; rfl,fun j hj=>?_⟩
 by_cases hji:j<i
 ·obtain ⟨y,h3,h4⟩:=h.2 j hji
  exact ⟨y,by rw [List.getElem?_append_left (by rw [h.1]; exact hji)]; exact h3,h4⟩
 ·obtain rfl:j=i:=by omega
  exact ⟨z,by rw [List.getElem?_append_right (by rw [h.1]; exact Nat.le_refl _),h.1,Nat.sub_self]; rfl,h1,h2⟩
theorem PtOk.at {p:ProgV} {i:Nat} {x:List Rat} (h:PtOk p i x) {j:Nat} (hj:j<i):∃ z:Int,atQ x j=z/\(p.v j).lo<=z/\z<=(p.v j).up:=by
 obtain ⟨z,h1,h2⟩:=h.2 j hj
 exact ⟨z,by rw [atQ_nat,List.getD_eq_getElem?_getD,h1]; rfl,h2⟩
theorem PtOk.inside {p:ProgV} {x:List Rat} (h:PtOk p p.vars.length x):insideB p x=true:=by
 rw [insideB_eq]
 refine allTo_iff.2 fun j hj=>?_
 obtain ⟨z,h1,h2,h3⟩:=h.at hj
 unfold insB
 rw [h1]
 simp [Rat.intCast_le_intCast.2 h2,Rat.intCast_le_intCast.2 h3]
theorem PtOk.int {p:ProgV} {x:List Rat} (h:PtOk p p.vars.length x):IntX p x:=fun j hj _=>by
 obtain ⟨z,h1,_⟩:=h.at hj
 exact ⟨z,h1⟩
structure PtQ where
 ao:Option Addr
 n:Nat
 c:Nat
 x:List Rat
def cP (q:PtQ):List Value:=[.slice q.ao q.n q.c]
theorem cP_noD (q:PtQ):NoD (cP q):=fun u hu d e=>by
 simp [cP] at hu
 rw [hu] at e; cases e
theorem cPs_noD (qs:List PtQ):NoD (qs.flatMap cP):=fun u hu d e=>by
 obtain ⟨q,_,h⟩:=List.mem_flatMap.1 hu
 exact cP_noD q u h d e
structure PtR (w:World) (base:Nat) (v:Value) (qs:List PtQ):Prop where
 own:w.ownsRow base 26 1 v qs.length (qs.flatMap cP)
 nod:∀ g,v.ownBlock=some g->NoDig w g
 pts:∀ q ∈ qs,ROwn w 0 (.slice q.ao q.n q.c) q.x 4
section
variable {w w':World} {base:Nat} {v v':Value} {q:PtQ} {qs:List PtQ}
theorem ROwn.ty {l:List Rat} {L b:Nat} {u:Value} (h:ROwn w b u l L):∀ g,u.ownBlock=some g->TyB w g 64:=by
 obtain ⟨cs,_,h2,_⟩:=h
 exact own_ty h2
theorem ROwn.low {l:List Rat} {L b:Nat} {u:Value} (h:ROwn w b u l L):ROwn w 0 u l L:=by
 obtain ⟨cs,h1,h2,h3⟩:=h
 exact ⟨cs,h1,⟨h2.1,h2.2.imp id (fun ⟨g,cap,cur,e,_,h4⟩=>⟨g,cap,cur,e,Nat.zero_le _,h4⟩)⟩,h3⟩
theorem PtR.past {S:Nat->Prop} (h:PtR w base v qs) (hx:Ext S w w') (hS:∀ k,S k->TyB w k 26) (hn:∀ g,v.ownBlock=some g->¬ S g) (hr:∀ u d,Rds w u d->Rds w' u d):PtR w' base v qs:=by
 refine ⟨ownsRow_ext h.own hx hn,fun g hg i d hc=>?_,fun q hq=>(h.pts q hq).past hx (fun g hg e=>typ_ne' ((h.pts q hq).ty g hg) (hS g e) (by decide) rfl) hr⟩
 have hlt:g<w.heap.size:=(World.ownsRow.lt h.own g hg).2
 exact h.nod g hg i d ((hx.cell (p:=⟨g,i,none⟩) hlt (hn g hg)).symm.trans hc)
theorem PtR.keep (h:PtR w base v qs) (hx:XF w w'):PtR w' base v qs:=h.past hx (fun _ e=>e.elim) (fun _ _ e=>e) (fun _ _ hu=>hu.keep hx)
theorem PtR.rat {u:Value} {l:List Rat} {b:Nat} (h:PtR w base v qs) (hx:Ext (fun k=>u.ownBlock=some k) w w') (hu:ROwn w b u l 4) (hq:∀ q ∈ qs,∀ g,(Value.slice q.ao q.n q.c).ownBlock=some g->g<b) (hr:∀ u d,Rds w u d->Rds w' u d):PtR w' base v qs:=by
 refine ⟨ownsRow_ext h.own hx (fun g hg e=>typ_ne' (own_ty h.own g hg) (hu.ty g e) (by decide) rfl),fun g hg i d hc=>?_,fun q hq'=>(h.pts q hq').past hx (fun g hg e=>by have h1:=hq q hq' g hg; have h2:=(hu.lt g e).1; omega) hr⟩
 have hlt:g<w.heap.size:=(World.ownsRow.lt h.own g hg).2
 exact h.nod g hg i d ((hx.cell (p:=⟨g,i,none⟩) hlt (fun e=>typ_ne' (own_ty h.own g hg) (hu.ty g e) (by decide) rfl)).symm.trans hc)
theorem PtR.push (h:PtR w base v qs) (ha:AppG w w' base 26 1 v v' qs.length (qs.flatMap cP) (cP q)) (hq:ROwn w 0 (.slice q.ao q.n q.c) q.x 4):PtR w' base v' (qs++[q]):=by
 have hty:∀ k,v.ownBlock=some k->TyB w k 26:=own_ty h.own
 refine ⟨?_,ha.noDig,fun q' hq'=>?_⟩
 ·rw [List.length_append,List.flatMap_append]
  simpa using ha.own
 ·have hp:∀ q:PtQ,ROwn w 0 (.slice q.ao q.n q.c) q.x 4->ROwn w' 0 (.slice q.ao q.n q.c) q.x 4:=fun q hq=>hq.past ha.ext (fun g hg e=>typ_ne' (hq.ty g hg) (hty g e) (by decide) rfl) ha.rds
  rcases List.mem_append.1 hq' with h1 | h1
  ·exact hp _ (h.pts q' h1)
  ·rw [List.mem_singleton.1 h1]; exact hp _ hq
theorem PtR.at (h:PtR w base v qs) {i:Nat} (hi:i<qs.length):∃ b c,v=.slice (some ⟨b,0,none⟩) qs.length c/\qs.length<=c/\c<=maxLen/\w.cell? ⟨b,i,none⟩=some (.slice (qs.getD i ⟨none,0,0,[]⟩).ao (qs.getD i ⟨none,0,0,[]⟩).n (qs.getD i ⟨none,0,0,[]⟩).c):=by
 rcases h.own.2 with ⟨_,h0⟩ | ⟨g,cap,cur,rfl,hb,hg,hnc,hcm,hcs,htake⟩
 ·omega
 ·refine ⟨g,cap,rfl,hnc,hcm,?_⟩
  have hget:=fm_get (f:=cP) (m:=1) (fun _=>rfl) qs i (List.getElem?_eq_getElem hi) 0 (by decide)
  rw [Nat.mul_one,Nat.add_zero,<- htake,List.getElem?_take,if_pos (by omega)] at hget
  rw [cell_of_cells (show blk w g=some _ from hg),<- Array.getElem?_toList,hget,getD_lt hi]
  rfl
end
theorem Tryz.infoRats:(Tryz.prog.info? 26).map (fun i=>(i.zero,i.size,i.bytes))=some (some (.slice none 0 0),1,24):=by kernel_rfl
structure PSt (w wr:World) (pb vb nb b0:Nat) (pc vc:Array Value) (p:ProgV) (i:Nat) (ov:Value) (qs:List PtQ) (nv:Value) (ns:List PtQ):Prop where
 ext:XF w wr
 bp:blk wr pb=some (.cells pc 25 (0,0))
 bv:blk wr vb=some (.cells vc 73 (0,0))
 out:PtR wr w.heap.size ov qs
 next:PtR wr nb nv ns
 ok:∀ q ∈ ns,PtOk p (i+1) q.x
 ord:pb<vb/\vb<nb/\(∀ g,ov.ownBlock=some g->g<nb)/\w.heap.size<=nb/\nb<=b0/\b0<=wr.heap.size
 low:∀ q,q ∈ qs∨q ∈ ns->∀ g,(Value.slice q.ao q.n q.c).ownBlock=some g->g<b0
section
variable {w wr w':World} {pb vb nb b0:Nat} {pc vc:Array Value} {p:ProgV} {i:Nat} {ov nv nv':Value} {qs ns:List PtQ} {q:PtQ}
theorem PSt.keep (h:PSt w wr pb vb nb b0 pc vc p i ov qs nv ns) (hx:XF wr w'):PSt w w' pb vb nb b0 pc vc p i ov qs nv ns :=
 ⟨h.ext.trans hx,blk_keep h.bp hx,blk_keep h.bv hx,h.out.keep hx,h.next.keep hx,h.ok,(by obtain ⟨o1,o2,o3,o4,o5,o6⟩:=h.ord; exact ⟨o1,o2,o3,o4,o5,Nat.le_trans o6 hx.size⟩),h.low⟩
theorem PSt.fresh (h:PSt w wr pb vb nb b0 pc vc p i ov qs nv ns):PSt w wr pb vb nb wr.heap.size pc vc p i ov qs nv ns :=
 ⟨h.ext,h.bp,h.bv,h.out,h.next,h.ok,(by obtain ⟨o1,o2,o3,o4,o5,o6⟩:=h.ord; exact ⟨o1,o2,o3,o4,by omega,Nat.le_refl _⟩),fun q hq g hg=>by have:=h.low q hq g hg; have:=h.ord.2.2.2.2.2; omega⟩
theorem PSt.rat {u:Value} {l:List Rat} (h:PSt w wr pb vb nb b0 pc vc p i ov qs nv ns) (hx:Ext (fun k=>u.ownBlock=some k) wr w') (hu:ROwn wr b0 u l 4) (hr:∀ v d,Rds wr v d->Rds w' v d):PSt w w' pb vb nb b0 pc vc p i ov qs nv ns:=by
 obtain ⟨o1,o2,o3,o4,o5,o6⟩:=h.ord
 refine ⟨h.ext.own hx (fun k e=>by have:=(hu.lt k e).1; omega),blk_ext h.bp hx (fun e=>by have:=(hu.lt _ e).1; omega),blk_ext h.bv hx (fun e=>by have:=(hu.lt _ e).1; omega),h.out.rat hx hu (fun q hq=>h.low q (.inl hq)) hr,h.next.rat hx hu (fun q hq=>h.low q (.inr hq)) hr,h.ok,⟨o1,o2,o3,o4,o5,Nat.le_trans o6 hx.size⟩,h.low⟩
theorem PSt.push (h:PSt w wr pb vb nb b0 pc vc p i ov qs nv ns) (ha:AppG wr w' nb 26 1 nv nv' ns.length (ns.flatMap cP) (cP q)) (hq:ROwn wr 0 (.slice q.ao q.n q.c) q.x 4) (hk:PtOk p (i+1) q.x):PSt w w' pb vb nb w'.heap.size pc vc p i ov qs nv' (ns++[q]):=by
 obtain ⟨o1,o2,o3,o4,o5,o6⟩:=h.ord
 have hlt:∀ k,nv.ownBlock=some k->nb<=k/\k<wr.heap.size:=World.ownsRow.lt h.next.own
 have hs:=ha.ext.size
 refine ⟨h.ext.own ha.ext (fun k e=>by have:=(hlt k e).1; omega),blk_ext h.bp ha.ext (fun e=>by have:=(hlt _ e).1; omega),blk_ext h.bv ha.ext (fun e=>by have:=(hlt _ e).1; omega),h.out.past ha.ext (own_ty h.next.own) (fun g hg e=>by have:=(hlt _ e).1; have:=o3 g hg; omega) ha.rds,h.next.push ha hq,fun q' hq'=>?_,⟨o1,o2,o3,o4,by omega,Nat.le_refl _⟩,fun q' hq' g hg=>?_⟩
 ·rcases List.mem_append.1 hq' with h1 | h1
  ·exact h.ok q' h1
  ·rw [List.mem_singleton.1 h1]; exact hk
 ·rcases hq' with h1 | h1
  ·have:=h.low q' (.inl h1) g hg; omega
  ·rcases List.mem_append.1 h1 with h1 | h1
   ·have:=h.low q' (.inr h1) g hg; omega
   ·rw [List.mem_singleton.1 h1] at hg
    have:=(hq.lt g hg).2
    omega
theorem PtR.empty {g base:Nat} (hg:base<=g) (h:blk w g=some (.cells #[] 26 (0,0))):PtR w base (.slice (some ⟨g,0,none⟩) 0 0) [] :=
 ⟨ownsRow_empty 1 hg h,(fun g' e=>by cases e; exact noDig_cells h (fun u hu=>by cases hu)),(fun q hq=>by cases hq)⟩
theorem PtR.nil (w:World) (base:Nat):PtR w base (.slice none 0 0) []:=⟨World.ownsRow_nil _ _ _ 1,(fun g e=>by cases e),(fun q hq=>by cases hq)⟩
theorem PtR.one {g b base:Nat} (hg:base<=g) (h:blk w g=some (.cells #[.slice (some ⟨b,0,none⟩) 0 0] 26 (0,0))) (hb:blk w b=some (.cells #[] 64 (0,0))):PtR w base (.slice (some ⟨g,0,none⟩) 1 1) [⟨some ⟨b,0,none⟩,0,0,[]⟩] :=
 ⟨⟨rfl,.inr ⟨g,1,_,rfl,hg,h,Nat.le_refl _,(by unfold maxLen; decide),rfl,rfl⟩⟩,(fun g' e=>by cases e; exact noDig_cells h (fun u hu d e=>by simp at hu; rw [hu] at e; cases e)),(fun q hq=>by rw [List.mem_singleton.1 hq]; exact ROwn.empty 4 hb (Nat.zero_le _))⟩
end
theorem owns_le' {w:World} {base:Nat} {e:TypeId} {size:Nat} {v:Value} {n:Nat} {xs:List Value} (h:w.ownsRow base e size v n xs):n<=maxLen:=by
 rcases h.2 with ⟨_,h0⟩ | ⟨_,cap,_,_,_,_,h3,h4,_⟩
 ·rw [h0]; exact Nat.zero_le _
 ·exact Nat.le_trans h3 h4
theorem ratc_src (w:World) (x:RatC):∀ j u,x.cells[j]?=some u->(w.alloc (.cells x.cells.toArray 64)).cell? ((⟨w.heap.size,0,none⟩:Addr).add j)=some u:=fun j u hu=>by
 match j,hu with
 | 0,hu=>cases hu; exact cellq (blk_alloc_at w _) 0 rfl
 | 1,hu=>cases hu; exact cellq (blk_alloc_at w _) 1 rfl
 | 2,hu=>cases hu; exact cellq (blk_alloc_at w _) 2 rfl
theorem pt_src (w:World) (a:Option Addr) (n c:Nat) {x:List Rat}:∀ j u,(cP ⟨a,n,c,x⟩)[j]?=some u->(w.alloc (.cells #[.slice a n c] 26)).cell? ((⟨w.heap.size,0,none⟩:Addr).add j)=some u:=fun j u hu=>by
 match j,hu with
 | 0,hu=>cases hu; exact cellq (blk_alloc_at w _) 0 rfl
theorem noD_nil:NoD (Value.slice none 0 0).cells.toList:=fun u hu d e=>by
 simp [Value.cells] at hu
 rw [hu] at e; cases e
theorem PtR.up {w:World} {b base:Nat} {v:Value} {qs:List PtQ} (h:PtR w b v qs) (hb:base<=b):PtR w base v qs :=
 ⟨⟨h.own.1,h.own.2.imp id (fun ⟨g,cap,cur,e,h3,h4⟩=>⟨g,cap,cur,e,Nat.le_trans hb h3,h4⟩)⟩,h.nod,h.pts⟩
def PtsPost (w:World) (p:ProgV) (r:Ending) (w':World):Prop:=∃ ov qs,r=.returned ov/\PtR w' w.heap.size ov qs/\(∀ q ∈ qs,PtOk p p.vars.length q.x)/\XF w w'
theorem Points_any (w:World) (pv:Value) (p:ProgV) (hp:IsPrg w pv p) (hval:validB p=true) (hn6:p.vars.length<=6):Calls Tryz.prog 13 #[pv,.int .i64 200] w (PtsPost w p):=by
 obtain ⟨vv,rv,rfl,hr,-⟩:=hp
 obtain ⟨vo,vc,rfl,-,hn,-⟩:=hr.shape
 have HV:=bH hr
 have HVl:=bH (fun i (hi:i<p.vars.length)=>valid_var hval hi)
 clear hr hval
 obtain ⟨n,hn'⟩:∃ n,p.vars.length=n:=⟨_,rfl⟩
 have HN:=bH hn'
 rw [hn'] at hn hn6 ⊢ HV HVl
 clear hn'
 have HB:=bH (bI (blk_alloc_at w (.cells #[.slice vo n vc,rv] 25)) ((Ext.refl (fun _=>False) w).alloc (.cells #[.slice vo n vc,rv] 25)))
 go_enter Tryz.func13,Tryz.ntmps13
 go_upto_region 1 with fail
 generalize hw1:w.alloc (.cells #[.slice vo n vc,rv] 25)=w1 at *
 clear hw1
 obtain ⟨pb,hpb⟩:∃ pb,w.heap.size=pb:=⟨_,rfl⟩
 have HPb:=bH hpb
 rw [hpb] at HB ⊢
 clear hpb
 have hxa:=(Ext.refl (fun _=>False) w1).alloc (.cells #[] 64)
 have hxb:=(Ext.refl (fun _=>False) (w1.alloc (.cells #[] 64))).alloc (.cells #[.slice (some ⟨w1.heap.size,0,none⟩) 0 0] 26)
 have h1:=PtR.one (w:=(w1.alloc (.cells #[] 64)).alloc (.cells #[.slice (some ⟨w1.heap.size,0,none⟩) 0 0] 26)) (base:=w.heap.size) (Nat.le_trans HB.out.2.size hxa.size) (blk_alloc_at _ _) (blk_keep (blk_alloc_at w1 (.cells #[] 64)) hxb)
 rw [World.size_alloc] at h1
 have HS:=bH (bI h1 (bI (blk_keep HB.out.1 (hxa.trans hxb)) (HB.out.2.trans (hxa.trans hxb))))
 clear h1 hxa hxb HB
 go_upto_region 2 with fail
 generalize (w1.alloc (.cells #[] 64)).alloc (.cells #[.slice (some ⟨w1.heap.size,0,none⟩) 0 0] 26)=w2 at *
 generalize w1.heap.size+1=ob0 at *
 generalize w1.heap.size=b00 at *
 clear w1
 obtain ⟨pc,hpc⟩:∃ pc,#[Value.slice vo n vc,rv]=pc:=⟨_,rfl⟩
 have HPc:=bH hpc
 have z0:=cellq HS.out.2.1 0 rfl
 rw [hpc] at HS
 clear hpc
 go_wp2_with fail
 clear z0
 go_loopg [5,6] n (fun gg v5 v6 wr=>∃ i ov qs,i<=n/\gg=n - i/\v5=ov/\v6=.int .i64 i/\PtR wr w.heap.size ov qs/\(∀ q ∈ qs,PtOk p i q.x)/\blk wr pb=some (.cells pc 25 (0,0))/\XF w wr)
 case atStart=>exact ⟨0,_,_,Nat.zero_le _,rfl,rfl,rfl,HS.out.1,(fun q hq=>by rw [List.mem_singleton.1 hq]; exact ⟨rfl,fun j hj=>absurd hj (Nat.not_lt_zero _)⟩),HS.out.2.1,HS.out.2.2⟩
 case round =>
  clear HS
  obtain ⟨i,ov,qs,hi,rfl,hov,rfl,hpt,hok,hbp,hx⟩:=hrel
  obtain rfl:=hov.symm
  have HS:=bH (bI hpt (bI hok (bI hbp hx)))
  have hb':=hbp
  rw [<- HPc.out] at hb'
  have z0:=cellq hb' 0 rfl
  clear hb' hpt hok hbp
  by_cases hin:i<n
  ·have i0:(i:Int)<(n:Int):=by omega
   have i1:(0:Int)<=(i:Int):=by omega
   obtain ⟨b,off,rfl,-,e0,e1,e2,e3,e4,hvk⟩:=(HV.out.keep hx).atp i (by rw [HN.out]; exact hin)
   have hlo:=hvk.lo
   have hup:=hvk.up
   have hlim:=HVl.out i hin
   unfold varB limB at hlim
   simp only [Bool.and_eq_true,decide_eq_true_eq] at hlim
   clear hvk
   have hx3:=(Ext.refl (fun _=>False) wr).alloc (.cells #[.int .i64 (p.v i).lo,.int .i64 (p.v i).up,.bool (p.v i).op,.bool (p.v i).ig,.int .i64 (p.v i).co] 73)
   have hb3:=blk_alloc_at wr (.cells #[.int .i64 (p.v i).lo,.int .i64 (p.v i).up,.bool (p.v i).op,.bool (p.v i).ig,.int .i64 (p.v i).co] 73)
   go_upto_region 6 with fail
   have HW:=bH (bI hb3 hx3)
   clear e0 e1 e2 e3 e4 hb3 hx3 hx z0
   generalize wr.alloc (.cells #[.int .i64 (p.v i).lo,.int .i64 (p.v i).up,.bool (p.v i).op,.bool (p.v i).ig,.int .i64 (p.v i).co] 73)=w3 at *
   have HVb:=bH (bI (blk_lt HS.out.2.2.1) (Nat.le_refl wr.heap.size))
   generalize wr.heap.size=vb at *
   have f2:=cellq HW.out.1 2 rfl
   have f3:=cellq HW.out.1 3 rfl
   have HPk:=bH (fun x (z:Int)=>PtOk.next (p:=p) (i:=i) (x:=x) (z:=z))
   generalize (p.v i).op=op at *
   generalize (p.v i).ig=ig at *
   generalize (p.v i).lo=lo at *
   generalize (p.v i).up=up at *
   generalize (p.v i).co=co at *
   have hcase:op=true∨(op=false/\ig=false)∨(op=false/\ig=true):=by cases op <;> cases ig <;> simp
   rcases hcase with rfl | ⟨rfl,rfl⟩ | ⟨rfl,rfl⟩
   ·go_wp2
    go_ret
    exact ⟨_,[],rfl,PtR.nil _ _,(fun q hq=>by cases hq),HS.out.2.2.2.trans HW.out.2⟩
   ·go_wp2
    go_ret
    exact ⟨_,[],rfl,PtR.nil _ _,(fun q hq=>by cases hq),HS.out.2.2.2.trans HW.out.2⟩
   go_upto_region 9 with fail
   clear f2 f3
   have hx4:=(Ext.refl (fun _=>False) w3).alloc (.cells #[] 26)
   have hq4:=PtR.empty (w:=w3.alloc (.cells #[] 26)) (Nat.le_refl w3.heap.size) (blk_alloc_at w3 (.cells #[] 26))
   have HT:=bH (show PSt w (w3.alloc (.cells #[] 26)) pb vb w3.heap.size (w3.alloc (.cells #[] 26)).heap.size pc #[.int .i64 lo,.int .i64 up,.bool false,.bool true,.int .i64 co] p i ov qs (.slice (some ⟨w3.heap.size,0,none⟩) 0 0) [] from by
    have hsz:=hx4.size
    have hlt:=blk_lt HW.out.1
    have hk:=HS.out.1.keep (HW.out.2.trans hx4)
    refine ⟨HS.out.2.2.2.trans (HW.out.2.trans hx4),blk_keep HS.out.2.2.1 (HW.out.2.trans hx4),blk_keep HW.out.1 hx4,hk,hq4,(fun q hq=>by cases hq),⟨HVb.out.1,hlt,fun g hg=>?_,?_,hsz,Nat.le_refl _⟩,fun q hq g hg=>?_⟩
    ·have h1:=(World.ownsRow.lt HS.out.1.own g hg).2
     have h2:=HW.out.2.size
     omega
    ·have h1:=HS.out.2.2.2.size
     have h2:=HW.out.2.size
     omega
    ·rcases hq with hq | hq
     ·exact ((hk.pts q hq).lt g hg).2
     ·cases hq)
   have HOk:=bH HS.out.2.1
   clear hx4 hq4 HS HW HVb
   generalize w3.alloc (.cells #[] 26)=w4 at *
   generalize w3.heap.size=nb at *
   clear w3
   have hql:=owns_le' HT.out.out.own
   obtain ⟨m,hm⟩:∃ m,qs.length=m:=⟨_,rfl⟩
   obtain ⟨oo,oc,hov⟩:∃ oo oc,ov=.slice oo m oc:=by
    obtain ⟨a,c,h⟩:=ownsRow_shape HT.out.out.own
    exact ⟨a,c,by rw [h,hm]⟩
   subst hov
   have HM:=bH hm
   rw [hm] at hql
   have hmx:m<=9223372036854775807:=Nat.le_trans hql (by unfold maxLen; decide)
   clear hm hql
   go_wp2_with fail
   go_loopg [8,9] m (fun gg v8 v9 wr=>∃ k nv ns b0,k<=m/\gg=m - k/\v8=nv/\v9=.int .i64 k/\PSt w wr pb vb nb b0 pc #[.int .i64 lo,.int .i64 up,.bool false,.bool true,.int .i64 co] p i (.slice oo m oc) qs nv ns)
   case atStart=>exact ⟨0,_,_,_,Nat.zero_le _,rfl,rfl,rfl,HT.out⟩
   case round =>
    clear HT
    obtain ⟨k,nv,ns,b0,hk,rfl,hnv,rfl,hst⟩:=hrel
    obtain rfl:=hnv.symm
    have HT:=bH hst
    clear hst
    by_cases hkm:k<m
    ·have k0:(k:Int)<(m:Int):=by omega
     have k1:(0:Int)<=(k:Int):=by omega
     have HK:=bH (show k<qs.length by rw [HM.out]; exact hkm)
     have f0:=cellq HT.out.bv 0 rfl
     go_upto_block 4 with fail
     go_wp2_with fail
     clear f0
     go_loopg [8,10] ((up+1 - lo).toNat) (fun gg v8 v10 wr=>∃ z nv ns b0,lo<=z/\(z<=up+1∨z=lo)/\gg=(up+1 - z).toNat/\v8=nv/\v10=.int .i64 z/\PSt w wr pb vb nb b0 pc #[.int .i64 lo,.int .i64 up,.bool false,.bool true,.int .i64 co] p i (.slice oo m oc) qs nv ns)
     case atStart=>exact ⟨lo,_,_,_,Int.le_refl _,.inr rfl,rfl,rfl,rfl,HT.out⟩
     case round =>
      clear HT
      obtain ⟨z,nv,ns,b0,hz0,hz1,rfl,hnv,rfl,hst⟩:=hrel
      obtain rfl:=hnv.symm
      have HT:=bH hst
      clear hst
      have f1:=cellq HT.out.bv 1 rfl
      have hzi:InR z:=⟨by have:=hlo.1; omega,by
       have:=hup.2
       omega⟩
      by_cases hz:z<=up
      ·have hz9:InR (z+1):=⟨by have:=hlo.1; omega,by
        omega⟩
       obtain ⟨no,nc,hnv⟩:=ownsRow_shape HT.out.next.own
       by_cases hq:200<=ns.length
       ·have hq':(200:Int)<=(ns.length:Int):=by omega
        have HE:=bH HT.out.ext
        subst hnv
        clear HT
        generalize ns.length=nl at *
        go_wp2
        go_ret
        exact ⟨_,[],rfl,PtR.nil _ _,(fun q hq=>by cases hq),HE.out⟩
       have hq':¬ (200:Int)<=(ns.length:Int):=by omega
       obtain ⟨nl,hnl⟩:∃ x,ns.length=x:=⟨_,rfl⟩
       have HNl:=bH hnl
       rw [hnl] at hnv hq'
       have HNq:=bH hq
       clear hq hnl
       subst hnv
       have hxa:=(Ext.refl (fun _=>False) wr).alloc (.cells #[] 64)
       have hTa:=HT.out.fresh.keep hxa
       obtain ⟨ob,oc',he,-,hoc,hcell⟩:=hTa.out.at HK.out
       have hkc:m<=oc:=by
        have:=(ownsRow_shape hTa.out.own)
        rcases hTa.out.own.2 with ⟨h,_⟩ | ⟨_,_,_,h,_,_,h3,_⟩
        ·cases h; omega
        ·cases h; rw [<- HM.out]; exact h3
       obtain rfl:oo=some ⟨ob,0,none⟩:=by injection he
       have hmem:qs.getD k ⟨none,0,0,[]⟩ ∈ qs:=by rw [getD_lt HK.out]; exact List.getElem_mem _
       generalize qs.getD k ⟨none,0,0,[]⟩=qk at *
       have HQ:=bH (hTa.out.pts qk hmem).rats
       have HL:=bH (HOk.out qk hmem)
       have HA:=bH (bI (ROwn.empty (base:=wr.heap.size) 4 (blk_alloc_at wr (.cells #[] 64)) (Nat.le_refl wr.heap.size)) (bI hTa hxa.size))
       have HFr:=bH (fun W=>Rrfrom_any W z hzi.1 hzi.2)
       have HXl:=bH (show qk.x.length<=1000000 by rw [HL.out.1]; omega)
       have HNP:=bH (HPk.out qk.x z HL.out hz0 hz)
       clear hmem he hTa hxa
       go_upto_region 17 with fail
       go_wp2_with (first
        | (at_builtin; refine wpList_append_rats0 rfl _ _ rfl wr.heap.size _ _ _ 4 rfl HA.out.1 _ _ _ qk.x rfl HQ.out HXl.out HA.out.2.2 ?_; intro g1 c1 wb hb1 hxb hrb; have HTb:=bH (bI (HA.out.2.1.rat hxb HA.out.1 hrb) (Nat.le_trans HA.out.2.2 hxb.size)))
        | (go_at_call 31; (with_reducible refine (HFr.out _).mono ?_); rintro q8 wc ⟨v8,rfl,h8,hx8⟩; obtain ⟨n8,a8,l8,c8,a8',l8',c8',rfl⟩:=h8.shape; have hxd:=(Ext.refl (fun _=>False) wc).alloc (.cells #[.bool n8,.slice a8 l8 c8,.slice a8' l8' c8'] 64); have HTd:=bH (bI (HTb.out.1.keep (hx8.trans hxd)) (bI (hb1.keep (hx8.trans hxd)) (Nat.le_trans HTb.out.2 (hx8.trans hxd).size))); have HRd:=bH ((h8.keep hxd).reads ((Sz.int hzi).mono (by decide:2<=4))))
        | (at_builtin; refine wpList_append_rat rfl _ _ rfl wr.heap.size _ qk.x 4 rfl HTd.out.2.1 ⟨n8,a8,l8,c8,a8',l8',c8'⟩ (z:Rat) HRd.out ⟨wc.heap.size,0,none⟩ 1 rfl (ratc_src wc _) HXl.out HTd.out.2.2 ?_; intro v9 we hb9 hxe hre; obtain ⟨a9,c9,hv9⟩:∃ a c,v9=.slice a (i+1) c:=(by obtain ⟨a,c,h⟩:=hb9.shape; exact ⟨a,c,by rw [h,List.length_append,HL.out.1]; rfl⟩); subst hv9; have hxf:=(Ext.refl (fun _=>False) we).alloc (.cells #[.slice a9 (i+1) c9] 26); have HTf:=bH (bI ((HTd.out.1.rat hxe HTd.out.2.1 hre).keep hxf) (hb9.low.keep hxf)))
        | (at_builtin; refine wpList_appG rfl _ _ rfl Tryz.underlying39 Tryz.infoRats rfl (noD_nil) (by decide) (by decide) nb _ nl (ns.flatMap cP) rfl (HNl.out ▸ HTf.out.1.next.own) HTf.out.1.next.nod (cPs_noD ns) ⟨we.heap.size,0,none⟩ 1 (cP ⟨a9,i+1,c9,qk.x++[(z:Rat)]⟩) rfl rfl (pt_src we _ _ _) (fun u hu=>(by simp [cP] at hu; subst hu; rfl)) (cP_noD _) (by omega) (Nat.le_trans HTf.out.1.ord.2.2.2.2.1 HTf.out.1.ord.2.2.2.2.2) ?_; intro v10 wg hg; have HTg:=bH (HTf.out.1.push (by rw [HNl.out]; exact hg) HTf.out.2 HNP.out)))
       go_roundg ((up+1 - (z+1)).toNat)
       case measure=>omega
       case rel=>exact ⟨z+1,_,_,_,by omega,.inl (by omega),rfl,rfl,by go_num,HTg.out⟩
      ·go_wp2
       go_roundg (m - (k+1))
       case measure=>omega
       case rel=>exact ⟨k+1,_,ns,_,by omega,rfl,rfl,by go_num,HT.out⟩
    ·obtain rfl:k=m:=by omega
     have k0:¬ (k:Int)<(k:Int):=by omega
     go_wp2
     go_roundg (n - (i+1))
     case measure=>omega
     case rel=>exact ⟨i+1,_,ns,by omega,rfl,rfl,by go_num,HT.out.next.up HT.out.ord.2.2.2.1,HT.out.ok,HT.out.bp,HT.out.ext⟩
  ·obtain rfl:i=n:=by omega
   have i0:¬ (i:Int)<(i:Int):=by omega
   go_wp2
   go_ret
   exact ⟨_,qs,rfl,HS.out.1,HN.out ▸ HS.out.2.1,HS.out.2.2.2⟩
theorem sound_core (w:World) (pv cv:Value) (p:ProgV) (c:RawCut) (hp:IsPrg w pv p) (hc:IsRCut w cv c):Calls Tryz.prog 3 #[pv,cv] w (BoolPost w true):=by
 obtain ⟨vo,vn,vc,ro,rn,rc,rfl⟩:=hp.slicesP
 have HLn:=bH (show p.vars.length=vn/\p.rows.length=rn from by
  obtain ⟨vv,rv,e,h,h2⟩:=hp
  cases e
  obtain ⟨_,_,e,_⟩:=h.shape
  obtain ⟨_,_,e2,_⟩:=h2.shape
  cases e; cases e2
  exact ⟨rfl,rfl⟩)
 obtain ⟨yv,sv,rfl,hcy,hcv,hck⟩:=hc
 obtain ⟨yo,yc,rfl,-⟩:=hcy.shape
 obtain ⟨so,sc,rfl,-⟩:=hcv.shape
 have hc:IsRCut w _ c:=⟨_,_,rfl,hcy,hcv,hck⟩
 clear hcy hcv hck
 have hxp:=(Ext.refl (fun _=>False) w).alloc (.cells #[.slice vo vn vc,.slice ro rn rc] 25)
 obtain ⟨kd,hkd⟩:∃ x,c.kind=x:=⟨_,rfl⟩
 obtain ⟨yn,hyn⟩:∃ x,c.mul.length=x:=⟨_,rfl⟩
 obtain ⟨cw,hcw⟩:∃ x,c.row=x:=⟨_,rfl⟩
 obtain ⟨sl,hsl⟩:∃ x,c.vars.length=x:=⟨_,rfl⟩
 rw [hkd,hyn,hcw,hsl] at hc ⊢
 clear hkd hyn hcw hsl
 have hxq:=(Ext.refl (fun _=>False) (w.alloc (.cells #[.slice vo vn vc,.slice ro rn rc] 25))).alloc (.cells #[.int .i64 kd,.slice yo yn yc,.int .i64 cw,.slice so sl sc] 29)
 have hxa:=hxp.trans hxq
 have hcb:blk ((w.alloc (.cells #[.slice vo vn vc,.slice ro rn rc] 25)).alloc (.cells #[.int .i64 kd,.slice yo yn yc,.int .i64 cw,.slice so sl sc] 29)) (w.heap.size+1)=some (.cells #[.int .i64 kd,.slice yo yn yc,.int .i64 cw,.slice so sl sc] 29 (0,0)):=by
  have h:=blk_alloc_at (w.alloc (.cells #[.slice vo vn vc,.slice ro rn rc] 25)) (.cells #[.int .i64 kd,.slice yo yn yc,.int .i64 cw,.slice so sl sc] 29)
  rwa [World.size_alloc] at h
 have HB:=bH (bI (hp.keep hxa) (bI (blk_keep (blk_alloc_at w (.cells #[.slice vo vn vc,.slice ro rn rc] 25)) hxq) (bI hxa hcb)))
 have HCt:=bH (fun W (hW:XF ((w.alloc (.cells #[.slice vo vn vc,.slice ro rn rc] 25)).alloc (.cells #[.int .i64 kd,.slice yo yn yc,.int .i64 cw,.slice so sl sc] 29)) W)=>hc.keep (hxa.trans hW))
 clear hcb hxq
 clear hp hxa hxp  hc
 go_enter Tryz.func3,Tryz.ntmps3
 go_upto_region 1 with fail
 generalize (w.alloc (.cells #[.slice vo vn vc,.slice ro rn rc] 25)).alloc (.cells #[.int .i64 kd,.slice yo yn yc,.int .i64 cw,.slice so sl sc] 29)=w1 at *
 obtain ⟨pb,hpb⟩:∃ q,w.heap.size=q:=⟨_,rfl⟩
 rw [hpb] at HB ⊢
 have HPb:=bH (Nat.le_of_eq hpb)
 clear hpb
 have p0:w1.cell? ⟨pb,0,none⟩=some (.slice vo vn vc):=cellq HB.out.2.1 0 rfl
 have p1:w1.cell? ⟨pb,1,none⟩=some (.slice ro rn rc):=cellq HB.out.2.1 1 rfl
 obtain ⟨cb,hcb⟩:∃ q,pb+1=q:=⟨_,rfl⟩
 rw [hcb] at HB ⊢
 clear hcb
 have c0:=cellq HB.out.2.2.2 0 rfl
 have c1:=cellq HB.out.2.2.2 1 rfl
 have c2:=cellq HB.out.2.2.2 2 rfl
 have c3:=cellq HB.out.2.2.2 3 rfl
 have HC0:=bH (fun W (hW:XF w1 W)=>show Calls Tryz.prog 10 #[(.agg #[.slice vo vn vc,.slice ro rn rc]),.int .i64 6,.int .i64 8] W (BoolPost W (fewP p 6 8)) from FewP_any W (.agg #[.slice vo vn vc,.slice ro rn rc]) p 6 8 (by decide) (by decide) (HB.out.1.keep hW))
 obtain ⟨b0,hb0⟩:∃ b,fewP p 6 8=b:=⟨_,rfl⟩
 rw [hb0] at HC0
 have HG0:=bH hb0
 clear hb0
 cases b0 with
 | false =>
  go_upto_region 2 with (first | (go_at_call 9; (with_reducible refine (awake7_any _).mono ?_); rintro q2 w2 ⟨rfl,hx2⟩; replace p0:=cell_keep p0 hx2; replace p1:=cell_keep p1 hx2; replace c0:=cell_keep c0 hx2; replace c1:=cell_keep c1 hx2; replace c2:=cell_keep c2 hx2; replace c3:=cell_keep c3 hx2) | (go_at_call 10; (with_reducible refine (HC0.out _ (hx2)).mono ?_); rintro q3 w3 ⟨rfl,hx3⟩; replace p0:=cell_keep p0 hx3; replace p1:=cell_keep p1 hx3; replace c0:=cell_keep c0 hx3; replace c1:=cell_keep c1 hx3; replace c2:=cell_keep c2 hx3; replace c3:=cell_keep c3 hx3))
  go_wp2_with (go_at_call 9; refine (awake7_any _).mono ?_; rintro r8 w8 ⟨rfl,hx8⟩)
  go_ret
  exact ⟨rfl,(HB.out.2.2.1.trans (hx2.trans hx3)).trans hx8⟩
 | true =>
 have HC1:=bH (fun W (hW:XF w1 W)=>show Calls Tryz.prog 11 #[(.agg #[.int .i64 kd,.slice yo yn yc,.int .i64 cw,.slice so sl sc])] W (BoolPost W (few7 c)) from Few7_any W (.agg #[.int .i64 kd,.slice yo yn yc,.int .i64 cw,.slice so sl sc]) c (HCt.out W hW))
 obtain ⟨b1,hb1⟩:∃ b,few7 c=b:=⟨_,rfl⟩
 rw [hb1] at HC1
 have HG1:=bH hb1
 clear hb1
 cases b1 with
 | false =>
  go_upto_region 2 with (first | (go_at_call 9; (with_reducible refine (awake7_any _).mono ?_); rintro q2 w2 ⟨rfl,hx2⟩; replace p0:=cell_keep p0 hx2; replace p1:=cell_keep p1 hx2; replace c0:=cell_keep c0 hx2; replace c1:=cell_keep c1 hx2; replace c2:=cell_keep c2 hx2; replace c3:=cell_keep c3 hx2) | (go_at_call 10; (with_reducible refine (HC0.out _ (hx2)).mono ?_); rintro q3 w3 ⟨rfl,hx3⟩; replace p0:=cell_keep p0 hx3; replace p1:=cell_keep p1 hx3; replace c0:=cell_keep c0 hx3; replace c1:=cell_keep c1 hx3; replace c2:=cell_keep c2 hx3; replace c3:=cell_keep c3 hx3) | (go_at_call 11; (with_reducible refine (HC1.out _ (hx2.trans hx3)).mono ?_); rintro q4 w4 ⟨rfl,hx4⟩; replace p0:=cell_keep p0 hx4; replace p1:=cell_keep p1 hx4; replace c0:=cell_keep c0 hx4; replace c1:=cell_keep c1 hx4; replace c2:=cell_keep c2 hx4; replace c3:=cell_keep c3 hx4))
  go_wp2_with (go_at_call 9; refine (awake7_any _).mono ?_; rintro r8 w8 ⟨rfl,hx8⟩)
  go_ret
  exact ⟨rfl,(HB.out.2.2.1.trans ((hx2.trans hx3).trans hx4)).trans hx8⟩
 | true =>
 go_upto_region 3 with (first | (go_at_call 9; (with_reducible refine (awake7_any _).mono ?_); rintro q2 w2 ⟨rfl,hx2⟩; replace p0:=cell_keep p0 hx2; replace p1:=cell_keep p1 hx2; replace c0:=cell_keep c0 hx2; replace c1:=cell_keep c1 hx2; replace c2:=cell_keep c2 hx2; replace c3:=cell_keep c3 hx2) | (go_at_call 10; (with_reducible refine (HC0.out _ (hx2)).mono ?_); rintro q3 w3 ⟨rfl,hx3⟩; replace p0:=cell_keep p0 hx3; replace p1:=cell_keep p1 hx3; replace c0:=cell_keep c0 hx3; replace c1:=cell_keep c1 hx3; replace c2:=cell_keep c2 hx3; replace c3:=cell_keep c3 hx3) | (go_at_call 11; (with_reducible refine (HC1.out _ (hx2.trans hx3)).mono ?_); rintro q4 w4 ⟨rfl,hx4⟩; replace p0:=cell_keep p0 hx4; replace p1:=cell_keep p1 hx4; replace c0:=cell_keep c0 hx4; replace c1:=cell_keep c1 hx4; replace c2:=cell_keep c2 hx4; replace c3:=cell_keep c3 hx4))
 have HX:=bH ((hx2.trans hx3).trans hx4)
 clear hx2 hx3 hx4 HC0 HC1
 have HCv:=bH (fun W (hW:XF w1 W)=>show IsCut W (.agg #[.int .i64 kd,.slice yo yn yc,.int .i64 cw,.slice so sl sc]) c.c 4 from (HCt.out W hW).cut HG1.out)
 obtain ⟨hT,hn6,hm6⟩:=few_parts7 HG0.out
 have hs7:CSmall p c.c:=⟨hn6,hm6,hT,few7_vars HG1.out⟩
 have HRo:=bH (derv_in hs7)
 have HLaw:=bH (fun (he:(deriveP p c.c).2=0)=>show validB p=true/\rowB p.vars.length (deriveP p c.c).1=true/\∀ x:List Rat,PtOk p p.vars.length x->violQ p x=[]->holdsB (deriveP p c.c).1 (clipQ p x)=true from
  ⟨(derive_ok (p:=p) (c:=c.c) (r:=(deriveP p c.c).1) (by rw [<- he])).1,derive_row (p:=p) (c:=c.c) (r:=(deriveP p c.c).1) (by rw [<- he]),fun x hx hv=>derive_holds (p:=p) (c:=c.c) (r:=(deriveP p c.c).1) (by rw [<- he]) hx.inside hv hx.int⟩)
 obtain ⟨⟨⟨nm,gr,kr,ts,br⟩,er⟩,hre⟩:∃ re,deriveP p c.c=re:=⟨_,rfl⟩
 rw [hre] at HLaw HRo
 obtain ⟨tn,htn⟩:∃ n,ts.length=n:=⟨_,rfl⟩
 have HDv:=bH (fun W (hW:XF w1 W)=>show Calls Tryz.prog 12 #[(.agg #[.slice vo vn vc,.slice ro rn rc]),(.agg #[.int .i64 kd,.slice yo yn yc,.int .i64 cw,.slice so sl sc])] W (DrvAs W nm gr kr ts tn br er) from (Derive_any W (.agg #[.slice vo vn vc,.slice ro rn rc]) (.agg #[.int .i64 kd,.slice yo yn yc,.int .i64 cw,.slice so sl sc]) p c.c (HB.out.1.keep hW) ((HCv.out W hW).mono (by decide)) hs7).mono (fun _ _ h=>h.as hre htn))
 clear hre
 have HVi:=bH (fun W (x:List Rat) xv (hW:XF w1 W) (hx:Rats W xv x 4)=>show Calls Tryz.prog 14 #[(.agg #[.slice vo vn vc,.slice ro rn rc]),xv] W (fun r w'=>∃ ao c,r=.returned (.slice ao (violQ p x).length c)/\XF W w') from (Violated4_any W (.agg #[.slice vo vn vc,.slice ro rn rc]) xv p x 4 12 (HB.out.1.keep hW) hx (by decide) hT (by decide) (by omega) (by omega)).mono (fun r w' hh=>by obtain ⟨v,rfl,hn,hx⟩:=hh; obtain ⟨ao,c,rfl⟩:=hn.shape; exact ⟨ao,c,rfl,hx⟩))
 have HHo:=bH (fun (he:er=0) W (x:List Rat) xv (hW:XF w1 W) (hx:Rats W xv x 4) ta tc (ht:Tms W (.slice ta tn tc) ts)=>show Calls Tryz.prog 15 #[(.agg #[.slice vo vn vc,.slice ro rn rc]),.agg #[.string nm,.int .i64 gr,.int .i64 kr,.slice ta tn tc,.int .i64 br],xv] W (BoolPost W (holdsB ⟨nm,gr,kr,ts,br⟩ (clipQ p x))) from by
  have h:=Holds_any W (.agg #[.slice vo vn vc,.slice ro rn rc]) xv p ⟨nm,gr,kr,ts,br⟩ x 4 1000 ta tc (HB.out.1.keep hW) (HRo.out he).1 (by rw [htn]; exact ht) hx (by decide) (HRo.out he).2 (by decide) (by omega)
  rwa [htn] at h)
 have HVr:=bH (fun (he:er=0) W ta tc (ht:Tms W (.slice ta tn tc) ts)=>show Calls Tryz.prog 16 #[.int .i64 vn,.agg #[.string nm,.int .i64 gr,.int .i64 kr,.slice ta tn tc,.int .i64 br]] W (BoolPost W true) from by
  have h:=ValidRow_any W p.vars.length (by omega) ⟨nm,gr,kr,ts,br⟩ ta tc (HRo.out he).1 (by rw [htn]; exact ht)
  rw [htn,(HLaw.out he).2.1,HLn.out.1] at h
  exact h)
 have HPt:=bH (fun (he:er=0) W (hW:XF w1 W)=>show Calls Tryz.prog 13 #[(.agg #[.slice vo vn vc,.slice ro rn rc]),.int .i64 200] W (PtsPost W p) from Points_any W (.agg #[.slice vo vn vc,.slice ro rn rc]) p (HB.out.1.keep hW) (HLaw.out he).1 hn6)
 clear htn hs7 hT hm6 hn6
 go_upto_region 4 with (go_at_call 12; (with_reducible refine (HDv.out _ HX.out).mono ?_); rintro q6 w6 ⟨ta,tc,rfl,h6,hx6⟩)
 have hxa:=(Ext.refl (fun _=>False) w6).alloc (.cells #[.string nm,.int .i64 gr,.int .i64 kr,.slice ta tn tc,.int .i64 br] 35)
 have HR:=bH (bI (blk_alloc_at w6 (.cells #[.string nm,.int .i64 gr,.int .i64 kr,.slice ta tn tc,.int .i64 br] 35)) (h6.keep hxa))
 replace HX:=bH ((HX.out.trans hx6).trans hxa)
 replace p0:=cell_keep p0 (hx6.trans hxa)
 replace p1:=cell_keep p1 (hx6.trans hxa)
 clear h6 hx6 hxa c0 c1 c2 c3 HDv
 generalize w6.alloc (.cells #[.string nm,.int .i64 gr,.int .i64 kr,.slice ta tn tc,.int .i64 br] 35)=w7 at *
 generalize w6.heap.size=rb at *
 by_cases he:er=0
 case neg =>
  go_wp2
  go_ret
  exact ⟨rfl,HB.out.2.2.1.trans HX.out⟩
 subst he
 replace HHo:=bH (HHo.out rfl)
 replace HLaw:=bH (HLaw.out rfl).2.2
 replace HVr:=bH (HVr.out rfl)
 replace HPt:=bH (HPt.out rfl _ HX.out)
 clear HRo
 have r0:=cellq HR.out.1 0 rfl
 have r1:=cellq HR.out.1 1 rfl
 have r2:=cellq HR.out.1 2 rfl
 have r3:=cellq HR.out.1 3 rfl
 have r4:=cellq HR.out.1 4 rfl
 go_upto_block 0 with (go_at_call 13; (with_reducible refine HPt.out.mono ?_); rintro q8 w8 ⟨ov,qs,rfl,hpt,hok,hx8⟩; obtain ⟨oo,oc,hov⟩:=ownsRow_shape hpt.own; have hle:=owns_le hpt.own; have HP:=bH (bI hpt hok); clear hpt hok; obtain ⟨n,hn⟩:∃ n,qs.length=n:=(⟨_,rfl⟩); rw [hn] at hov hle; have hmx:n<=9223372036854775807:=Nat.le_trans hle (by unfold maxLen; decide); have HN:=bH hn; clear hn hle; subst hov)
 replace HX:=bH (HX.out.trans hx8)
 replace p0:=cell_keep p0 hx8; replace p1:=cell_keep p1 hx8; replace r0:=cell_keep r0 hx8; replace r1:=cell_keep r1 hx8; replace r2:=cell_keep r2 hx8; replace r3:=cell_keep r3 hx8; replace r4:=cell_keep r4 hx8
 have HRk:=bH (fun W (hW:XF w8 W)=>HR.out.2.keep (hx8.trans hW))
 clear hx8 HPt
 go_wp2_with fail
 go_loopg [33] n (fun gg v33 wr=>∃ i:Nat,i<=n/\gg=n - i/\v33=.int .i64 i/\XF w8 wr)
 case atStart=>exact ⟨0,Nat.zero_le _,rfl,rfl,Ext.refl _ _⟩
 case round =>
  obtain ⟨i,hi,rfl,rfl,hx9⟩:=hrel
  replace p0:=cell_keep p0 hx9; replace p1:=cell_keep p1 hx9; replace r0:=cell_keep r0 hx9; replace r1:=cell_keep r1 hx9; replace r2:=cell_keep r2 hx9; replace r3:=cell_keep r3 hx9; replace r4:=cell_keep r4 hx9
  by_cases hin:i<n
  ·have i0:(i:Int)<(n:Int):=by omega
   have i1:(0:Int)<=(i:Int):=by omega
   have hil:i<qs.length:=by rw [HN.out]; exact hin
   have hpk:=HP.out.1.keep hx9
   obtain ⟨b,c',he,hc1,-,hcell⟩:=hpk.at hil
   have hnc:n<=oc:=by
    rcases hpk.own.2 with ⟨h,_⟩ | ⟨_,_,_,h,_,_,h3,_⟩
    ·cases h; omega
    ·cases h; rw [<- HN.out]; exact h3
   obtain rfl:oo=some ⟨b,0,none⟩:=by injection he
   have hmem:qs.getD i ⟨none,0,0,[]⟩ ∈ qs:=by rw [getD_lt hil]; exact List.getElem_mem _
   have hok:=HP.out.2 _ hmem
   have hrw:=hpk.pts _ hmem
   generalize qs.getD i ⟨none,0,0,[]⟩=q at *
   obtain ⟨xo,xn,xc,x⟩:=q
   have HQ:=bH (bI hrw.rats (HLaw.out x hok))
   have HVx:=bH (fun W (hW:XF wr W)=>HVi.out W x (.slice xo xn xc) ((HX.out.trans hx9).trans hW) (HQ.out.1.keep hW))
   have HHx:=bH (fun W ta tc (hW:XF wr W) (ht:Tms W (.slice ta tn tc) ts)=>HHo.out W x (.slice xo xn xc) ((HX.out.trans hx9).trans hW) (HQ.out.1.keep hW) ta tc ht)
   clear he hmem hok hrw hpk
   obtain ⟨nx,hnx⟩:∃ n,(violQ p x).length=n:=⟨_,rfl⟩
   rw [hnx] at HVx
   by_cases hz:nx=0
   ·subst hz
    rw [HQ.out.2 (List.length_eq_zero_iff.1 hnx)] at HHx
    clear hnx
    go_wp2_with (first
     | (go_at_call 14; (with_reducible refine (HVx.out _ (Ext.refl _ _)).mono ?_); rintro q10 w10 ⟨vo2,vc2,rfl,hx10⟩; replace p0:=cell_keep p0 hx10; replace p1:=cell_keep p1 hx10; replace r0:=cell_keep r0 hx10; replace r1:=cell_keep r1 hx10; replace r2:=cell_keep r2 hx10; replace r3:=cell_keep r3 hx10; replace r4:=cell_keep r4 hx10)
     | (go_at_call 15; (with_reducible refine (HHx.out _ _ _ hx10 (HRk.out _ (hx9.trans hx10))).mono ?_); rintro q11 w11 ⟨rfl,hx11⟩))
    go_roundg (n - (i+1))
    case measure=>omega
    case rel=>exact ⟨i+1,by omega,rfl,by go_num,(hx9.trans hx10).trans hx11⟩
   ·have hz1:¬ (nx:Int)=0:=by omega
    clear hnx
    go_wp2_with (first
     | (go_at_call 14; (with_reducible refine (HVx.out _ (Ext.refl _ _)).mono ?_); rintro q10 w10 ⟨vo2,vc2,rfl,hx10⟩))
    go_roundg (n - (i+1))
    case measure=>omega
    case rel=>exact ⟨i+1,by omega,rfl,by go_num,hx9.trans hx10⟩
  ·obtain rfl:i=n:=by omega
   have i0:¬ (i:Int)<(i:Int):=by omega
   go_wp2_with (go_at_call 16; (with_reducible refine (HVr.out _ _ _ (HRk.out _ hx9)).mono ?_); rintro q12 w12 ⟨rfl,hx12⟩)
   go_ret
   exact ⟨rfl,HB.out.2.2.1.trans ((HX.out.trans hx9).trans hx12)⟩
end Go.Proofs.YtjaldknfeojjkaaGreat
