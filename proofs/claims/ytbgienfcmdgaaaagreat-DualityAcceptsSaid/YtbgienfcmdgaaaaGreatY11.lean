/-
  Texts of the proof, part 11. Conditions: each lemma names its own.
-/
import Derived.Test.YtbgienfcmdgaaaaGreatY1
import Derived.Test.YtbgienfcmdgaaaaGreatY10
import Derived.Test.YtbgienfcmdgaaaaGreatY4
import Derived.Test.YtbgienfcmdgaaaaGreatY6
import Derived.Test.YtbgienfcmdgaaaaGreatY7
import Derived.Test.YtbgienfcmdgaaaaGreatY9
import Derived.Maps.RangeWalk
set_option linter.unusedVariables false
set_option linter.unusedSimpArgs false
set_option maxRecDepth 100000
set_option maxHeartbeats 16000000
namespace Go.Proofs.YtbgienfcmdgaaaaGreat
open Go.RowKit Go.MapKept
open Go.ChangeMaps (setBlock)
section
variable {N:Nat} {T:TabF} {D:Tb}
theorem Rep.sum (h:Rep N T D) (F:Nat->Rat):sumTo T.n (fun j=>F (T.fr j))=sumTo N (fun t=>if D.B t then 0 else F t):=by
 rw [sumTo_congr (g:=fun j=>sumTo N (fun t=>if t=T.fr j then F (T.fr j) else 0)) (fun j hj=>by rw [sumTo_one,if_pos (h.fr j hj)]),sumTo_swap]
 refine sumTo_congr fun t ht=>?_
 cases hb:D.B t with
 | true =>
  rw [if_pos rfl]
  exact sumTo_zero' fun j hj=>if_neg fun e=>by rw [e,h.free j hj] at hb; cases hb
 | false =>
  rw [if_neg Bool.false_ne_true]
  obtain ⟨j0,h0,e0⟩:=h.frs t ht hb
  rw [sumTo_congr (g:=fun j=>if j=j0 then F t else 0) (fun j hj=>by
   by_cases e:j=j0
   ·rw [e,if_pos e0.symm,if_pos rfl,e0]
   ·rw [if_neg e,if_neg (fun e2=>e (h.fi j j0 hj h0 (by rw [e0,e2])))]),sumTo_one,if_pos h0]
theorem rayN_some {c i v:Nat}:∀ {m:Nat},i<m->T.ba i=v->(∀ j k,j<m->k<m->T.ba j=T.ba k->j=k)->rayN T c m v = -T.al i c
 | 0,h,_,_=>absurd h (Nat.not_lt_zero i)
 | m+1,h,hv,hu=>by
  unfold rayN
  by_cases e:i=m
  ·subst e; rw [if_pos hv]
  ·rw [if_neg (fun e2=>e (hu i m (by omega) (by omega) (hv.trans e2.symm)))]
   exact rayN_some (by omega) hv (fun j k hj hk=>hu j k (by omega) (by omega))
theorem rayN_none {c v:Nat}:∀ {m:Nat},(∀ i,i<m->T.ba i≠v)->rayN T c m v=if T.fr c=v then 1 else 0
 | 0,_=>rfl
 | m+1,h=>by
  unfold rayN
  rw [if_neg (h m (by omega))]
  exact rayN_none (fun i hi=>h i (by omega))
theorem Rep.ray (h:Rep N T D) {c:Nat} (hc:c<T.n) (v:Nat):rayN T c T.m v=extT N D 0 (oneAt (T.fr c)) v:=by
 cases hb:D.B v with
 | true =>
  obtain ⟨i,hi,rfl⟩:=h.bas v hb
  rw [rayN_some hi rfl h.bi,ext_basic hb,sum_oneAt _ (h.fr c hc) (h.free c hc),h.al i c hi hc]; grind
 | false =>
  rw [ext_free hb,rayN_none (fun i hi e=>by rw [<- e,h.ba i hi] at hb; cases hb)]
  unfold oneAt
  by_cases e:T.fr c=v
  ·rw [if_pos e,if_pos e.symm]
  ·rw [if_neg e,if_neg (Ne.symm e)]
theorem Rep.basic (h:Rep N T D):Sol N D 1 D.b:=by
 have h1:=ext_sol h.wf 1 (fun _=>0)
 have e:extT N D 1 (fun _=>0)=D.b:=funext fun t=>by
  cases hb:D.B t with
  | true=>rw [ext_basic hb,sum_none]; grind
  | false=>rw [ext_free hb,h.wf.rhs t hb]
 rwa [e] at h1
theorem Rep.bge (h:Rep N T D) (hb:∀ k,k<T.m->0<=T.be k) (v:Nat):0<=D.b v:=by
 cases hB:D.B v with
 | true =>
  obtain ⟨k,hk,rfl⟩:=h.bas v hB
  rw [h.be k hk]; exact hb k hk
 | false=>rw [h.wf.rhs v hB]; exact Rat.le_refl
theorem Rep.dge (h:Rep N T D) (hd:∀ j,j<T.n->0<=T.d j) {v:Nat} (hv:v<N):0<=D.d v:=by
 cases hB:D.B v with
 | true=>rw [h.wf.cost v hB]; exact Rat.le_refl
 | false =>
  obtain ⟨k,hk,rfl⟩:=h.frs v hv hB
  rw [h.d k hk]; exact hd k hk
end
section
variable {p:ProgV} {us ls:List LimV} {T T1 T2:TabF} {D:Tb} {o:OutV}
theorem multN_sum (f:Nat->Nat) (g:Nat->Rat) (r:Nat):∀ m:Nat,multN p us f g m r=sumTo m fun k=>multS p us (f k) (g k) r
 | 0=>rfl
 | m+1=>by
  show multN p us f g m r+_=sumTo m _+_
  rw [multN_sum f g r m]
theorem multS_zero (v r:Nat):multS p us v 0 r=0:=by
 unfold multS
 split
 ·rfl
 ·split
  ·split
   ·rfl
   ·grind
  ·rfl
theorem yW_sum (W:Nat->Rat) (r:Nat):yW p us W r=sumTo (p.vars.length+us.length) fun t=>multS p us t (W t) r:=by
 rw [sumTo_split,sumTo_zero' (f:=fun t=>multS p us t (W t) r) (fun t ht=>by unfold multS; rw [if_pos ht])]
 unfold yW
 rw [sumTo_congr (g:=fun j=>multS p us (p.vars.length+j) (W (p.vars.length+j)) r) (fun j hj=>by
  have e0:multS p us (p.vars.length+j) (W (p.vars.length+j)) r=if (us.getD j lim0).row=(r:Int) then (if (us.getD j lim0).tur then W (p.vars.length+j) else -W (p.vars.length+j)) else 0:=by
   unfold multS
   rw [if_neg (show ¬ p.vars.length+j<p.vars.length by omega),Nat.add_sub_cancel_left]
  rw [e0]
  by_cases e:(us.getD j lim0).row=(r:Int)
  ·rw [if_pos e,if_pos e]
   unfold limSg
   rw [if_neg (show ¬ (us.getD j lim0).row<0 by omega)]
   split
   ·show -(((-1:Int):Rat)*_)=_
    grind
   ·show -(((1:Int):Rat)*_)=_
    grind
  ·rw [if_neg e,if_neg e])]
 grind
theorem mult_opt (h:Rep (p.vars.length+us.length) T D) (r:Nat):multN p us T.fr T.d T.n r=yW p us D.d r:=by
 rw [multN_sum,yW_sum]
 refine Eq.trans (sumTo_congr (g:=fun j=>multS p us (T.fr j) (D.d (T.fr j)) r) (fun j hj=>by rw [h.d j hj])) ((h.sum (fun t=>multS p us t (D.d t) r)).trans ?_)
 refine sumTo_congr fun t _=>?_
 cases hb:D.B t with
 | true=>rw [if_pos rfl,h.wf.cost t hb,multS_zero]
 | false=>rw [if_neg Bool.false_ne_true]
theorem mult_inf (h:Rep (p.vars.length+us.length) T D) {i:Nat} (hi:i<T.m) (r:Nat):multN p us (infV T i) (infW T i) (T.n+1) r=yW p us (D.M (T.ba i)) r:=by
 rw [multN_sum,yW_sum]
 show sumTo T.n _+_=_
 have hb:=h.ba i hi
 have e0:sumTo T.n (fun k=>multS p us (infV T i k) (infW T i k) r)=_:=Eq.trans (sumTo_congr (g:=fun j=>multS p us (T.fr j) (D.M (T.ba i) (T.fr j)) r) (fun j hj=>by
  unfold infV infW
  rw [if_neg (show ¬ j=T.n by omega),if_neg (show ¬ j=T.n by omega),h.al i j hi hj])) (h.sum (fun t=>multS p us t (D.M (T.ba i) t) r))
 rw [e0]
 have e1:multS p us (infV T i T.n) (infW T i T.n) r=sumTo (p.vars.length+us.length) (fun t=>if t=T.ba i then multS p us (T.ba i) 1 r else 0):=by
  rw [sumTo_one,if_pos (h.wf.dom _ hb)]
  unfold infV infW
  rw [if_pos rfl,if_pos rfl]
 show _+multS p us (infV T i T.n) (infW T i T.n) r=_
 rw [e1,<- sumTo_add]
 refine sumTo_congr fun t _=>?_
 cases hbt:D.B t with
 | true =>
  rw [if_pos rfl,h.wf.unit _ _ hb hbt]
  by_cases e:t=T.ba i
  ·rw [if_pos e,if_pos e.symm,e]; grind
  ·rw [if_neg e,if_neg (Ne.symm e),multS_zero]; grind
 | false =>
  rw [if_neg Bool.false_ne_true,if_neg (fun e=>by rw [e,hb] at hbt; cases hbt)]; grind
theorem allOk_of (hg:Good p ls T us) (hok:∀ l ∈ ls,LimOk p l):AllOk p us:=fun j hj=>hok _ (hg.sub _ (by
 rw [List.getD_eq_getElem?_getD,List.getElem?_eq_getElem hj]
 exact List.getElem_mem hj))
theorem dual_its {N:Nat} (hr:Rep N T D):∀ (j:Nat) {T':TabF},itF (dstepF (goodF T)) j T=some T'->∃ D',DuSt N (goodF T) T D j T' D'
 | 0,T',h=>by
  obtain rfl:T=T':=Option.some.inj h
  exact ⟨D,DuSt.start hr fun e=>hasNeg_iff.1 (by unfold goodF at e; simpa using e)⟩
 | j+1,T',h=>by
  have h':(itF (dstepF (goodF T)) j T).bind (dstepF (goodF T))=some T':=h
  obtain ⟨Tj,h1,h2⟩:=Option.bind_eq_some_iff.1 h'
  obtain ⟨D',hd⟩:=dual_its hr j h1
  obtain ⟨i,h3,h4⟩:=Option.bind_eq_some_iff.1 h2
  obtain ⟨c,h5,h6⟩:=Option.bind_eq_some_iff.1 h4
  obtain ⟨_,_,_,hn⟩:=hd.next h3 h5
  obtain rfl:=Option.some.inj h6
  exact ⟨_,hn⟩
theorem prim_its {N:Nat} (hr:Rep N T D) (hb:∀ k,k<T.m->0<=T.be k):∀ (j:Nat) {T':TabF},itF pstepF j T=some T'->∃ D',PrSt N T D j T' D'
 | 0,T',h=>by
  obtain rfl:T=T':=Option.some.inj h
  exact ⟨D,PrSt.start hr hb⟩
 | j+1,T',h=>by
  have h':(itF pstepF j T).bind pstepF=some T':=h
  obtain ⟨Tj,h1,h2⟩:=Option.bind_eq_some_iff.1 h'
  obtain ⟨D',hd⟩:=prim_its hr hb j h1
  obtain ⟨c,h3,h4⟩:=Option.bind_eq_some_iff.1 h2
  obtain ⟨i,h5,h6⟩:=Option.bind_eq_some_iff.1 h4
  obtain ⟨_,_,_,hn⟩:=hd.next h3 h5
  obtain rfl:=Option.some.inj h6
  exact ⟨_,hn⟩
theorem Good.dual (hg:Good p ls T us) (hh:Halts (dstepF (goodF T)) T T1):Good p ls T1 us:=by
 obtain ⟨D,hr,he⟩:=hg.rep
 obtain ⟨⟨k,hk⟩,_⟩:=hh
 obtain ⟨D',hd⟩:=dual_its hr k hk
 exact ⟨⟨D',hd.rep,he.trans hd.short.2.1⟩,hg.nd,hg.sub⟩
theorem Good.prim (hg:Good p ls T us) (hb:∀ k,k<T.m->0<=T.be k) (hh:Halts pstepF T T1):Good p ls T1 us/\∀ k,k<T1.m->0<=T1.be k:=by
 obtain ⟨D,hr,he⟩:=hg.rep
 obtain ⟨⟨k,hk⟩,_⟩:=hh
 obtain ⟨D',hd⟩:=prim_its hr hb k hk
 refine ⟨⟨⟨D',hd.rep,he.trans hd.short.2.1⟩,hg.nd,hg.sub⟩,fun k hk=>?_⟩
 rw [<- hd.rep.be k hk]
 exact hd.short.2.2.2 _
theorem more_good {z:List Rat} {dir:Bool} (hv:validB p=true) (hok:∀ l ∈ ls,LimOk p l):∀ (l2:List LimV) (st:MoreV),(∀ l ∈ l2,l ∈ ls)->Good p ls st.T st.us->Good p ls (moreR p z dir l2 st).T (moreR p z dir l2 st).us
 | [],_,_,h=>h
 | l :: l2,st,hs,h=>by
  show Good p ls (moreR p z dir l2 (moreStep p z dir st l)).T (moreR p z dir l2 (moreStep p z dir st l)).us
  refine more_good hv hok l2 _ (fun x hx=>hs x (List.mem_cons_of_mem _ hx)) ?_
  unfold moreStep
  split
  ·rename_i hc
   have hm:memL st.us l=false:=by
    simp only [Bool.and_eq_true,Bool.not_eq_true'] at hc
    exact hc.1
   exact h.use hv (hok l (hs l (List.mem_cons_self ..))) (hs l (List.mem_cons_self ..)) hm
  ·exact h
theorem slack_use {c:Rat} {x:Nat->Rat} (hv:validB p=true) (hok:AllOk p us) (hx:Sol (p.vars.length+us.length) (baseT p us) c x) {j:Nat} (hj:j<us.length):c*limR p (us.getD j lim0) - sumTo p.vars.length (fun t=>limA p (us.getD j lim0) t*x t)=x (p.vars.length+j):=by
 have hb:(baseT p us).B (p.vars.length+j)=true:=by rw [base_B]; exact decide_eq_true (by omega)
 have h1:=hx _ hb
 rw [sumTo_split,base_b,if_pos (by omega),Nat.add_sub_cancel_left,sumTo_congr (n:=p.vars.length) (g:=fun t=>limA p (us.getD j lim0) t*x t) (fun t ht=>by
  rw [base_M,if_pos (by omega),if_pos ht,Nat.add_sub_cancel_left]),sumTo_congr (n:=us.length) (g:=fun k=>if k=j then x (p.vars.length+j) else 0) (fun k hk=>by
  rw [base_M,if_pos (by omega),if_neg (by omega)]
  by_cases e:k=j
  ·rw [if_pos (by omega),if_pos e,e]; grind
  ·rw [if_neg (by omega),if_neg e]; grind),sumTo_one,if_pos hj] at h1
 grind
theorem mem_getD {l:LimV} (h:l ∈ us):∃ j,j<us.length/\us.getD j lim0=l:=by
 obtain ⟨j,hj,e⟩:=List.getElem_of_mem h
 exact ⟨j,hj,by rw [List.getD_eq_getElem?_getD,List.getElem?_eq_getElem hj,e]; rfl⟩
theorem distF_eq (h:Rep (p.vars.length+us.length) T D):distF p T=listTo p.vars.length D.b:=by
 unfold distF
 rw [show distN T.ba T.be T.m=D.b from funext h.dist]
theorem ptF_eq (h:Rep (p.vars.length+us.length) T D):ptF p T=ptQ p D.b:=by
 unfold ptF ptQ
 rw [show distN T.ba T.be T.m=D.b from funext h.dist]
theorem feas_tab (hv:validB p=true) (hls:∀ l,LimOk p l->l ∈ ls) (hok:AllOk p us) (h:Rep (p.vars.length+us.length) T D) (he:Equ (p.vars.length+us.length) (baseT p us) D) (hb:∀ k,k<T.m->0<=T.be k) (hm:(moreR p (distF p T) false ls ⟨T,us,false⟩).b=false):feasB p (ptQ p D.b)=true/\∀ j,j<us.length->slackQ p (us.getD j lim0) (listTo p.vars.length D.b) false=D.b (p.vars.length+j):=by
 have hs:∀ j,j<us.length->slackQ p (us.getD j lim0) (listTo p.vars.length D.b) false=D.b (p.vars.length+j):=fun j hj=>by
  rw [slack_eq hv (hok j hj),if_neg Bool.false_ne_true]
  have:=slack_use hv hok ((he.sol 1 D.b).2 h.basic) hj
  rw [<- this]; grind
 refine ⟨feas_of hv _ (fun t _=>h.bge hb t) fun l hl=>?_,hs⟩
 by_cases hin:l ∈ us
 ·obtain ⟨j,hj,rfl⟩:=mem_getD hin
  rw [hs j hj]; exact h.bge hb _
 ·have:=(more_no hm).2.2 l (hls l hl) hin
  rwa [distF_eq h] at this
theorem yL_eq {f:Nat->Rat} {W:Nat->Rat} (h:∀ r,f r=yW p us W r):listTo p.rows.length f=yL p us W:=by
 unfold yL
 rw [show f=yW p us W from funext h]
theorem chk_inf (hv:validB p=true) (hok:∀ l ∈ ls,LimOk p l) (hg:Good p ls T us) (hh:Halts (dstepF (goodF T)) T T1) {i:Nat} (hI:dualI T1=some i):chkB p (outInf p us T1 i)=true:=by
 have ha:=allOk_of hg hok
 have hend:=hh.2
 obtain ⟨D,hr,he⟩:=(hg.dual hh).rep
 obtain ⟨hi,hbi⟩:=dualI_some hI
 have hC:dualC (goodF T) T1 i=none:=by
  unfold dstepF at hend
  rw [hI] at hend
  cases hc:dualC (goodF T) T1 i with
  | none=>rfl
  | some c=>rw [show ((some i).bind fun i=>(dualC (goodF T) T1 i).bind fun c=>some (pivF T1 i c))=(dualC (goodF T) T1 i).bind fun c=>some (pivF T1 i c) from rfl,hc] at hend; cases hend
 have hal:=dualC_none hC
 obtain ⟨g1,g2⟩:=base_weights (p:=p) (us:=us) (W:=D.M (T1.ba i)) (be:=D.b (T1.ba i)) (fun c x hx=>(he.sol c x).1 hx _ (hr.ba i hi))
 have hW:∀ t,t<p.vars.length+us.length->0<=D.M (T1.ba i) t:=fun t ht=>by
  cases hb:D.B t with
  | true =>
   rw [hr.wf.unit _ _ (hr.ba i hi) hb]
   split
   ·show (0:Rat)<=1
    decide
   ·exact Rat.le_refl
  | false =>
   obtain ⟨j,hj,rfl⟩:=hr.frs t ht hb
   rw [hr.al i j hi hj]; exact hal j hj
 have hinf:=cert_inf hv ha hW g1 (by
  show sumTo us.length (fun j=>D.M (T1.ba i) (p.vars.length+j)*limR p (us.getD j lim0))<0
  rw [<- g2,hr.be i hi]; exact hbi)
 unfold chkB outInf
 rw [yL_eq (mult_inf hr hi)]
 show chk2 p _=true
 unfold chk2
 rw [hinf]
 simp [yL,listTo_length]
theorem chk_opt (hv:validB p=true) (hls:∀ l,LimOk p l->l ∈ ls) (hok:∀ l ∈ ls,LimOk p l) (hg:Good p ls T2 us) (hb:∀ k,k<T2.m->0<=T2.be k) (hm:(moreR p (distF p T2) false ls ⟨T2,us,false⟩).b=false) (hC:primC T2=none):chkB p (outOpt p us T2)=true:=by
 have ha:=allOk_of hg hok
 obtain ⟨D,hr,he⟩:=hg.rep
 obtain ⟨hf,hs⟩:=feas_tab hv hls ha hr he hb hm
 have hd:∀ t,t<p.vars.length+us.length->0<=D.d t:=fun t ht=>hr.dge (primC_none hC) ht
 obtain ⟨g1,-⟩:=base_weights (p:=p) (us:=us) (W:=fun t=>D.d t - (baseT p us).d t) (be:=-D.z) (fun c x hx=>by
  have h1:=he.obj c x hx
  unfold objT at h1
  rw [show (baseT p us).z=0 from rfl] at h1
  rw [sumTo_congr (g:=fun t=>D.d t*x t - (baseT p us).d t*x t) (fun t _=>by grind),sumTo_sub]
  grind)
 have hcost:∀ t,D.d t*D.b t=0:=fun t=>by
  cases hB:D.B t with
  | true=>rw [hr.wf.cost t hB]; grind
  | false=>rw [hr.wf.rhs t hB]; grind
 have hopt:=cert_opt (W:=D.d) hv ha D.b hf hd (fun t ht=>by
  have:=g1 t ht
  rw [base_d,if_pos ht] at this
  rw [this]
  unfold gW
  exact sumTo_congr fun j hj=>by rw [base_d,if_neg (by omega)]; grind) (fun t _=>hcost t) (fun j hj=>by rw [hs j hj]; exact hcost _)
 unfold chkB outOpt
 rw [yL_eq (mult_opt hr),ptF_eq hr]
 show chk1 p _=true
 unfold chk1
 rw [hopt]
 simp [yL,ptQ,listTo_length]
theorem chk_unb (hv:validB p=true) (hls:∀ l,LimOk p l->l ∈ ls) (hok:∀ l ∈ ls,LimOk p l) (hg:Good p ls T2 us) (hb:∀ k,k<T2.m->0<=T2.be k) (hend:pstepF T2=none) (hm:(moreR p (distF p T2) false ls ⟨T2,us,false⟩).b=false) {c:Nat} (hC:primC T2=some c) (hm2:(moreR p (rayF p T2 c) true ls ⟨T2,us,false⟩).b=false):chkB p (outUnb p T2 c)=true:=by
 have ha:=allOk_of hg hok
 obtain ⟨D,hr,he⟩:=hg.rep
 obtain ⟨hf,-⟩:=feas_tab hv hls ha hr he hb hm
 obtain ⟨hc,hdc⟩:=primC_some hC
 have hI:primI T2 c=none:=by
  unfold pstepF at hend
  rw [hC] at hend
  cases hc:primI T2 c with
  | none=>rfl
  | some i=>rw [show ((some c).bind fun c=>(primI T2 c).bind fun i=>some (pivF T2 i c))=(primI T2 c).bind fun i=>some (pivF T2 i c) from rfl,hc] at hend; cases hend
 have hal:=primI_none hI
 have hrf:rayF p T2 c=listTo p.vars.length (extT (p.vars.length+us.length) D 0 (oneAt (T2.fr c))):=by
  unfold rayF
  rw [show rayN T2 c T2.m=extT (p.vars.length+us.length) D 0 (oneAt (T2.fr c)) from funext (hr.ray hc)]
 have hr0:∀ v,0<=extT (p.vars.length+us.length) D 0 (oneAt (T2.fr c)) v:=fun v=>by
  cases hB:D.B v with
  | true =>
   obtain ⟨k,hk,rfl⟩:=hr.bas v hB
   rw [ext_basic hB,sum_oneAt _ (hr.fr c hc) (hr.free c hc),hr.al k c hk hc]
   have:=hal k hk
   grind
  | false =>
   rw [ext_free hB]
   unfold oneAt
   split
   ·show (0:Rat)<=1
    decide
   ·exact Rat.le_refl
 have hsol:=ext_sol hr.wf 0 (oneAt (T2.fr c))
 have hsl:∀ l,LimOk p l->0<=slackQ p l (listTo p.vars.length (extT (p.vars.length+us.length) D 0 (oneAt (T2.fr c)))) true:=fun l hl=>by
  by_cases hin:l ∈ us
  ·obtain ⟨j,hj,rfl⟩:=mem_getD hin
   rw [slack_eq hv (ha j hj),if_pos rfl]
   have:=slack_use hv ha ((he.sol 0 _).2 hsol) hj
   have h2:=hr0 (p.vars.length+j)
   rw [<- this] at h2
   grind
  ·have:=(more_no hm2).2.2 l (hls l hl) hin
   rwa [hrf] at this
 obtain ⟨k1,k2⟩:=ray_of hv _ (fun t _=>hr0 t) hsl
 have hcost:costQ p (rayF p T2 c)<0:=by
  have h1:=he.obj 0 _ ((he.sol 0 _).2 hsol)
  rw [obj_free hr.wf] at h1
  unfold objT at h1
  rw [sumTo_split,sumTo_zero' (f:=fun j=>(baseT p us).d (p.vars.length+j)*_) (fun j _=>by rw [base_d,if_neg (by omega)]; grind),sumTo_congr (g:=fun t=>((p.v t).co:Rat)*extT (p.vars.length+us.length) D 0 (oneAt (T2.fr c)) t) (fun t ht=>by rw [base_d,if_pos ht]),sumTo_congr (n:=p.vars.length+us.length) (g:=fun u=>if D.B u then 0 else D.d u*oneAt (T2.fr c) u) (fun u _=>by
   cases hB:D.B u with
   | true=>rfl
   | false=>rw [if_neg Bool.false_ne_true,if_neg Bool.false_ne_true,ext_free hB]),sum_oneAt _ (hr.fr c hc) (hr.free c hc),hr.d c hc] at h1
  have e:costQ p (rayF p T2 c)=sumTo p.vars.length (fun t=>((p.v t).co:Rat)*extT (p.vars.length+us.length) D 0 (oneAt (T2.fr c)) t):=by
   rw [hrf]
   exact sumTo_congr fun t ht=>by rw [atQ_listTo _ ht]
  rw [e]
  grind
 have hunb:unbB p (ptF p T2) (rayF p T2 c)=true:=by
  unfold unbB
  rw [ptF_eq hr,hf,decide_eq_true hcost,hrf,k1,k2]; rfl
 unfold chkB outUnb
 show chk3 p _=true
 unfold chk3
 rw [hunb]
 simp [ptF,rayF,listTo_length]
theorem SolveR.chk (hv:validB p=true) (hls:∀ l,LimOk p l->l ∈ ls) (hok:∀ l ∈ ls,LimOk p l) (h:SolveR p ls T us o):Good p ls T us->chkB p o=true/\0<=o.kind/\o.kind<=2:=by
 induction h with
 | inf h1 h2=>exact fun hg=>⟨chk_inf hv hok hg h1 h2,by show (0:Int)<=1; decide,by show (1:Int)<=2; decide⟩
 | go1 h1 h2 h3 h4 _ ih =>
  intro hg
  subst h3
  exact ih (more_good hv hok ls _ (fun _ k=>k) (hg.dual h1))
 | go2 h1 h2 h3 h4 h5 h6 _ ih =>
  intro hg
  subst h5
  exact ih (more_good hv hok ls _ (fun _ k=>k) ((hg.dual h1).prim (dualI_none h2) h4).1)
 | opt h1 h2 h3 h4 h5 h6 =>
  intro hg
  obtain ⟨g1,g2⟩:=(hg.dual h1).prim (dualI_none h2) h4
  exact ⟨chk_opt hv hls hok g1 g2 h5 h6,by show (0:Int)<=0; decide,by show (0:Int)<=2; decide⟩
 | go3 h1 h2 h3 h4 h5 h6 h7 h8 _ ih =>
  intro hg
  subst h7
  exact ih (more_good hv hok ls _ (fun _ k=>k) ((hg.dual h1).prim (dualI_none h2) h4).1)
 | unb h1 h2 h3 h4 h5 h6 h7 =>
  intro hg
  obtain ⟨g1,g2⟩:=(hg.dual h1).prim (dualI_none h2) h4
  exact ⟨chk_unb hv hls hok g1 g2 h4.2 h5 h6 h7,by show (0:Int)<=2; decide,by show (2:Int)<=2; decide⟩
end
open Go.RowKit Go.MapKept Go.Lib
theorem vars_empty (w:World) (ao:Option Addr) (c:Nat) (fv:Value):Calls Tryz.prog 83 #[.slice ao 0 c,fv] w fun r w'=>r=.returned (.bool false)/\w'=w:=by
 have h:∀ W,Calls Tryz.prog 134 #[.slice ao 0 c,fv] W fun r w'=>r=.returned (.int .i64 (-1))/\w'=W:=fun W=>by
  go_enter Tryz.func134,Tryz.ntmps134
  go_wp2_with fail
  go_loopg [8] 0 (fun gg s8 wr=>s8=.int .i64 0/\wr=W)
  case atStart=>exact ⟨rfl,rfl⟩
  case round =>
   obtain ⟨rfl,rfl⟩:=hrel
   go_wp2
   go_ret
   exact ⟨rfl,rfl⟩
 have H:=bH h
 clear h
 go_enter Tryz.func83,Tryz.ntmps83
 go_wp2_with (go_at_call 134; refine (H.out _).mono ?_; rintro e w' ⟨rfl,rfl⟩)
 go_ret
 exact ⟨rfl,rfl⟩
theorem solve1_any (w:World) (v:VarV):Calls Tryz.prog 84 #[.agg (cV v).toArray] w (BoolPost w (!v.op && decide (v.up<v.lo))):=by
 obtain ⟨lo,up,op,ig,co⟩:=v
 show Calls Tryz.prog 84 #[.agg #[.int .i64 lo,.int .i64 up,.bool op,.bool ig,.int .i64 co]] w (BoolPost w (!op && decide (up<lo)))
 have hx:=(Ext.refl (fun _=>False) w).alloc (.cells #[.int .i64 lo,.int .i64 up,.bool op,.bool ig,.int .i64 co] 63)
 have HX:=bH hx
 clear hx
 cases op with
 | true =>
  go_enter Tryz.func84,Tryz.ntmps84
  go_wp2
  go_ret
  exact ⟨rfl,HX.out⟩
 | false =>
  go_enter Tryz.func84,Tryz.ntmps84
  go_wp2
  go_ret
  exact ⟨rfl,HX.out⟩
theorem empties_any (w:World) (vv:Value) (p:ProgV) (hv:Vrs w vv p.vars):Calls Tryz.prog 83 #[vv,.func (.func 84) #[] #[]] w (BoolPost w (emptyB p)):=by
 obtain ⟨vo,vc,rfl,-,hn,-⟩:=hv.shape
 by_cases h0:p.vars.length=0
 ·rw [h0]
  refine (vars_empty w vo vc _).mono ?_
  rintro r w' ⟨rfl,rfl⟩
  refine ⟨ret_bool ?_,Ext.refl _ _⟩
  unfold emptyB
  rw [h0]; rfl
 obtain ⟨b,off,e1,hlt,-⟩:=hv.atp 0 (by omega)
 have hc:∀ j,j<p.vars.length->∀ i u,(cV (p.v j))[i]?=some u->w.cell? ⟨b,off+j*5+i,none⟩=some u:=fun j hj i u hi=>by
  obtain ⟨b',off',e',_,c0,c1,c2,c3,c4,_⟩:=hv.atp j hj
  rw [e1] at e'
  cases e'
  match i,hi with
  | 0,hi=>cases hi; exact c0
  | 1,hi=>cases hi; exact c1
  | 2,hi=>cases hi; exact c2
  | 3,hi=>cases hi; exact c3
  | 4,hi=>cases hi; exact c4
  | i+5,hi=>cases hi
 subst e1
 have hq:=AnyQ.slices_ContainsFunc Tryz.laysVar8 5 Tryz.isAgg63 Tryz.sizeOf63 (fun j=>cV (p.v j)) (fun _=>rfl) (fun j=>!(p.v j).op && decide ((p.v j).up<(p.v j).lo)) 84 #[] (enters_of Tryz.func84 (by kernel_rfl) rfl) b off p.vars.length vc (List.range p.vars.length) w
  (fun W j hW=>by
   have hxx:=Below.ext hW
   refine (solve1_any W _).mono ?_
   rintro e w' ⟨rfl,hx'⟩
   exact ⟨rfl,(hxx.trans hx').below⟩)
  (by simp) hn hlt (fun j hj i u hi=>by
   rw [List.length_range] at hj
   rw [getElem!_pos _ j (by simpa using hj),List.getElem_range] at hi
   exact hc j hj i u hi)
 refine hq.mono ?_
 rintro r w' ⟨rfl,hb⟩
 refine ⟨ret_bool ?_,Below.ext hb⟩
 have ht:List.take p.vars.length (List.range p.vars.length)=List.range p.vars.length:=by rw [List.take_of_length_le (by simp)]
 rw [ht]
 unfold emptyB
 rw [Bool.eq_iff_iff,List.any_eq_true,Bool.not_eq_true',<- Bool.not_eq_true,allTo_iff]
 constructor
 ·rintro ⟨j,hj,h⟩ hall
  have:=hall j (List.mem_range.1 hj)
  simp only [Bool.and_eq_true,Bool.not_eq_true',decide_eq_true_eq] at h
  rw [h.1] at this
  simp at this
  omega
 ·intro h
  refine Classical.byContradiction fun hno=>h fun j hj=>?_
  refine Classical.byContradiction fun hj2=>hno ⟨j,List.mem_range.2 hj,?_⟩
  cases ho:(p.v j).op with
  | true=>rw [ho] at hj2; simp at hj2
  | false =>
   rw [ho] at hj2
   simp at hj2 ⊢
   omega
theorem start_good (p:ProgV):Good p (limsL p) (startF p) []:=by
 refine ⟨⟨baseT p [],⟨base_wf p [],fun j hj=>hj,fun i hi=>absurd hi (Nat.not_lt_zero i),fun j hj=>?_,fun v hv=>?_,fun v hv _=>⟨v,hv,rfl⟩,fun i k hi=>absurd hi (Nat.not_lt_zero i),fun j k _ _ e=>e,fun i j hi=>absurd hi (Nat.not_lt_zero i),fun i hi=>absurd hi (Nat.not_lt_zero i),fun j hj=>?_⟩,Equ.refl _ _⟩,List.nodup_nil,fun l hl=>by cases hl⟩
 ·rw [base_B]
  have hj':j<p.vars.length:=hj
  show decide (p.vars.length<=j/\_)=false
  exact decide_eq_false (by omega)
 ·rw [base_B] at hv
  have:=of_decide_eq_true hv
  simp at this
  omega
 ·have hj':j<p.vars.length:=hj
  rw [base_d]
  show (if j<p.vars.length then _ else _)=coF p j
  rw [if_pos hj']; rfl
def outNone:OutV:=⟨0,0,[],[],[]⟩
def outEmpty (p:ProgV):OutV:=⟨1,0,[],listTo p.rows.length (fun _=>0),[]⟩
inductive SolveV (p:ProgV):OutV->Int->Prop
 | bad:validB p=false->SolveV p outNone 1
 | empty:validB p=true->emptyB p=true->SolveV p (outEmpty p) 0
 | run {o:OutV}:validB p=true->emptyB p=false->SolveR p (limsL p) (startF p) [] o->SolveV p o 0
def SolvePost (w0:World) (p:ProgV) (L:Nat) (r:Ending) (w':World):Prop:=∃ v o e,r=.returned (.tuple #[v,.int .i64 e])/\SolveV p o e/\OutFar w0 w' v o L/\XF w0 w'
theorem Solve_any (w:World) (pv:Value) (p:ProgV) (s L:Nat) (hp:IsPrg w pv p) (hB:validB p=true->BndAll p (limsL p) s) (h2s:2<=s) (hs:s<=200000) (hn:p.vars.length<=400) (hls:2*p.rows.length+p.vars.length<1000)
  (hT:(p.vars.length+1)*(s+8)+s+20<=2000000) (hL1:1+(p.vars.length+1)*(s+1)<=L) (hL2:s+3<=L) (hL3:1+p.vars.length*(s+6)<=L) :
  Calls Tryz.prog 37 #[pv] w (SolvePost w p L):=by
 have HP:=bH hp
 obtain ⟨vv,rv,rfl,hvars,hrows⟩:=hp
 obtain ⟨vo,vc,rfl,-,-,-⟩:=hvars.shape
 obtain ⟨ro,rc,rfl,-,-,-⟩:=hrows.shape
 have HN:=bH (bI hB (bI hn (bI hls (bI hT (bI hL1 (bI hL2 hL3))))))
 have HV:=bH (fun W (hW:XF w W)=>Valid_any W _ p (HP.out.keep hW))
 have HE:=bH (fun W (hW:XF w W)=>empties_any W _ p (hvars.keep hW))
 have hrl:p.rows.length<=1000000:=by omega
 clear hvars hrows hB hn hls hT hL1 hL2 hL3
 obtain ⟨n,hn'⟩:∃ n,p.vars.length=n:=⟨_,rfl⟩
 rw [hn'] at HV HE HP ⊢
 obtain ⟨m,hm'⟩:∃ m,p.rows.length=m:=⟨_,rfl⟩
 rw [hm'] at HV HP hrl ⊢
 have HNm:=bH (bI hn' hm')
 clear hn' hm'
 have hx0:=(Ext.refl (fun _=>False) w).alloc (.cells #[.slice vo n vc,.slice ro m rc] 25)
 have hx1:=hx0.alloc (.cells #[.int .i64 0,.bool false,.slice none 0 0,.slice none 0 0,.slice none 0 0,.slice none 0 0,.slice none 0 0] 34)
 have hpb:blk ((w.alloc (.cells #[.slice vo n vc,.slice ro m rc] 25)).alloc (.cells #[.int .i64 0,.bool false,.slice none 0 0,.slice none 0 0,.slice none 0 0,.slice none 0 0,.slice none 0 0] 34)) w.heap.size=some (.cells #[.slice vo n vc,.slice ro m rc] 25 (0,0)):=blk_keep (blk_alloc_at _ _) ((Ext.refl (fun _=>False) _).alloc _)
 have hob:blk ((w.alloc (.cells #[.slice vo n vc,.slice ro m rc] 25)).alloc (.cells #[.int .i64 0,.bool false,.slice none 0 0,.slice none 0 0,.slice none 0 0,.slice none 0 0,.slice none 0 0] 34)) (w.heap.size+1)=some (.cells #[.int .i64 0,.bool false,.slice none 0 0,.slice none 0 0,.slice none 0 0,.slice none 0 0,.slice none 0 0] 34 (0,0)):=by
  have:=blk_alloc_at (w.alloc (.cells #[.slice vo n vc,.slice ro m rc] 25)) (.cells #[.int .i64 0,.bool false,.slice none 0 0,.slice none 0 0,.slice none 0 0,.slice none 0 0,.slice none 0 0] 34)
  simpa using this
 have HB:=bH (bI hx1 (bI hpb hob))
 clear hx0 hx1 hpb hob
 go_enter Tryz.func37,Tryz.ntmps37
 go_upto_region 1 with fail
 generalize (w.alloc (.cells #[.slice vo n vc,.slice ro m rc] 25)).alloc (.cells #[.int .i64 0,.bool false,.slice none 0 0,.slice none 0 0,.slice none 0 0,.slice none 0 0,.slice none 0 0] 34)=w1 at *
 obtain ⟨ob,hobe⟩:∃ ob,w.heap.size+1=ob:=⟨_,rfl⟩
 have HOl:=bH (show ∀ k,k=ob->w.heap.size<=k by omega)
 rw [hobe] at HB ⊢
 clear hobe
 obtain ⟨pb,hpbe⟩:∃ pb,w.heap.size=pb:=⟨_,rfl⟩
 rw [hpbe] at HB ⊢
 clear hpbe
 have p0:w1.cell? ⟨pb,0,none⟩=some (.slice vo n vc):=cellq HB.out.2.1 0 rfl
 have p1:w1.cell? ⟨pb,1,none⟩=some (.slice ro m rc):=cellq HB.out.2.1 1 rfl
 have hL:1<=L:=by have:=HN.out.2.2.2.2.1; omega
 have HLL:=bH hL
 clear hL
 obtain ⟨vb,hvb⟩:∃ vb,validB p=vb:=⟨_,rfl⟩
 rw [hvb] at HV
 have HVb:=bH hvb
 clear hvb
 cases vb with
 | false =>
  go_wp2_with (go_at_call 57; refine (HV.out _ HB.out.1).mono ?_; rintro r2 w2 ⟨rfl,hx2⟩; have hbo:=blk_keep HB.out.2.2 hx2; have t0:=cellq hbo 0 rfl; have t1:=cellq hbo 1 rfl; have t2:=cellq hbo 2 rfl; have t3:=cellq hbo 3 rfl; have t4:=cellq hbo 4 rfl; have t5:=cellq hbo 5 rfl; have t6:=cellq hbo 6 rfl; have f0:=free_of_cells hbo 0; have f1:=free_of_cells hbo 1; have f2:=free_of_cells hbo 2; have f3:=free_of_cells hbo 3; have f4:=free_of_cells hbo 4; have f5:=free_of_cells hbo 5; have f6:=free_of_cells hbo 6)
  have HPo:=bH (outBox_put (w:=w2) hbo (.int .i64 0) (.bool false) (.slice none 0 0) (.slice none 0 0) (.slice none 0 0) (.slice none 0 0) (.slice none 0 0))
  have HF:=bH (show SolvePost w p L (.returned (.tuple #[.agg #[.int .i64 0,.bool false,.slice none 0 0,.slice none 0 0,.slice none 0 0,.slice none 0 0,.slice none 0 0],.int .i64 1])) _ from ⟨_,outNone,1,rfl,.bad HVb.out,fun S W hX hS hR=>⟨false,none,0,0,none,0,0,_,_,_,rfl,⟨IsRat.zero _,Sz.zero.mono HLL.out⟩,CRats.nil _ _,CRats.nil _ _,CRats.nil _ _,(show InR (0:Int) from ⟨by decide,by decide⟩)⟩,(HB.out.1.trans hx2).own HPo.out.2 HOl.out⟩)
  clear t0 f0 t1 f1 t2 f2 t3 f3 t4 f4 t5 f5 t6 f6 hbo
  generalize ((((((w2.setCell ⟨ob,0,none⟩ (.int .i64 0)).setCell ⟨ob,1,none⟩ (.bool false)).setCell ⟨ob,2,none⟩ (.slice none 0 0)).setCell ⟨ob,3,none⟩ (.slice none 0 0)).setCell ⟨ob,4,none⟩ (.slice none 0 0)).setCell ⟨ob,5,none⟩ (.slice none 0 0)).setCell ⟨ob,6,none⟩ (.slice none 0 0)=w17 at *
  have g0:=cellq HPo.out.1 0 rfl
  have g1:=cellq HPo.out.1 1 rfl
  have g2:=cellq HPo.out.1 2 rfl
  have g3:=cellq HPo.out.1 3 rfl
  have g4:=cellq HPo.out.1 4 rfl
  have g5:=cellq HPo.out.1 5 rfl
  have g6:=cellq HPo.out.1 6 rfl
  exact bodyPost_ret (v:=.tuple #[.agg #[.int .i64 0,.bool false,.slice none 0 0,.slice none 0 0,.slice none 0 0,.slice none 0 0,.slice none 0 0],.int .i64 1]) (by simp [results,Tryz.results37,go_sem,g0,g1,g2,g3,g4,g5,g6]) rfl HF.out
 | true =>
  go_upto_region 3 with (go_at_call 57; refine (HV.out _ HB.out.1).mono ?_; rintro r2 w2 ⟨rfl,hx2⟩; replace p0:=cell_keep p0 hx2; replace p1:=cell_keep p1 hx2)
  have HX2:=bH hx2
  clear hx2
  obtain ⟨eb,heb⟩:∃ eb,emptyB p=eb:=⟨_,rfl⟩
  rw [heb] at HE
  have HEb:=bH heb
  clear heb
  cases eb with
  | true =>
   go_wp2_with (go_at_call 83; refine (HE.out _ (HB.out.1.trans HX2.out)).mono ?_; rintro r3 w3 ⟨rfl,hx3⟩; obtain ⟨w4,hmk,hA,hx4⟩:=run_make_rats w3 m hrl; replace p1:=cell_keep p1 hx3; have hbo:=blk_keep (blk_keep (blk_keep HB.out.2.2 HX2.out) hx3) hx4; have t0:=cellq hbo 0 rfl; have t1:=cellq hbo 1 rfl; have t2:=cellq hbo 2 rfl; have t3:=cellq hbo 3 rfl; have t4:=cellq hbo 4 rfl; have t5:=cellq hbo 5 rfl; have t6:=cellq hbo 6 rfl; have f0:=free_of_cells hbo 0; have f1:=free_of_cells hbo 1; have f2:=free_of_cells hbo 2; have f3:=free_of_cells hbo 3; have f4:=free_of_cells hbo 4; have f5:=free_of_cells hbo 5; have f6:=free_of_cells hbo 6)
   have HPo:=bH (outBox_put (w:=w4) hbo (.int .i64 1) (.bool false) (.slice none 0 0) (.slice none 0 0) (.slice none 0 0) (.slice (some ⟨w3.heap.size,0,none⟩) m m) (.slice none 0 0))
   have HF:=bH (show SolvePost w p L (.returned (.tuple #[.agg #[.int .i64 1,.bool false,.slice none 0 0,.slice none 0 0,.slice none 0 0,.slice (some ⟨w3.heap.size,0,none⟩) m m,.slice none 0 0],.int .i64 0])) _ from ⟨_,outEmpty p,0,rfl,.empty HVb.out HEb.out,fun S W hX hS hR=>⟨false,none,0,0,none,0,0,_,_,_,rfl,⟨IsRat.zero _,Sz.zero.mono HLL.out⟩,CRats.nil _ _,(by have h9:=((ob_past hbo HPo.out.2 hA).far (((HB.out.1.trans HX2.out).trans hx3).size) hX hS hR).crats (L:=L) (fun _ _=>Sz.zero.mono HLL.out) (by unfold maxLen; omega); rw [show m=p.rows.length from HNm.out.2.symm] at h9; rw [show m=p.rows.length from HNm.out.2.symm]; exact h9),CRats.nil _ _,(show InR (1:Int) from ⟨by decide,by decide⟩)⟩,(((HB.out.1.trans HX2.out).trans hx3).trans hx4).own HPo.out.2 HOl.out⟩)
   clear t0 f0 t1 f1 t2 f2 t3 f3 t4 f4 t5 f5 t6 f6 hbo
   generalize ((((((w4.setCell ⟨ob,0,none⟩ (.int .i64 1)).setCell ⟨ob,1,none⟩ (.bool false)).setCell ⟨ob,2,none⟩ (.slice none 0 0)).setCell ⟨ob,3,none⟩ (.slice none 0 0)).setCell ⟨ob,4,none⟩ (.slice none 0 0)).setCell ⟨ob,5,none⟩ (.slice (some ⟨w3.heap.size,0,none⟩) m m)).setCell ⟨ob,6,none⟩ (.slice none 0 0)=w17 at *
   have g0:=cellq HPo.out.1 0 rfl
   have g1:=cellq HPo.out.1 1 rfl
   have g2:=cellq HPo.out.1 2 rfl
   have g3:=cellq HPo.out.1 3 rfl
   have g4:=cellq HPo.out.1 4 rfl
   have g5:=cellq HPo.out.1 5 rfl
   have g6:=cellq HPo.out.1 6 rfl
   exact bodyPost_ret (v:=.tuple #[.agg #[.int .i64 1,.bool false,.slice none 0 0,.slice none 0 0,.slice none 0 0,.slice (some ⟨w3.heap.size,0,none⟩) m m,.slice none 0 0],.int .i64 0]) (by simp [results,Tryz.results37,go_sem,g0,g1,g2,g3,g4,g5,g6]) rfl HF.out
  | false =>
   go_upto_region 5 with (go_at_call 83; refine (HE.out _ (HB.out.1.trans HX2.out)).mono ?_; rintro r3 w3 ⟨rfl,hx3⟩; replace p0:=cell_keep p0 hx3; replace p1:=cell_keep p1 hx3)
   have HX3:=bH ((HB.out.1.trans HX2.out).trans hx3)
   have HOb:=bH (blk_keep (blk_keep HB.out.2.2 HX2.out) hx3)
   clear hx3
   have HSt:=bH (start_any w3 _ p (HP.out.keep HX3.out) HVb.out (by have:=HN.out.2.1; omega) (by have:=HN.out.2.2.1; omega))
   have hT:∀ l ∈ limsL p,(limTs p l).length*(s+8)+s+20<=2000000:=fun l hl=>by
    have h1:=(lim_terms HVb.out (limsL_iff.1 hl)).1
    have h2:=Nat.mul_le_mul_right (s+8) h1
    have h3:=HN.out.2.2.2.1
    rw [Nat.add_mul] at h3
    omega
   have HTT:=bH hT
   clear hT
   go_wp2_with ((first | (go_at_call 85; refine HSt.out.mono ?_; rintro r4 w4 ⟨tb,V,rfl,hst⟩) | (go_at_call 86; refine (solve_any w3 w4 tb s L V (startF p) p [] (limsL p) hst (start_good p) (HN.out.1 HVb.out) h2s hs (fun l hl=>limsL_iff.1 hl) (Nat.lt_of_le_of_lt limsL_len HN.out.2.2.1) HTT.out (by have:=HN.out.2.2.1; omega) HN.out.2.2.2.2.1 HN.out.2.2.2.2.2.1 HN.out.2.2.2.2.2.2 (by have h3:=HN.out.2.2.2.1; have h4:=Nat.mul_le_mul_left (p.vars.length+1) (show s+6<=s+8 by omega); omega)).mono ?_; rintro r5 w5 ⟨v5,o,rfl,hso,hfar,hx5⟩; obtain ⟨ng,a1,m1,c1,a2,m2,c2,pv5,mv5,rv5,e5,ho1,ho2,ho3,ho4,ho5⟩:=hfar.now; obtain ⟨po,pc,rfl,-,-,-⟩:=ho2.shape; obtain ⟨mo,mc,rfl,-,-,-⟩:=ho3.shape; obtain ⟨ro2,rc2,rfl,-,-,-⟩:=ho4.shape; subst e5; have HO:=bH (bI hso hfar); clear hso hfar ho1 ho2 ho3 ho4 ho5 hst; generalize o.kind=kd at *; generalize o.pt.length=pn at *; generalize o.mu.length=mn at *; generalize o.ray.length=rn at *; have hbo:=blk_keep HOb.out hx5; have t0:=cellq hbo 0 rfl; have t1:=cellq hbo 1 rfl; have t2:=cellq hbo 2 rfl; have t3:=cellq hbo 3 rfl; have t4:=cellq hbo 4 rfl; have t5:=cellq hbo 5 rfl; have t6:=cellq hbo 6 rfl; have f0:=free_of_cells hbo 0; have f1:=free_of_cells hbo 1; have f2:=free_of_cells hbo 2; have f3:=free_of_cells hbo 3; have f4:=free_of_cells hbo 4; have f5:=free_of_cells hbo 5; have f6:=free_of_cells hbo 6)))
   have HPo:=bH (outBox_put (w:=w5) hbo (.int .i64 kd) (.bool ng) (.slice a1 m1 c1) (.slice a2 m2 c2) (.slice po pn pc) (.slice mo mn mc) (.slice ro2 rn rc2))
   have HF:=bH (show SolvePost w p L (.returned (.tuple #[.agg #[.int .i64 kd,.bool ng,.slice a1 m1 c1,.slice a2 m2 c2,.slice po pn pc,.slice mo mn mc,.slice ro2 rn rc2],.int .i64 0])) _ from ⟨_,o,0,rfl,.run HVb.out HEb.out HO.out.1,fun S W hX hS hR=>HO.out.2 (fun k=>S k∨k=ob) W ((HPo.out.2.mono (fun _ _ h=>Or.inr h)).trans' hX (fun k _ e=>Or.inl e)) (fun k hk=>hk.elim (fun hk=>Nat.lt_of_lt_of_le (hS k hk) HX3.out.size) (fun hk=>by rw [hk]; exact blk_lt HOb.out)) (fun u d k=>hR _ _ (k.past HPo.out.2 (fun k _ e=>by have e':k=ob:=e; subst e'; exact outBox_noDig hbo))),(HX3.out.trans hx5).own HPo.out.2 HOl.out⟩)
   clear t0 f0 t1 f1 t2 f2 t3 f3 t4 f4 t5 f5 t6 f6 hbo
   generalize ((((((w5.setCell ⟨ob,0,none⟩ (.int .i64 kd)).setCell ⟨ob,1,none⟩ (.bool ng)).setCell ⟨ob,2,none⟩ (.slice a1 m1 c1)).setCell ⟨ob,3,none⟩ (.slice a2 m2 c2)).setCell ⟨ob,4,none⟩ (.slice po pn pc)).setCell ⟨ob,5,none⟩ (.slice mo mn mc)).setCell ⟨ob,6,none⟩ (.slice ro2 rn rc2)=w17 at *
   have g0:=cellq HPo.out.1 0 rfl
   have g1:=cellq HPo.out.1 1 rfl
   have g2:=cellq HPo.out.1 2 rfl
   have g3:=cellq HPo.out.1 3 rfl
   have g4:=cellq HPo.out.1 4 rfl
   have g5:=cellq HPo.out.1 5 rfl
   have g6:=cellq HPo.out.1 6 rfl
   exact bodyPost_ret (v:=.tuple #[.agg #[.int .i64 kd,.bool ng,.slice a1 m1 c1,.slice a2 m2 c2,.slice po pn pc,.slice mo mn mc,.slice ro2 rn rc2],.int .i64 0]) (by simp [results,Tryz.results37,go_sem,g0,g1,g2,g3,g4,g5,g6]) rfl HF.out
theorem chk_kinds {p:ProgV} {o:OutV} (h:chkB p o=true) (hk:0<=o.kind/\o.kind<=2):(o.kind=0/\optB p o.pt o.mu=true/\o.val=costQ p o.pt)∨(o.kind=1/\infB p o.mu=true/\o.val=0)∨(o.kind=2/\unbB p o.pt o.ray=true/\o.val=0):=by
 unfold chkB at h
 split at h
 ·rename_i h0
  unfold chk1 at h
  simp only [Bool.and_eq_true,decide_eq_true_eq] at h
  exact .inl ⟨h0,h.1.2,h.2⟩
 ·split at h
  ·rename_i h1
   unfold chk2 at h
   simp only [Bool.and_eq_true,decide_eq_true_eq] at h
   exact .inr (.inl ⟨h1,h.2,h.1.1.1⟩)
  ·rename_i h0 h1
   unfold chk3 at h
   simp only [Bool.and_eq_true,decide_eq_true_eq] at h
   exact .inr (.inr ⟨by omega,h.2,h.1.1.1.1⟩)
theorem opt_parts {p:ProgV} {x y:List Rat} (h:optB p x y=true):feasB p x=true/\boundQ p y=some (costQ p x):=by
 unfold optB at h
 simp only [Bool.and_eq_true,decide_eq_true_eq] at h
 exact h
theorem feas_rows {p:ProgV} {x:List Rat} (h:feasB p x=true):validB p=true/\insideB p x=true/\∀ i,i<p.rows.length->kindB (p.r i).kind (dotQ (p.r i).terms x) (p.r i).bound=true:=feas_parts h
theorem SolveV.chk {p:ProgV} {o:OutV} {e:Int} (h:SolveV p o e) (hv:validB p=true):e=0/\chkB p o=true/\0<=o.kind/\o.kind<=2:=by
 cases h with
 | bad h1=>rw [hv] at h1; cases h1
 | empty h1 h2 =>
  refine ⟨rfl,?_,by show (0:Int)<=1; decide,by show (1:Int)<=2; decide⟩
  show chk2 p (outEmpty p)=true
  unfold chk2
  have hinf:infB p (outEmpty p).mu=true:=by
   unfold infB
   have hs:signedB p (listTo p.rows.length fun _=>0)=true:=allTo_iff.2 fun i hi=>by
    rw [atQ_listTo _ hi]
    unfold signB
    simp
   show (validB p && signedB p (listTo p.rows.length fun _=>0) && _)=true
   rw [h1,h2,hs]; rfl
  rw [hinf]
  simp [outEmpty,listTo_length]
 | run h1 h2 h3=>exact ⟨rfl,h3.chk h1 (fun l hl=>limsL_iff.2 hl) (fun l hl=>limsL_iff.1 hl) (start_good p)⟩
theorem room_few {n m:Nat} (hn:n<=6) (hm:m<=8):Room n m 12 1200:=by
 refine ⟨by omega,?_⟩
 have e1:m*(12*(1200+3)+2)<=8*14438:=Nat.mul_le_mul hm (by omega)
 have e2:(n+1)*(m*(12*(1200+3)+2)+7)<=7*115511:=Nat.mul_le_mul (by omega) (by omega)
 have e3:m*(1200+3)<=8*1203:=Nat.mul_le_mul hm (by omega)
 have e4:n*(1200+3)<=6*1203:=Nat.mul_le_mul hn (by omega)
 omega
theorem few_parts {p:ProgV} (h:fewP p 6 8=true):Small p 12 1200/\p.vars.length<=6/\p.rows.length<=8:=by
 unfold fewP at h
 simp only [Bool.and_eq_true,decide_eq_true_eq,List.all_eq_true] at h
 refine ⟨⟨room_few h.1.2 h.2,fun i hi=>?_⟩,h.1.2,h.2⟩
 have hm:p.r i ∈ p.rows:=by
  unfold ProgV.r
  rw [getD_lt hi]; exact List.getElem_mem hi
 have:=h.1.1 _ hm
 unfold fewRow at this
 simp only [Bool.and_eq_true,decide_eq_true_eq] at this
 omega
theorem Solve_few (w:World) (pv:Value) (p:ProgV) (hp:IsPrg w pv p) (h:fewP p 6 8=true):Calls Tryz.prog 37 #[pv] w (SolvePost w p 1200):=by
 obtain ⟨_,hn,hm⟩:=few_parts h
 have h1:(p.vars.length+1)*(168+8)<=7*(168+8):=Nat.mul_le_mul_right _ (by omega)
 have h2:(p.vars.length+1)*(168+1)<=7*(168+1):=Nat.mul_le_mul_right _ (by omega)
 have h3:p.vars.length*(168+6)<=6*(168+6):=Nat.mul_le_mul_right _ hn
 exact Solve_any w pv p 168 1200 hp (fun hv=>bndAll6 hv hn) (by omega) (by omega) (by omega) (by omega) (by omega) (by omega) (by omega) (by omega)
theorem IsPrg.slices5 {w:World} {pv:Value} {p:ProgV} (h:IsPrg w pv p):∃ vo vn vc ro rn rc,pv=.agg #[.slice vo vn vc,.slice ro rn rc]:=by
 obtain ⟨vv,rv,rfl,hv,hr⟩:=h
 obtain ⟨vo,vc,rfl,-⟩:=hv.shape
 obtain ⟨ro,rc,rfl,-⟩:=hr.shape
 exact ⟨_,_,_,_,_,_,rfl⟩
section
variable {p:ProgV} {r:RowV} {x z:List Rat} {a b:OutV}
theorem inf_nofeas {y:List Rat} (h:infB p y=true) (hf:feasB p x=true):False:=by
 obtain ⟨_,a1,a2⟩:=feas_rows hf
 exact inf_none h a1 a2
end
def qOf (ns:List Int) (i:Nat):Rat:=((ns.getD i 0:Int):Rat)
theorem Ints_any (w:World) (b c:Nat) (ns:List Int) (L:Nat) (hc:∀ i,i<ns.length->w.cell? ⟨b,i,none⟩=some (.int .i64 (ns.getD i 0))) (hr:∀ x ∈ ns,InR x) (hn0:ns.length<=1000) (h1:2<=L) :
  Calls Tryz.prog 50 #[.slice (some ⟨b,0,none⟩) ns.length c] w (RatsPost w (listTo ns.length (qOf ns)) L):=by
 have HF:=bH (fun W (hW:XF w W) i (hi:i<ns.length)=>bI (cell_keep (hc i hi) hW) (Rrfrom_any W (ns.getD i 0) (hr _ (by rw [List.getD_eq_getElem?_getD,List.getElem?_eq_getElem hi]; exact List.getElem_mem hi)).1 (hr _ (by rw [List.getD_eq_getElem?_getD,List.getElem?_eq_getElem hi]; exact List.getElem_mem hi)).2))
 have HSz:=bH (fun i (hi:i<ns.length)=>(Sz.int (hr (ns.getD i 0) (by rw [List.getD_eq_getElem?_getD,List.getElem?_eq_getElem hi]; exact List.getElem_mem hi))).mono h1)
 clear hc hr
 have HQ:=bH (show ∀ i,((ns.getD i 0:Int):Rat)=qOf ns i from fun _=>rfl)
 generalize qOf ns=qf at *
 obtain ⟨n,hn'⟩:∃ n,ns.length=n:=⟨_,rfl⟩
 rw [hn'] at hn0 HF HSz ⊢
 clear hn'
 generalize (fun i=>ns.getD i 0)=nf at *
 have hb2:=blk_alloc_at w (.cells #[] 31)
 have HB:=bH (bI (ROwn.empty (base:=w.heap.size) L hb2 (Nat.le_refl _)) ((Ext.refl (fun _=>False) w).alloc (.cells #[] 31)))
 clear hb2
 go_enter Tryz.func50,Tryz.ntmps50
 go_upto_region 2 with fail
 generalize hw1:(w.alloc (.cells #[] 31))=w1 at *
 clear hw1
 obtain ⟨bs,hbs⟩:∃ bs,w.heap.size=bs:=⟨_,rfl⟩
 have HBs:=bH hbs
 rw [hbs] at HB ⊢
 clear hbs
 go_wp2_with fail
 go_loopg [4,3] n (fun gg v4 v3 wr=>∃ (i:Nat) (v:Value),i<=n/\gg=n - i/\v4=.int .i64 i/\v3=v/\ROwn wr bs v (listTo i qf) L/\XF w wr)
 case atStart=>exact ⟨0,_,Nat.zero_le _,rfl,rfl,rfl,HB.out.1,HB.out.2⟩
 case round =>
  obtain ⟨i,v,hi,rfl,rfl,rfl,ho,hx⟩:=hrel
  obtain ⟨ao,cap,rfl⟩:=ho.shape
  have hll:(listTo i qf).length=i:=listTo_length _ _
  rw [hll] at ho ⊢
  by_cases hin:i<n
  ·have i0:(i:Int)<(n:Int):=by omega
   have i1:(0:Int)<=(i:Int):=by omega
   have hcell:=(HF.out wr hx i hin).1
   have HA1:=bH (HF.out wr hx i hin).2
   have HSi:=bH (HSz.out i hin)
   have HQi:=bH (HQ.out i)
   generalize ns.getD i 0=nv at *
   have HO:=bH (bI ho hx)
   have HLl:=bH hll
   clear ho hx hll
   go_wp2_with fail
   refine HA1.out.mono ?_
   rintro r2 w2 ⟨v2,rfl,h2,hx2⟩
   obtain ⟨n2,a2,l2,c2,a2',l2',c2',rfl⟩:=h2.shape
   have hxa:=(Ext.refl (fun _=>False) w2).alloc (.cells #[.bool n2,.slice a2 l2 c2,.slice a2' l2' c2'] 31)
   have HO2:=bH (bI (HO.out.1.keep (hx2.trans hxa)) (bI ((HQi.out ▸ h2.reads HSi.out).keep hxa) ((HO.out.2.trans hx2).trans hxa)))
   have HSz2:=bH (show bs<=(w2.alloc (.cells #[.bool n2,.slice a2 l2 c2,.slice a2' l2' c2'] 31)).heap.size from by have:=HO2.out.2.2.size; have:=HBs.out; omega)
   have HG:=bH (fun g e=>(HO2.out.1.lt g e).1)
   clear h2 hx2 hxa HA1 hcell
   go_wp2_with (at_builtin; refine wpList_append_rat rfl (.tmp 12) (.tmp 18) rfl bs _ _ L rfl HO2.out.1 ⟨n2,a2,l2,c2,a2',l2',c2'⟩ (qf i) HO2.out.2.1 ⟨w2.heap.size,0,none⟩ 1 rfl (cells_new (RatC.cells ⟨n2,a2,l2,c2,a2',l2',c2'⟩) _ rfl) (by rw [HLl.out]; omega) HSz2.out ?_; intro v5 w5 hown5 hx5 hrd5; have HN:Hid (ROwn w5 bs v5 (listTo (i+1) qf) L):=bH (by rw [listTo_succ]; exact hown5); have HX5:Hid (XF w w5):=bH (ext_own HO2.out.2.2 hx5 (fun g e=>by have:=HG.out g e; have:=HBs.out; omega)); clear hown5 hx5 hrd5)
   go_roundg (n - (i+1))
   case measure=>omega
   case rel=>exact ⟨i+1,_,by omega,rfl,by go_num,rfl,HN.out,HX5.out⟩
  ·obtain rfl:i=n:=by omega
   have HO:=bH (bI ho hx)
   clear ho hx
   go_wp2
   go_ret
   exact ⟨_,rfl,by have:=HO.out.1.rats; exact this,HO.out.2⟩
theorem blk_alloc_at' (w:World) (o:Obj) (k:Nat) (h:k=w.heap.size):blk (w.alloc o) k=some o:=by subst h; exact blk_alloc_at w o
def exV:List VarV:=[⟨0,3,false,false,-1⟩,⟨0,3,false,false,-2⟩]
def exT:List TermV:=[⟨0,1⟩,⟨1,1⟩]
def exP:ProgV:=⟨exV,[⟨.empty,0,0,exT,4⟩]⟩
def PrgPost (w:World) (p:ProgV) (r:Ending) (w':World):Prop:=∃ v,r=.returned v/\IsPrg w' v p/\XF w w'
theorem example_any (w:World):Calls Tryz.prog 49 #[] w (PrgPost w exP):=by
 have hx:=Ext.refl (fun _=>False) w
 go_enter Tryz.func49,Tryz.ntmps49
 go_wp2
 (try simp only [Exit.inBlock,Exit.then])
 obtain ⟨bs,hbs⟩:∃ bs,w.heap.size=bs:=⟨_,rfl⟩
 have hx4:=(((hx.alloc (.cells #[.slice (some ⟨w.heap.size+1+1,0,none⟩) 2 2,.slice (some ⟨w.heap.size+1+1+1,0,none⟩) 1 1] 25)).alloc (.cells #[.int .i64 0,.int .i64 1,.int .i64 1,.int .i64 1] 76)).alloc (.cells #[.int .i64 0,.int .i64 3,.bool false,.bool false,.int .i64 (-1),.int .i64 0,.int .i64 3,.bool false,.bool false,.int .i64 (-2)] 63)).alloc (.cells #[.string ⟨#[]⟩,.int .i64 0,.int .i64 0,.slice (some ⟨w.heap.size+1,0,none⟩) 2 2,.int .i64 4] 58)
 obtain ⟨W,hW⟩:∃ W,(((w.alloc (.cells #[.slice (some ⟨w.heap.size+1+1,0,none⟩) 2 2,.slice (some ⟨w.heap.size+1+1+1,0,none⟩) 1 1] 25)).alloc (.cells #[.int .i64 0,.int .i64 1,.int .i64 1,.int .i64 1] 76)).alloc (.cells #[.int .i64 0,.int .i64 3,.bool false,.bool false,.int .i64 (-1),.int .i64 0,.int .i64 3,.bool false,.bool false,.int .i64 (-2)] 63)).alloc (.cells #[.string ⟨#[]⟩,.int .i64 0,.int .i64 0,.slice (some ⟨w.heap.size+1,0,none⟩) 2 2,.int .i64 4] 58)=W:=⟨_,rfl⟩
 have b0:blk W w.heap.size=some (.cells #[.slice (some ⟨w.heap.size+1+1,0,none⟩) 2 2,.slice (some ⟨w.heap.size+1+1+1,0,none⟩) 1 1] 25 (0,0)):=by
  rw [<- hW]
  refine (blk_alloc_past _ _ _ (by simp [World.size_alloc] <;> omega)).trans ((blk_alloc_past _ _ _ (by simp [World.size_alloc] <;> omega)).trans ((blk_alloc_past _ _ _ (by simp)).trans (blk_alloc_at _ _)))
 have b1:blk W (w.heap.size+1)=some (.cells #[.int .i64 0,.int .i64 1,.int .i64 1,.int .i64 1] 76 (0,0)):=by
  rw [<- hW]
  refine (blk_alloc_past _ _ _ (by simp [World.size_alloc] <;> omega)).trans ((blk_alloc_past _ _ _ (by simp [World.size_alloc] <;> omega)).trans (blk_alloc_at' _ _ _ (by simp [World.size_alloc])))
 have b2:blk W (w.heap.size+1+1)=some (.cells #[.int .i64 0,.int .i64 3,.bool false,.bool false,.int .i64 (-1),.int .i64 0,.int .i64 3,.bool false,.bool false,.int .i64 (-2)] 63 (0,0)):=by
  rw [<- hW]
  refine (blk_alloc_past _ _ _ (by simp [World.size_alloc] <;> omega)).trans (blk_alloc_at' _ _ _ (by simp [World.size_alloc]))
 have b3:blk W (w.heap.size+1+1+1)=some (.cells #[.string ⟨#[]⟩,.int .i64 0,.int .i64 0,.slice (some ⟨w.heap.size+1,0,none⟩) 2 2,.int .i64 4] 58 (0,0)):=by
  rw [<- hW]
  exact blk_alloc_at' _ _ _ (by simp [World.size_alloc])
 rw [hW] at hx4 ⊢
 have hs:w.heap.size+1+1+1<W.heap.size:=blk_lt b3
 clear hW
 rw [hbs] at b0 b1 b2 b3 hs ⊢
 refine bodyPost_ret (results_cell_row rfl _ W bs 25 _ (0,0) _ rfl b0 Tryz.underlying25 rfl (by kernel_rfl)) rfl ?_
 refine ⟨_,rfl,⟨_,_,rfl,⟨⟨_,_,rfl,Nat.le_refl _,(by unfold maxLen; decide),(fun e=>by cases e),fun _=>⟨bs+1+1,0,rfl,by omega,?_⟩⟩,?_⟩,⟨[.slice (some ⟨bs+1,0,none⟩) 2 2],rfl,⟨_,_,rfl,Nat.le_refl _,(by unfold maxLen; decide),(fun e=>by cases e),fun _=>⟨bs+1+1+1,0,rfl,by omega,?_⟩⟩,?_⟩⟩,hx4⟩
 ·intro i r hi j u hu
  match i,hi with
  | 0,hi=>cases hi; match j,hu with
   | 0,hu=>cases hu; exact cellq b2 0 rfl
   | 1,hu=>cases hu; exact cellq b2 1 rfl
   | 2,hu=>cases hu; exact cellq b2 2 rfl
   | 3,hu=>cases hu; exact cellq b2 3 rfl
   | 4,hu=>cases hu; exact cellq b2 4 rfl
  | 1,hi=>cases hi; match j,hu with
   | 0,hu=>cases hu; exact cellq b2 5 rfl
   | 1,hu=>cases hu; exact cellq b2 6 rfl
   | 2,hu=>cases hu; exact cellq b2 7 rfl
   | 3,hu=>cases hu; exact cellq b2 8 rfl
   | 4,hu=>cases hu; exact cellq b2 9 rfl
 ·intro x hx
  simp [exP,exV] at hx
  rcases hx with rfl | rfl <;> exact ⟨by unfold InR; decide,by unfold InR; decide,by unfold InR; decide⟩
 ·intro i r hi j u hu
  match i,hi with
  | 0,hi=>cases hi; match j,hu with
   | 0,hu=>cases hu; exact cellq b3 0 rfl
   | 1,hu=>cases hu; exact cellq b3 1 rfl
   | 2,hu=>cases hu; exact cellq b3 2 rfl
   | 3,hu=>cases hu; exact cellq b3 3 rfl
   | 4,hu=>cases hu; exact cellq b3 4 rfl
 ·intro i r tv hr ht
  match i,hr,ht with
  | 0,hr,ht =>
   cases hr; cases ht
   refine ⟨⟨⟨_,_,rfl,Nat.le_refl _,(by unfold maxLen; decide),(fun e=>by cases e),fun _=>⟨bs+1,0,rfl,by omega,?_⟩⟩,?_⟩,⟨Nat.zero_le _,by unfold InR; decide,by unfold InR; decide,by unfold InR; decide⟩⟩
   ·intro i r hi j u hu
    match i,hi with
    | 0,hi=>cases hi; match j,hu with
     | 0,hu=>cases hu; exact cellq b1 0 rfl
     | 1,hu=>cases hu; exact cellq b1 1 rfl
    | 1,hi=>cases hi; match j,hu with
     | 0,hu=>cases hu; exact cellq b1 2 rfl
     | 1,hu=>cases hu; exact cellq b1 3 rfl
   ·intro x hx
    simp [exT] at hx
    rcases hx with rfl | rfl <;> exact ⟨by unfold InR; decide,by unfold InR; decide⟩
def exY:List Rat:=listTo 1 (qOf [-1])
def exX:List Rat:=listTo 2 (qOf [1,3])
def exZ:List Rat:=listTo 1 (qOf [1])
theorem ex_bound:boundQ exP exY=some ((-7:Int):Rat):=by decide +kernel
theorem ex_bound0:boundQ exP []=some ((-9:Int):Rat):=by decide +kernel
theorem ex_boundZ:boundQ exP exZ=none:=by decide +kernel
theorem ex_opt:optB exP exX exY=true:=by decide +kernel
theorem ex_check:checkE exP ⟨0,((-7:Int):Rat),exX,exY,[]⟩=0:=by decide +kernel
theorem ex_check':checkE exP ⟨0,((-6:Int):Rat),exX,exY,[]⟩=13:=by decide +kernel
abbrev S15 (b0 b1 b2 b3 b4 b5 b6 b7 b8 b9 b10 b11 b12 b13 b14 o0 o1 o2 o3 o4 o5 o6 o7 o8 o9 o10 o11 o12 o13 o14:Nat) (x0 x1 x2 x3 x4 x5 x6 x7 x8 x9 x10 x11 x12 x13 x14:Value) (W:World):Prop:=W.cell? ⟨b0,o0,none⟩=some x0/\W.cell? ⟨b1,o1,none⟩=some x1/\W.cell? ⟨b2,o2,none⟩=some x2/\W.cell? ⟨b3,o3,none⟩=some x3/\W.cell? ⟨b4,o4,none⟩=some x4/\W.cell? ⟨b5,o5,none⟩=some x5/\W.cell? ⟨b6,o6,none⟩=some x6/\W.cell? ⟨b7,o7,none⟩=some x7/\W.cell? ⟨b8,o8,none⟩=some x8/\W.cell? ⟨b9,o9,none⟩=some x9/\W.cell? ⟨b10,o10,none⟩=some x10/\W.cell? ⟨b11,o11,none⟩=some x11/\W.cell? ⟨b12,o12,none⟩=some x12/\W.cell? ⟨b13,o13,none⟩=some x13/\W.cell? ⟨b14,o14,none⟩=some x14
section
variable {b0 b1 b2 b3 b4 b5 b6 b7 b8 b9 b10 b11 b12 b13 b14 o0 o1 o2 o3 o4 o5 o6 o7 o8 o9 o10 o11 o12 o13 o14:Nat} {x0 x1 x2 x3 x4 x5 x6 x7 x8 x9 x10 x11 x12 x13 x14:Value} {W:World}
theorem S15.drew (h:S15 b0 b1 b2 b3 b4 b5 b6 b7 b8 b9 b10 b11 b12 b13 b14 o0 o1 o2 o3 o4 o5 o6 o7 o8 o9 o10 o11 o12 o13 o14 x0 x1 x2 x3 x4 x5 x6 x7 x8 x9 x10 x11 x12 x13 x14 W):S15 b0 b1 b2 b3 b4 b5 b6 b7 b8 b9 b10 b11 b12 b13 b14 o0 o1 o2 o3 o4 o5 o6 o7 o8 o9 o10 o11 o12 o13 o14 x0 x1 x2 x3 x4 x5 x6 x7 x8 x9 x10 x11 x12 x13 x14 W.drew:=h
theorem S15.keep {W':World} (h:S15 b0 b1 b2 b3 b4 b5 b6 b7 b8 b9 b10 b11 b12 b13 b14 o0 o1 o2 o3 o4 o5 o6 o7 o8 o9 o10 o11 o12 o13 o14 x0 x1 x2 x3 x4 x5 x6 x7 x8 x9 x10 x11 x12 x13 x14 W) (hx:XF W W'):S15 b0 b1 b2 b3 b4 b5 b6 b7 b8 b9 b10 b11 b12 b13 b14 o0 o1 o2 o3 o4 o5 o6 o7 o8 o9 o10 o11 o12 o13 o14 x0 x1 x2 x3 x4 x5 x6 x7 x8 x9 x10 x11 x12 x13 x14 W':=⟨cell_keep h.1 hx,cell_keep h.2.1 hx,cell_keep h.2.2.1 hx,cell_keep h.2.2.2.1 hx,cell_keep h.2.2.2.2.1 hx,cell_keep h.2.2.2.2.2.1 hx,cell_keep h.2.2.2.2.2.2.1 hx,cell_keep h.2.2.2.2.2.2.2.1 hx,cell_keep h.2.2.2.2.2.2.2.2.1 hx,cell_keep h.2.2.2.2.2.2.2.2.2.1 hx,cell_keep h.2.2.2.2.2.2.2.2.2.2.1 hx,cell_keep h.2.2.2.2.2.2.2.2.2.2.2.1 hx,cell_keep h.2.2.2.2.2.2.2.2.2.2.2.2.1 hx,cell_keep h.2.2.2.2.2.2.2.2.2.2.2.2.2.1 hx,cell_keep h.2.2.2.2.2.2.2.2.2.2.2.2.2.2 hx⟩
end
theorem ex_small (L:Nat) (h:L<=4) (h1:1<=L):Small exP 2 L:=by
 refine ⟨⟨h1,?_⟩,fun i hi=>?_⟩
 ·have:L=1∨L=2∨L=3∨L=4:=by omega
  rcases this with rfl | rfl | rfl | rfl <;> decide
 ·match i,hi with
  | 0,_=>decide
theorem exZ_eq:listTo 1 (qOf [1])=exZ:=rfl
theorem in_small {l:List Int} (h:∀ x ∈ l,-1000<=x/\x<=1000):∀ x ∈ l,InR x:=fun x hx=>by have:=h x hx; unfold InR; omega
theorem one_cell {w:World} {b:Nat} {k:Int} (h:w.cell? ⟨b,0,none⟩=some (.int .i64 k)):∀ i,i<[k].length->w.cell? ⟨b,i,none⟩=some (.int .i64 ([k].getD i 0)):=fun i hi=>by
 match i,hi with
 | 0,_=>exact h
theorem two_cell {w:World} {b:Nat} {k l:Int} (h:w.cell? ⟨b,0,none⟩=some (.int .i64 k)) (h':w.cell? ⟨b,1,none⟩=some (.int .i64 l)):∀ i,i<[k,l].length->w.cell? ⟨b,i,none⟩=some (.int .i64 ([k,l].getD i 0)):=fun i hi=>by
 match i,hi with
 | 0,_=>exact h
 | 1,_=>exact h'
theorem awake_any (w:World):Calls Tryz.prog 16 #[] w (BoolPost w true):=by
 have HIy:=bH (fun (W:World) b c (h:W.cell? ⟨b,0,none⟩=some (.int .i64 (-1)))=>Ints_any W b c [-1] 2 (one_cell h) (in_small (by decide)) (by decide) (by decide))
 have HI1:=bH (fun (W:World) b c (h:W.cell? ⟨b,0,none⟩=some (.int .i64 1))=>Ints_any W b c [1] 2 (one_cell h) (in_small (by decide)) (by decide) (by decide))
 have HIx:=bH (fun (W:World) b c (h:W.cell? ⟨b,0,none⟩=some (.int .i64 1)) (h':W.cell? ⟨b,1,none⟩=some (.int .i64 3))=>Ints_any W b c [1,3] 2 (two_cell h h') (in_small (by decide)) (by decide) (by decide))
 have HBo:=bH (fun (W:World) pv yv y (hp:IsPrg W pv exP) (hy:Rats W yv y 2)=>Bound_any W pv yv exP y 2 2 hp hy (ex_small 2 (by decide) (by decide)))
 have HEx:=bH (example_any w)
 go_enter Tryz.func16,Tryz.ntmps16
 go_wp2_with fail
 refine HEx.out.mono ?_
 rintro r1 w1 ⟨v1,rfl,hp1,hx1⟩
 have HP1:=bH (bI hp1 hx1)
 obtain ⟨vv,rv,rfl,hv,hr⟩:=hp1
 obtain ⟨vo,vc,rfl,-,-,-⟩:=hv.shape
 obtain ⟨ro,rc,rfl,-,-,-⟩:=hr.shape
 rw [show exP.vars.length=2 from rfl,show exP.rows.length=1 from rfl] at HP1 ⊢
 clear hv hr
 clear hx1 HEx
 go_upto_region 2 with fail
 have hxa:=(Ext.refl (fun _=>False) w1).alloc (.cells #[.slice vo 2 vc,.slice ro 1 rc] 25)
 have HP2:=bH (bI (HP1.out.1.keep hxa) (bI (blk_alloc_at w1 (.cells #[.slice vo 2 vc,.slice ro 1 rc] 25)) (HP1.out.2.trans hxa)))
 generalize hw2:w1.alloc (.cells #[.slice vo 2 vc,.slice ro 1 rc] 25)=w2 at *
 clear hw2 hxa HP1
 obtain ⟨pb,hpb⟩:∃ pb,w1.heap.size=pb:=⟨_,rfl⟩
 rw [hpb] at HP2 ⊢
 clear hpb
 go_wp2_with fail
 have hxb:=(Ext.refl (fun _=>False) w2).alloc (.cells #[.int .i64 (-1)] 2)
 refine (HIy.out _ w2.heap.size 1 (cellq (blk_alloc_at w2 (.cells #[.int .i64 (-1)] 2)) 0 rfl)).mono ?_
 rintro r3 w3 ⟨yv,rfl,hy3,hx3⟩
 have HP3:=bH (bI (HP2.out.1.keep (hxb.trans hx3)) (bI (blk_keep HP2.out.2.1 (hxb.trans hx3)) (HP2.out.2.2.trans (hxb.trans hx3))))
 have HY3:=bH (show Rats w3 yv exY 2 from hy3)
 obtain ⟨yo,yc,rfl,-,-,-⟩:=hy3.shape
 rw [show (listTo [(-1:Int)].length (qOf [-1])).length=1 from rfl] at HY3 ⊢
 clear hxb hx3 hy3 HP2 HIy
 go_upto_region 3 with fail
 go_wp2_with fail
 have hxb:=(Ext.refl (fun _=>False) w3).alloc (.cells #[.int .i64 1,.int .i64 3] 2)
 refine (HIx.out _ w3.heap.size 2 (cellq (blk_alloc_at w3 (.cells #[.int .i64 1,.int .i64 3] 2)) 0 rfl) (cellq (blk_alloc_at w3 (.cells #[.int .i64 1,.int .i64 3] 2)) 1 rfl)).mono ?_
 rintro r4 w4 ⟨xv,rfl,hx4,hxx⟩
 have HP4:=bH (bI (HP3.out.1.keep (hxb.trans hxx)) (bI (blk_keep HP3.out.2.1 (hxb.trans hxx)) (HP3.out.2.2.trans (hxb.trans hxx))))
 have HY4:=bH (bI (HY3.out.keep (hxb.trans hxx)) (show Rats w4 xv exX 2 from hx4))
 obtain ⟨xo,xc,rfl,-,-,-⟩:=hx4.shape
 rw [show (listTo [(1:Int),3].length (qOf [1,3])).length=2 from rfl] at HY4 ⊢
 clear hxb hxx hx4 HP3 HY3 HIx
 have z0:=cellq HP4.out.2.1 0 rfl
 have z1:=cellq HP4.out.2.1 1 rfl
 go_upto_region 4 with fail
 go_wp2_with fail
 refine (HBo.out w4 _ _ exY HP4.out.1 HY4.out.1).mono ?_
 rw [ex_bound]
 intro r5 w5 hop
 obtain ⟨n4,a4,m4,c4,a4',m4',c4',rfl,h4,hx5⟩:=hop.open
 clear hop
 rw [show (some ((-7:Int):Rat)).isSome=true from rfl]
 have hxb:=hx5.alloc (.cells #[.bool n4,.slice a4 m4 c4,.slice a4' m4' c4'] 31)
 have hxc:=(Ext.refl (fun _=>False) w5).alloc (.cells #[.bool n4,.slice a4 m4 c4,.slice a4' m4' c4'] 31)
 have HP5:=bH (bI (HP4.out.1.keep hxb) (bI (blk_keep HP4.out.2.1 hxb) (bI (boxR_new (W:=w5) rfl n4 a4 m4 c4 a4' m4' c4') (bI (h4.keep hxc) (HP4.out.2.2.trans hxb)))))
 have HY5:=bH (bI (HY4.out.1.keep hxb) (HY4.out.2.keep hxb))
 clear hxb hxc h4 hx5 HP4 HY4 z0 z1
 go_upto_region 5 with fail
 generalize hw6:w5.alloc (.cells #[.bool n4,.slice a4 m4 c4,.slice a4' m4' c4'] 31)=w6 at *
 clear hw6
 obtain ⟨ab,hab⟩:∃ ab,w5.heap.size=ab:=⟨_,rfl⟩
 rw [hab] at HP5 ⊢
 clear hab
 have z0:=cellq HP5.out.2.1 0 rfl
 have z1:=cellq HP5.out.2.1 1 rfl
 go_wp2_with fail
 refine (HBo.out w6 _ _ [] HP5.out.1 (Rats.nil w6 2)).mono ?_
 rw [ex_bound0]
 intro r7 w7 hop
 obtain ⟨n5,a5,m5,c5,a5',m5',c5',rfl,h5,hx7⟩:=hop.open
 clear hop
 rw [show (some ((-9:Int):Rat)).isSome=true from rfl]
 have hxb:=hx7.alloc (.cells #[.bool n5,.slice a5 m5 c5,.slice a5' m5' c5'] 31)
 have hxc:=(Ext.refl (fun _=>False) w7).alloc (.cells #[.bool n5,.slice a5 m5 c5,.slice a5' m5' c5'] 31)
 have HP7:=bH (bI (HP5.out.1.keep hxb) (bI (blk_keep HP5.out.2.1 hxb) (bI (HP5.out.2.2.1.keep hxb) (bI (HP5.out.2.2.2.1.keep hxb) (bI (boxR_new (W:=w7) rfl n5 a5 m5 c5 a5' m5' c5') (bI (h5.keep hxc) (HP5.out.2.2.2.2.trans hxb)))))))
 have HY7:=bH (bI (HY5.out.1.keep hxb) (HY5.out.2.keep hxb))
 clear hxb hxc h5 hx7 HP5 HY5 z0 z1
 go_upto_region 6 with fail
 generalize hw8:w7.alloc (.cells #[.bool n5,.slice a5 m5 c5,.slice a5' m5' c5'] 31)=w6 at *
 clear hw8
 obtain ⟨bb,hbb⟩:∃ bb,w7.heap.size=bb:=⟨_,rfl⟩
 rw [hbb] at HP7 ⊢
 clear hbb
 have hpbl:pb<w6.heap.size:=blk_lt HP7.out.2.1
 have hS:S2 pb pb 0 1 (.slice vo 2 vc) (.slice ro 1 rc) w6:=⟨cellq HP7.out.2.1 0 rfl,cellq HP7.out.2.1 1 rfl⟩
 have HB6:=bH (fun (W:World) yv y (hW:XF w6 W) (hy:Rats W yv y 2) (e:y=exZ)=>(by rw [<- ex_boundZ,<- e]; exact HBo.out W _ yv y (HP7.out.1.keep hW) hy:Calls Tryz.prog 23 #[.agg #[.slice vo 2 vc,.slice ro 1 rc],yv] W (OptPost W none)))
 go_cut [8,9] (fun v8 v9 wx=>v9=.bool false/\XF w6 wx)
 case first =>
  refine wp_region_held_drew (S:=(S2 pb pb 0 1 (.slice vo 2 vc) (.slice ro 1 rc))) (by kernel_rfl) (hS.drew) (fun hHeld=>?_)
  have hxd:=(Ext.refl (fun _=>False) w6).drew
  generalize w6.drew=wd at *
  refine ht 0 (h:=?_)
  (try go_frame)
  refine held_two 1 7 rfl rfl (by kernel_rfl) (fun K hK=>?_) (fun K hK=>?_)
  ·go_simp
   obtain ⟨sb,hsb⟩:∃ sb,wd.heap.size=sb:=⟨_,rfl⟩
   have hsbs:w6.heap.size<=sb:=by have:=hxd.size; omega
   have hsl1:=cellq (blk_alloc_at wd (.cells #[.int .i64 1] 2)) 0 rfl
   have hX1:=hxd.alloc (.cells #[.int .i64 1] 2)
   rw [hsb] at hsl1 ⊢
   clear hsb
   generalize wd.alloc (.cells #[.int .i64 1] 2)=ws at *
   refine hK.out _ _ (hS.keep hX1) (fun hHeld=>?_)
   clear hK K
   (try go_frame)
   refine held_two 2 7 rfl rfl (by kernel_rfl) (fun K hK=>?_) (fun K hK=>?_)
   ·go_simp
    go_at_call 50
    refine (HI1.out _ sb 1 hsl1).mono ?_
    rintro q2 w20 ⟨v2,rfl,hrt2,hx2⟩
    obtain ⟨so2,sc2,rfl,-,-,-⟩:=hrt2.shape
    rw [show (listTo [(1:Int)].length (qOf [1])).length=1 from rfl] at hrt2 ⊢
    have hX2:=hX1.trans hx2
    refine hK.out _ _ (hS.keep hX2) (fun hHeld=>?_)
    clear hK K
    (try go_frame)
    refine held_two 3 7 rfl rfl (by kernel_rfl) (fun K hK=>?_) (fun K hK=>?_)
    ·go_simp
     go_at_call 23
     refine (HB6.out _ _ _ hX2 hrt2 exZ_eq).mono ?_
     rintro q3 w30 hopt3
     obtain ⟨n12,a12,l12,c12,a12',l12',c12',rfl,hRat3,hx3⟩:=OptPost.open hopt3
     rw [show (none:Option Rat).isSome=false from rfl]
     have hX3:=hX2.trans hx3
     refine hK.out _ _ (hS.keep hX3) (fun hHeld=>?_)
     clear hK K
     (try go_frame)
     refine ht 4 (h:=?_)
     (try go_frame)
     refine ht 5 (h:=?_)
     (try go_frame)
     refine ht 6 (h:=?_)
     (try go_frame)
     refine held_step 7 rfl (by kernel_rfl) (fun K hK=>?_)
     go_simp
     obtain ⟨bb,hbb⟩:∃ bb,w30.heap.size=bb:=⟨_,rfl⟩
     have hbbs:w6.heap.size<=bb:=by have:=hX3.size; omega
     have hbox4:=boxR_new (W:=w30) rfl false none 0 0 none 0 0
     have hX4:=hX3.alloc (.cells #[.bool false,.slice none 0 0,.slice none 0 0] 31)
     have hRat4:=hRat3.keep ((Ext.refl (fun _=>False) w30).alloc (.cells #[.bool false,.slice none 0 0,.slice none 0 0] 31))
     rw [hbb] at hbox4 ⊢
     clear hbb
     generalize w30.alloc (.cells #[.bool false,.slice none 0 0,.slice none 0 0] 31)=wa at *
     refine hK.out _ _ (hS.keep hX4) (fun hHeld=>?_)
     clear hK K
     (try go_frame)
     refine held_step 8 rfl (by kernel_rfl) (fun K hK=>?_)
     have np:¬ pb=bb:=by omega
     obtain ⟨d0,d1,d2,d3,d4,d5⟩:=hbox4.facts
     go_simp
     refine hK.out _ _ (S2.set (S2.set (S2.set (hS.keep hX4) ⟨bb,0,none⟩ _ np np) ⟨bb,1,none⟩ _ np np) ⟨bb,2,none⟩ _ np np) (fun hHeld=>?_)
     clear hK K
     (try go_frame)
     refine ht 9 (h:=?_)
     (try go_frame)
     refine wpAnyH_done (by kernel_rfl) ?_ _
     have hput:=hbox4.put (neg:=n12) (no_int a12 l12 c12) (no_int a12' l12' c12')
     have HFin:=bH (hX4.own hput.ext (fun k e=>by omega))
     clear hput hS hHeld hbbs
     go_wp2
     go_meet
     exact ⟨rfl,HFin.out⟩
    ·go_simp
     obtain ⟨bb,hbb⟩:∃ bb,w20.heap.size=bb:=⟨_,rfl⟩
     have hbbs:w6.heap.size<=bb:=by have:=hX2.size; omega
     have hbox3:=boxR_new (W:=w20) rfl false none 0 0 none 0 0
     have hX3:=hX2.alloc (.cells #[.bool false,.slice none 0 0,.slice none 0 0] 31)
     have hRt3:=hrt2.keep ((Ext.refl (fun _=>False) w20).alloc (.cells #[.bool false,.slice none 0 0,.slice none 0 0] 31))
     rw [hbb] at hbox3 ⊢
     clear hbb
     generalize w20.alloc (.cells #[.bool false,.slice none 0 0,.slice none 0 0] 31)=wa at *
     refine hK.out _ _ (hS.keep hX3) (fun hHeld=>?_)
     clear hK K
     (try go_frame)
     refine held_step 3 rfl (by kernel_rfl) (fun K hK=>?_)
     go_simp
     go_at_call 23
     refine (HB6.out _ _ _ hX3 hRt3 exZ_eq).mono ?_
     rintro q4 w40 hopt4
     obtain ⟨n12,a12,l12,c12,a12',l12',c12',rfl,hRat4,hx4⟩:=OptPost.open hopt4
     rw [show (none:Option Rat).isSome=false from rfl]
     have hX4:=hX3.trans hx4
     have hbox4:=hbox3.keep hx4
     refine hK.out _ _ (hS.keep hX4) (fun hHeld=>?_)
     clear hK K
     (try go_frame)
     refine ht 4 (h:=?_)
     (try go_frame)
     refine ht 5 (h:=?_)
     (try go_frame)
     refine ht 6 (h:=?_)
     (try go_frame)
     refine held_step 8 rfl (by kernel_rfl) (fun K hK=>?_)
     have np:¬ pb=bb:=by omega
     obtain ⟨d0,d1,d2,d3,d4,d5⟩:=hbox4.facts
     go_simp
     refine hK.out _ _ (S2.set (S2.set (S2.set (hS.keep hX4) ⟨bb,0,none⟩ _ np np) ⟨bb,1,none⟩ _ np np) ⟨bb,2,none⟩ _ np np) (fun hHeld=>?_)
     clear hK K
     (try go_frame)
     refine ht 9 (h:=?_)
     (try go_frame)
     refine wpAnyH_done (by kernel_rfl) ?_ _
     have hput:=hbox4.put (neg:=n12) (no_int a12 l12 c12) (no_int a12' l12' c12')
     have HFin:=bH (hX4.own hput.ext (fun k e=>by omega))
     clear hput hS hHeld hbbs
     go_wp2
     go_meet
     exact ⟨rfl,HFin.out⟩
   ·go_simp
    obtain ⟨bb,hbb⟩:∃ bb,ws.heap.size=bb:=⟨_,rfl⟩
    have hbbs:w6.heap.size<=bb:=by have:=hX1.size; omega
    have hbox2:=boxR_new (W:=ws) rfl false none 0 0 none 0 0
    have hX2:=hX1.alloc (.cells #[.bool false,.slice none 0 0,.slice none 0 0] 31)
    have hSl2:=cell_keep hsl1 ((Ext.refl (fun _=>False) ws).alloc (.cells #[.bool false,.slice none 0 0,.slice none 0 0] 31))
    rw [hbb] at hbox2 ⊢
    clear hbb
    generalize ws.alloc (.cells #[.bool false,.slice none 0 0,.slice none 0 0] 31)=wa at *
    refine hK.out _ _ (hS.keep hX2) (fun hHeld=>?_)
    clear hK K
    (try go_frame)
    refine held_step 2 rfl (by kernel_rfl) (fun K hK=>?_)
    go_simp
    go_at_call 50
    refine (HI1.out _ sb 1 hSl2).mono ?_
    rintro q3 w30 ⟨v3,rfl,hrt3,hx3⟩
    obtain ⟨so3,sc3,rfl,-,-,-⟩:=hrt3.shape
    rw [show (listTo [(1:Int)].length (qOf [1])).length=1 from rfl] at hrt3 ⊢
    have hX3:=hX2.trans hx3
    have hbox3:=hbox2.keep hx3
    refine hK.out _ _ (hS.keep hX3) (fun hHeld=>?_)
    clear hK K
    (try go_frame)
    refine held_step 3 rfl (by kernel_rfl) (fun K hK=>?_)
    go_simp
    go_at_call 23
    refine (HB6.out _ _ _ hX3 hrt3 exZ_eq).mono ?_
    rintro q4 w40 hopt4
    obtain ⟨n12,a12,l12,c12,a12',l12',c12',rfl,hRat4,hx4⟩:=OptPost.open hopt4
    rw [show (none:Option Rat).isSome=false from rfl]
    have hX4:=hX3.trans hx4
    have hbox4:=hbox3.keep hx4
    refine hK.out _ _ (hS.keep hX4) (fun hHeld=>?_)
    clear hK K
    (try go_frame)
    refine ht 4 (h:=?_)
    (try go_frame)
    refine ht 5 (h:=?_)
    (try go_frame)
    refine ht 6 (h:=?_)
    (try go_frame)
    refine held_step 8 rfl (by kernel_rfl) (fun K hK=>?_)
    have np:¬ pb=bb:=by omega
    obtain ⟨d0,d1,d2,d3,d4,d5⟩:=hbox4.facts
    go_simp
    refine hK.out _ _ (S2.set (S2.set (S2.set (hS.keep hX4) ⟨bb,0,none⟩ _ np np) ⟨bb,1,none⟩ _ np np) ⟨bb,2,none⟩ _ np np) (fun hHeld=>?_)
    clear hK K
    (try go_frame)
    refine ht 9 (h:=?_)
    (try go_frame)
    refine wpAnyH_done (by kernel_rfl) ?_ _
    have hput:=hbox4.put (neg:=n12) (no_int a12 l12 c12) (no_int a12' l12' c12')
    have HFin:=bH (hX4.own hput.ext (fun k e=>by omega))
    clear hput hS hHeld hbbs
    go_wp2
    go_meet
    exact ⟨rfl,HFin.out⟩
  ·go_simp
   obtain ⟨bb,hbb⟩:∃ bb,wd.heap.size=bb:=⟨_,rfl⟩
   have hbbs:w6.heap.size<=bb:=by have:=hxd.size; omega
   have hbox1:=boxR_new (W:=wd) rfl false none 0 0 none 0 0
   have hX1:=hxd.alloc (.cells #[.bool false,.slice none 0 0,.slice none 0 0] 31)
   rw [hbb] at hbox1 ⊢
   clear hbb
   generalize wd.alloc (.cells #[.bool false,.slice none 0 0,.slice none 0 0] 31)=wa at *
   refine hK.out _ _ (hS.keep hX1) (fun hHeld=>?_)
   clear hK K
   (try go_frame)
   refine held_step 1 rfl (by kernel_rfl) (fun K hK=>?_)
   go_simp
   obtain ⟨sb,hsb⟩:∃ sb,wa.heap.size=sb:=⟨_,rfl⟩
   have hsbs:w6.heap.size<=sb:=by have:=hX1.size; omega
   have hsl2:=cellq (blk_alloc_at wa (.cells #[.int .i64 1] 2)) 0 rfl
   have hX2:=hX1.alloc (.cells #[.int .i64 1] 2)
   have hBx2:=hbox1.keep ((Ext.refl (fun _=>False) wa).alloc (.cells #[.int .i64 1] 2))
   rw [hsb] at hsl2 ⊢
   clear hsb
   generalize wa.alloc (.cells #[.int .i64 1] 2)=ws at *
   refine hK.out _ _ (hS.keep hX2) (fun hHeld=>?_)
   clear hK K
   (try go_frame)
   refine held_step 2 rfl (by kernel_rfl) (fun K hK=>?_)
   go_simp
   go_at_call 50
   refine (HI1.out _ sb 1 hsl2).mono ?_
   rintro q3 w30 ⟨v3,rfl,hrt3,hx3⟩
   obtain ⟨so3,sc3,rfl,-,-,-⟩:=hrt3.shape
   rw [show (listTo [(1:Int)].length (qOf [1])).length=1 from rfl] at hrt3 ⊢
   have hX3:=hX2.trans hx3
   have hbox3:=hBx2.keep hx3
   refine hK.out _ _ (hS.keep hX3) (fun hHeld=>?_)
   clear hK K
   (try go_frame)
   refine held_step 3 rfl (by kernel_rfl) (fun K hK=>?_)
   go_simp
   go_at_call 23
   refine (HB6.out _ _ _ hX3 hrt3 exZ_eq).mono ?_
   rintro q4 w40 hopt4
   obtain ⟨n12,a12,l12,c12,a12',l12',c12',rfl,hRat4,hx4⟩:=OptPost.open hopt4
   rw [show (none:Option Rat).isSome=false from rfl]
   have hX4:=hX3.trans hx4
   have hbox4:=hbox3.keep hx4
   refine hK.out _ _ (hS.keep hX4) (fun hHeld=>?_)
   clear hK K
   (try go_frame)
   refine ht 4 (h:=?_)
   (try go_frame)
   refine ht 5 (h:=?_)
   (try go_frame)
   refine ht 6 (h:=?_)
   (try go_frame)
   refine held_step 8 rfl (by kernel_rfl) (fun K hK=>?_)
   have np:¬ pb=bb:=by omega
   obtain ⟨d0,d1,d2,d3,d4,d5⟩:=hbox4.facts
   go_simp
   refine hK.out _ _ (S2.set (S2.set (S2.set (hS.keep hX4) ⟨bb,0,none⟩ _ np np) ⟨bb,1,none⟩ _ np np) ⟨bb,2,none⟩ _ np np) (fun hHeld=>?_)
   clear hK K
   (try go_frame)
   refine ht 9 (h:=?_)
   (try go_frame)
   refine wpAnyH_done (by kernel_rfl) ?_ _
   have hput:=hbox4.put (neg:=n12) (no_int a12 l12 c12) (no_int a12' l12' c12')
   have HFin:=bH (hX4.own hput.ext (fun k e=>by omega))
   clear hput hS hHeld hbbs
   go_wp2
   go_meet
   exact ⟨rfl,HFin.out⟩
 case rest =>
  obtain ⟨rfl,hxc⟩:=hcut
  have HP8:=bH (bI (HP7.out.1.keep hxc) (bI (blk_keep HP7.out.2.1 hxc) (bI (HP7.out.2.2.1.keep hxc) (bI (HP7.out.2.2.2.1.keep hxc) (bI (HP7.out.2.2.2.2.1.keep hxc) (bI (HP7.out.2.2.2.2.2.1.keep hxc) (HP7.out.2.2.2.2.2.2.trans hxc)))))))
  have HY8:=bH (bI (HY7.out.1.keep hxc) (HY7.out.2.keep hxc))
  clear hS HB6 HP7 HY7 HBo HI1 hxc hpbl
  go_wp2_with fail
  refine (Rrfrom_any wc (-7) (by decide) (by decide)).mono ?_
  rintro r9 w9 ⟨t9,rfl,h9,hx9⟩
  obtain ⟨n7,a7,m7,c7,a7',m7',c7',rfl⟩:=h9.shape
  have hxb:=hx9.alloc (.cells #[.int .i64 0,.bool n7,.slice a7 m7 c7,.slice a7' m7' c7',.slice xo 2 xc,.slice yo 1 yc,.slice none 0 0] 34)
  have hxc:=(Ext.refl (fun _=>False) w9).alloc (.cells #[.int .i64 0,.bool n7,.slice a7 m7 c7,.slice a7' m7' c7',.slice xo 2 xc,.slice yo 1 yc,.slice none 0 0] 34)
  have hob:=blk_alloc_at w9 (.cells #[.int .i64 0,.bool n7,.slice a7 m7 c7,.slice a7' m7' c7',.slice xo 2 xc,.slice yo 1 yc,.slice none 0 0] 34)
  have HP9:=bH (bI (HP8.out.1.keep hxb) (bI (blk_keep HP8.out.2.1 hxb) (bI (HP8.out.2.2.1.keep hxb) (bI (HP8.out.2.2.2.1.keep hxb) (bI (HP8.out.2.2.2.2.1.keep hxb) (bI (HP8.out.2.2.2.2.2.1.keep hxb) (bI (HP8.out.2.2.2.2.2.2.trans hxb) (bI hob (h9.keep hxc)))))))))
  have HY9:=bH (bI (HY8.out.1.keep hxb) (HY8.out.2.keep hxb))
  clear hxb hxc h9 hx9 HP8 HY8 hob
  go_upto_region 8 with fail
  generalize hw10:w9.alloc (.cells #[.int .i64 0,.bool n7,.slice a7 m7 c7,.slice a7' m7' c7',.slice xo 2 xc,.slice yo 1 yc,.slice none 0 0] 34)=w10 at *
  clear hw10
  obtain ⟨ob,hob⟩:∃ ob,w9.heap.size=ob:=⟨_,rfl⟩
  rw [hob] at HP9 ⊢
  clear hob
  obtain ⟨x0,x1,x2,-⟩:=HP9.out.2.2.1.facts
  obtain ⟨y0,y1,y2,-⟩:=HP9.out.2.2.2.2.1.facts
  have hS:S15 pb pb ab ab ab bb bb bb ob ob ob ob ob ob ob 0 1 0 1 2 0 1 2 0 1 2 3 4 5 6 (.slice vo 2 vc) (.slice ro 1 rc) (.bool n4) (.slice a4 m4 c4) (.slice a4' m4' c4') (.bool n5) (.slice a5 m5 c5) (.slice a5' m5' c5') (.int .i64 0) (.bool n7) (.slice a7 m7 c7) (.slice a7' m7' c7') (.slice xo 2 xc) (.slice yo 1 yc) (.slice none 0 0) w10:=⟨cellq HP9.out.2.1 0 rfl,cellq HP9.out.2.1 1 rfl,x0,x1,x2,y0,y1,y2,cellq HP9.out.2.2.2.2.2.2.2.1 0 rfl,cellq HP9.out.2.2.2.2.2.2.2.1 1 rfl,cellq HP9.out.2.2.2.2.2.2.2.1 2 rfl,cellq HP9.out.2.2.2.2.2.2.2.1 3 rfl,cellq HP9.out.2.2.2.2.2.2.2.1 4 rfl,cellq HP9.out.2.2.2.2.2.2.2.1 5 rfl,cellq HP9.out.2.2.2.2.2.2.2.1 6 rfl⟩
  clear x0 x1 x2 y0 y1 y2
  have HF7:=bH (fun W=>Rrfrom_any W (-7) (by decide) (by decide))
  have HF9:=bH (fun W=>Rrfrom_any W (-9) (by decide) (by decide))
  have HF6:=bH (fun W=>Rrfrom_any W (-6) (by decide) (by decide))
  have sz:∀ k:Int,-1000<=k->k<=1000->Sz (k:Rat) 2:=fun k h0 h1=>(Sz.int (by unfold InR; omega))
  have HSa:=bH (fun W u (hW:XF w10 W) (hu:IsRat W u ((-7:Int):Rat))=>(by rw [show true=decide (((-7:Int):Rat)=((-7:Int):Rat)) from by simp]; exact Rrsame_any W _ u _ _ 2 (HP9.out.2.2.2.1.keep hW) hu (sz (-7) (by decide) (by decide)) (sz (-7) (by decide) (by decide)) (by decide):Calls Tryz.prog 44 #[.agg #[.bool n4,.slice a4 m4 c4,.slice a4' m4' c4'],u] W (BoolPost W true)))
  have HSb:=bH (fun W u (hW:XF w10 W) (hu:IsRat W u ((-9:Int):Rat))=>(by rw [show true=decide (((-9:Int):Rat)=((-9:Int):Rat)) from by simp]; exact Rrsame_any W _ u _ _ 2 (HP9.out.2.2.2.2.2.1.keep hW) hu (sz (-9) (by decide) (by decide)) (sz (-9) (by decide) (by decide)) (by decide):Calls Tryz.prog 44 #[.agg #[.bool n5,.slice a5 m5 c5,.slice a5' m5' c5'],u] W (BoolPost W true)))
  have HOp:=bH (fun W (hW:XF w10 W)=>(by rw [<- ex_opt]; exact Optimal_any W _ _ _ exP exX exY 2 2 (HP9.out.1.keep hW) (HY9.out.2.keep hW) (HY9.out.1.keep hW) (ex_small 2 (by decide) (by decide)):Calls Tryz.prog 33 #[.agg #[.slice vo 2 vc,.slice ro 1 rc],.slice xo 2 xc,.slice yo 1 yc] W (BoolPost W true)))
  have HC7:=bH (fun W (hW:XF w10 W)=>(by have h:=Check_any W (.agg #[.slice vo 2 vc,.slice ro 1 rc]) (.agg #[.int .i64 0,.bool n7,.slice a7 m7 c7,.slice a7' m7' c7',.slice xo 2 xc,.slice yo 1 yc,.slice none 0 0]) exP ⟨0,((-7:Int):Rat),exX,exY,[]⟩ 2 2 (HP9.out.1.keep hW) ⟨n7,a7,m7,c7,a7',m7',c7',_,_,_,rfl,(HP9.out.2.2.2.2.2.2.2.2.keep hW).reads (sz (-7) (by decide) (by decide)),HY9.out.2.keep hW,HY9.out.1.keep hW,Rats.nil W 2,by unfold InR; decide⟩ (ex_small 2 (by decide) (by decide)); rw [ex_check] at h; exact h:Calls Tryz.prog 19 #[.agg #[.slice vo 2 vc,.slice ro 1 rc],.agg #[.int .i64 0,.bool n7,.slice a7 m7 c7,.slice a7' m7' c7',.slice xo 2 xc,.slice yo 1 yc,.slice none 0 0]] W (ErrPost W 0)))
  have HC6:=bH (fun W n a m c a' m' c' (hW:XF w10 W) (hu:IsRat W (.agg #[.bool n,.slice a m c,.slice a' m' c']) ((-6:Int):Rat))=>(by have h:=Check_any W (.agg #[.slice vo 2 vc,.slice ro 1 rc]) (.agg #[.int .i64 0,.bool n,.slice a m c,.slice a' m' c',.slice xo 2 xc,.slice yo 1 yc,.slice none 0 0]) exP ⟨0,((-6:Int):Rat),exX,exY,[]⟩ 2 2 (HP9.out.1.keep hW) ⟨n,a,m,c,a',m',c',_,_,_,rfl,hu.reads (sz (-6) (by decide) (by decide)),HY9.out.2.keep hW,HY9.out.1.keep hW,Rats.nil W 2,by unfold InR; decide⟩ (ex_small 2 (by decide) (by decide)); rw [ex_check'] at h; exact h:Calls Tryz.prog 19 #[.agg #[.slice vo 2 vc,.slice ro 1 rc],.agg #[.int .i64 0,.bool n,.slice a m c,.slice a' m' c',.slice xo 2 xc,.slice yo 1 yc,.slice none 0 0]] W (ErrPost W 13)))
  have hX0:=(Ext.refl (fun _=>False) w10).drew
  have hXw:=HP9.out.2.2.2.2.2.2.1
  refine wp_region_held_drew (S:=(S15 pb pb ab ab ab bb bb bb ob ob ob ob ob ob ob 0 1 0 1 2 0 1 2 0 1 2 3 4 5 6 (.slice vo 2 vc) (.slice ro 1 rc) (.bool n4) (.slice a4 m4 c4) (.slice a4' m4' c4') (.bool n5) (.slice a5 m5 c5) (.slice a5' m5' c5') (.int .i64 0) (.bool n7) (.slice a7 m7 c7) (.slice a7' m7' c7') (.slice xo 2 xc) (.slice yo 1 yc) (.slice none 0 0))) (by kernel_rfl) (hS.drew) (fun hHeld=>?_)
  refine ht 0 (h:=?_)
  (try go_frame)
  refine ht 1 (h:=?_)
  (try go_frame)
  refine ht 2 (h:=?_)
  (try go_frame)
  refine ht 3 (h:=?_)
  (try go_frame)
  refine ht 4 (h:=?_)
  (try go_frame)
  refine ht 5 (h:=?_)
  (try go_frame)
  refine ht 6 (h:=?_)
  (try go_frame)
  refine ht 7 (h:=?_)
  (try go_frame)
  refine ht 8 (h:=?_)
  (try go_frame)
  refine ht 9 (h:=?_)
  (try go_frame)
  refine held_step 10 rfl (by kernel_rfl) (fun K hK=>?_)
  (go_simp; go_at_call 32; (with_reducible refine (HF7.out _).mono ?_); rintro q1 u1 ⟨t1,rfl,ht1,hx1⟩; obtain ⟨m1,e1,l1,f1,e1',l1',f1',rfl⟩:=ht1.shape; have hX1:=hX0.trans hx1; have hK1:=hS.keep hX1)
  refine hK.out _ _ (hK1) (fun hHeld=>?_)
  clear hK K
  (try go_frame)
  refine held_step 11 rfl (by kernel_rfl) (fun K hK=>?_)
  (go_simp; go_at_call 44; (with_reducible refine (HSa.out _ _ hX1 ht1).mono ?_); rintro q2 u2 ⟨rfl,hx2⟩; have hX2:=hX1.trans hx2; have hK2:=hS.keep hX2)
  refine hK.out _ _ (hK2) (fun hHeld=>?_)
  clear hK K
  (try go_frame)
  refine ht 12 (h:=?_)
  (try go_frame)
  refine ht 13 (h:=?_)
  (try go_frame)
  refine ht 14 (h:=?_)
  (try go_frame)
  refine held_step 15 rfl (by kernel_rfl) (fun K hK=>?_)
  (go_simp; go_at_call 32; (with_reducible refine (HF9.out _).mono ?_); rintro q3 u3 ⟨t3,rfl,ht3,hx3⟩; obtain ⟨m3,e3,l3,f3,e3',l3',f3',rfl⟩:=ht3.shape; have hX3:=hX2.trans hx3; have hK3:=hS.keep hX3)
  refine hK.out _ _ (hK3) (fun hHeld=>?_)
  clear hK K
  (try go_frame)
  refine held_step 16 rfl (by kernel_rfl) (fun K hK=>?_)
  (go_simp; go_at_call 44; (with_reducible refine (HSb.out _ _ hX3 ht3).mono ?_); rintro q4 u4 ⟨rfl,hx4⟩; have hX4:=hX3.trans hx4; have hK4:=hS.keep hX4)
  refine hK.out _ _ (hK4) (fun hHeld=>?_)
  clear hK K
  (try go_frame)
  refine ht 17 (h:=?_)
  (try go_frame)
  refine ht 18 (h:=?_)
  (try go_frame)
  refine ht 19 (h:=?_)
  (try go_frame)
  refine ht 20 (h:=?_)
  (try go_frame)
  refine ht 21 (h:=?_)
  (try go_frame)
  refine held_step 22 rfl (by kernel_rfl) (fun K hK=>?_)
  (go_simp; go_at_call 33; (with_reducible refine (HOp.out _ hX4).mono ?_); rintro q5 u5 ⟨rfl,hx5⟩; have hX5:=hX4.trans hx5; have hK5:=hS.keep hX5)
  refine hK.out _ _ (hK5) (fun hHeld=>?_)
  clear hK K
  (try go_frame)
  refine ht 23 (h:=?_)
  (try go_frame)
  refine ht 24 (h:=?_)
  (try go_frame)
  refine ht 25 (h:=?_)
  (try go_frame)
  refine ht 26 (h:=?_)
  (try go_frame)
  refine held_step 27 rfl (by kernel_rfl) (fun K hK=>?_)
  (go_simp; go_at_call 19; (with_reducible refine (HC7.out _ hX5).mono ?_); rintro q6 u6 ⟨rfl,hx6⟩; have hX6:=hX5.trans hx6; have hK6:=hS.keep hX6)
  refine hK.out _ _ (hK6) (fun hHeld=>?_)
  clear hK K
  (try go_frame)
  refine ht 28 (h:=?_)
  (try go_frame)
  refine ht 29 (h:=?_)
  (try go_frame)
  refine ht 30 (h:=?_)
  (try go_frame)
  refine ht 31 (h:=?_)
  (try go_frame)
  refine ht 33 (h:=?_)
  (try go_frame)
  refine ht 34 (h:=?_)
  (try go_frame)
  refine held_step 32 rfl (by kernel_rfl) (fun K hK=>?_)
  (go_simp; go_at_call 32; (with_reducible refine (HF6.out _).mono ?_); rintro q7 u7 ⟨t7,rfl,ht7,hx7⟩; obtain ⟨m7,e7,l7,f7,e7',l7',f7',rfl⟩:=ht7.shape; have hC6:=HC6.out u7 _ _ _ _ _ _ _ ((hX6.trans hx7)) ht7; have hX7:=hX6.trans hx7; have hK7:=hS.keep hX7)
  refine hK.out _ _ (hK7) (fun hHeld=>?_)
  clear hK K
  (try go_frame)
  refine ht 35 (h:=?_)
  (try go_frame)
  refine held_step 36 rfl (by kernel_rfl) (fun K hK=>?_)
  (go_simp; go_at_call 19; (with_reducible refine (hC6).mono ?_); rintro q8 u8 ⟨rfl,hx8⟩; have hX8:=hX7.trans hx8; have hK8:=hS.keep hX8)
  refine hK.out _ _ (hK8) (fun hHeld=>?_)
  clear hK K
  (try go_frame)
  refine ht 37 (h:=?_)
  (try go_frame)
  refine ht 38 (h:=?_)
  (try go_frame)
  refine ht 39 (h:=?_)
  (try simp only [Act.put,List.setIfInBounds_toArray,List.set_cons_zero])
  refine wpAnyH_done (by kernel_rfl) ?_ _
  have HXX:=bH (hXw.trans hX8)
  go_wp2
  go_ret
  exact ⟨rfl,HXX.out⟩
abbrev RT:=RowV × Value
section
variable {B:Nat} {y:RT} {oa:Option (List VarV)} {ob:Option (List RT)} {c d:Bool} {w5 w w':World} {vA vB vC vD:Value}
end
theorem wpList_append_el {w:World} {ops:Array Oper} {rest:List Oper} {o:Oper} {a:Act} {Q:Exit->Act->World->Prop} {β:Type} {f:β->List Value} {T ts:TypeId} {z:Value} {size bytes:Nat} (hgd:o.guard=none) (s x:Operand)
  (ho:o.op=.call { callee:=.builtin .append,args:=#[s,x],argTypes:=#[ts,ts] }) (hf:∀ x,(f x).length=size) (x0:β) (h1:∀ u ∈ f x0,u.oneCell'=true) (ht:Tryz.prog.underlying ts=some (.slice T)) (hi:(Tryz.prog.info? T).map (fun i=>(i.zero,i.size,i.bytes))=some (some z,size,bytes)) (hz:z.cells.size=size) (hsz:0<size) (hbs:bytes<=1000)
  (base:Nat) (v:Value) (l:List β) (hs:a.eval s=v) (hown:w.ownsRow base T size v l.length (l.flatMap f)) (ad:Addr) (c:Nat) (hx:a.eval x=.slice (some ad) 1 c) (hsrc:∀ j u,(f x0)[j]?=some u->w.cell? (ad.add j)=some u) (hl:l.length<=100000) (hbase:base<=w.heap.size)
  (h:∀ v' w',w'.ownsRow base T size v' (l++[x0]).length ((l++[x0]).flatMap f)->Ext (fun k=>v.ownBlock=some k) w w'->(v'.ownBlock=v.ownBlock∨v'.ownBlock=some w.heap.size)->wpList Tryz.prog ops Q rest (a.put o.dst v') w') :
  wpList Tryz.prog ops Q (o :: rest) a w:=by
 obtain ⟨i0,hi0,hz0,hz1,hz2⟩:=info_parts hi
 refine wpList_append_any hgd s x ts ho base T i0 z size bytes ht hi0 hz0 hz1 hz2 hz hsz v l.length (l.flatMap f) hs hown (some ad) 1 c (fun e=>by cases e) (f x0) hx (by rw [hf,Nat.one_mul]) (.inr ⟨ad,rfl,hsrc⟩) h1 (by unfold maxLen; omega) (Nat.le_trans (Nat.mul_le_mul (show l.length+1<=100001 by omega) hbs) (by decide)) hbase (fun v' w' g1 g2 g3=>h v' w' ?_ ?_ g3)
 ·rw [List.length_append,List.flatMap_append]
  simpa using g1
 ·exact (Ext.refl (fun k=>v.ownBlock=some k) w).grown g2 (fun k hk _=>hk)
section
variable {w3 w w':World} {gb:Nat} {v v' rv:Value} {l l':List VarV}
end
theorem own_sl {β:Type} {f:β->List Value} {m:Nat} {w:World} {base:Nat} {T:TypeId} {v:Value} {l:List β} (hf:∀ x,(f x).length=m) (h:w.ownsRow base T m v l.length (l.flatMap f)):Sl w v m (l.map f):=by
 rcases h.2 with ⟨rfl,h0⟩ | ⟨g,cap,cur,rfl,hb,hg,hnc,hcm,hcs,htake⟩
 ·exact ⟨none,0,by rw [List.length_map,h0],by rw [List.length_map,h0]; exact Nat.le_refl _,by unfold maxLen; decide,fun _=>rfl,fun h=>by rw [List.length_map,h0] at h; exact absurd h (Nat.lt_irrefl 0)⟩
 ·refine ⟨some ⟨g,0,none⟩,cap,by rw [List.length_map],by rw [List.length_map]; exact hnc,hcm,(fun e=>by cases e),fun _=>⟨g,0,rfl,blk_lt hg,fun i r hi j u hu=>?_⟩⟩
  rw [List.getElem?_map] at hi
  obtain ⟨x,hx,rfl⟩:=Option.map_eq_some_iff.1 hi
  have hj:j<m:=by rw [<- hf x]; exact (List.getElem?_eq_some_iff.1 hu).1
  have hget:=fm_get hf l i hx j hj
  rw [hu,<- htake,List.getElem?_take] at hget
  rw [Nat.zero_add,cell_of_cells hg,<- Array.getElem?_toList]
  split at hget
  ·exact hget
  ·cases hget
section
variable {w3 w w':World} {gb:Nat} {va v v':Value} {vars vars':List VarV} {prs:List RT} {y:RT}
end
section
variable {w0 w w':World} {rb:Nat} {tv tv':Value} {nm:ByteArray} {gr kd bd:Int} {l l':List TermV}
end
section
variable {p:ProgV} {o:OutV}
theorem acc_kind (h:chkB p o=true) (hk:0<=o.kind/\o.kind<=2) {k:Int} (hk2:0<=k/\k<=2) (hn:k≠o.kind):chkB p { o with kind:=k }=false:=by
 rw [<- Bool.not_eq_true]
 intro h'
 rcases chk_kinds h hk with ⟨k0,k1,_⟩ | ⟨k0,k1,_⟩ | ⟨k0,k1,_⟩
 ·rcases chk_kinds h' hk2 with ⟨m0,m1,_⟩ | ⟨m0,m1,_⟩ | ⟨m0,m1,_⟩
  ·exact hn (m0.trans k0.symm)
  ·exact inf_nofeas m1 (opt_parts k1).1
  ·exact (unb_nobound m1 (opt_parts k1).2).elim
 ·rcases chk_kinds h' hk2 with ⟨m0,m1,_⟩ | ⟨m0,m1,_⟩ | ⟨m0,m1,_⟩
  ·exact inf_nofeas k1 (opt_parts m1).1
  ·exact hn (m0.trans k0.symm)
  ·exact inf_nofeas k1 (unb_parts m1).1
 ·rcases chk_kinds h' hk2 with ⟨m0,m1,_⟩ | ⟨m0,m1,_⟩ | ⟨m0,m1,_⟩
  ·exact (unb_nobound k1 (opt_parts m1).2).elim
  ·exact inf_nofeas m1 (unb_parts k1).1
  ·exact hn (m0.trans k0.symm)
theorem acc_val (h:chkB p o=true) (hk:0<=o.kind/\o.kind<=2):chkB p { o with val:=o.val+1 }=false:=by
 rw [<- Bool.not_eq_true]
 intro h'
 have hne:∀ q:Rat,q+1≠q:=fun q e=>by
  have:(1:Rat)=0:=by grind
  exact absurd this (by decide)
 rcases chk_kinds h hk with ⟨k0,_,k2⟩ | ⟨k0,_,k2⟩ | ⟨k0,_,k2⟩
 ·rcases chk_kinds h' hk with ⟨_,_,m2⟩ | ⟨m0,_⟩ | ⟨m0,_⟩
  ·exact hne o.val (m2.trans k2.symm)
  ·have m0':o.kind=1:=m0
   omega
  ·have m0':o.kind=2:=m0
   omega
 ·rcases chk_kinds h' hk with ⟨m0,_⟩ | ⟨_,_,m2⟩ | ⟨m0,_⟩
  ·have m0':o.kind=0:=m0
   omega
  ·exact hne o.val (m2.trans k2.symm)
  ·have m0':o.kind=2:=m0
   omega
 ·rcases chk_kinds h' hk with ⟨m0,_⟩ | ⟨m0,_⟩ | ⟨_,_,m2⟩
  ·have m0':o.kind=0:=m0
   omega
  ·have m0':o.kind=1:=m0
   omega
  ·exact hne o.val (m2.trans k2.symm)
theorem chk_lens (h:chkB p o=true) (hk:0<=o.kind/\o.kind<=2):(o.ray.length=if o.kind=2 then p.vars.length else 0)/\(o.mu.length=if o.kind=2 then 0 else p.rows.length):=by
 unfold chkB at h
 split at h
 ·rename_i h0
  unfold chk1 at h
  simp only [Bool.and_eq_true,decide_eq_true_eq] at h
  rw [if_neg (by omega),if_neg (by omega)]
  exact ⟨h.1.1.2,h.1.1.1.2⟩
 ·split at h
  ·rename_i h0 h1
   unfold chk2 at h
   simp only [Bool.and_eq_true,decide_eq_true_eq] at h
   rw [if_neg (by omega),if_neg (by omega)]
   exact ⟨by omega,h.1.2⟩
  ·rename_i h0 h1
   unfold chk3 at h
   simp only [Bool.and_eq_true,decide_eq_true_eq] at h
   rw [if_pos (by omega),if_pos (by omega)]
   exact ⟨h.1.2,h.1.1.1.2⟩
theorem acc_ray (h:chkB p o=true) (hk:0<=o.kind/\o.kind<=2) (q:Rat):chkB p { o with ray:=o.ray++[q] }=false:=by
 rw [<- Bool.not_eq_true]
 intro h'
 have h1:=(chk_lens h hk).1
 have h2:=(chk_lens h' hk).1
 have h3:(o.ray++[q]).length=if o.kind=2 then p.vars.length else 0:=h2
 rw [List.length_append,h1] at h3
 simp at h3
theorem acc_mu (h:chkB p o=true) (hk:0<=o.kind/\o.kind<=2) (q:Rat):chkB p { o with mu:=o.mu++[q] }=false:=by
 rw [<- Bool.not_eq_true]
 intro h'
 have h1:=(chk_lens h hk).2
 have h2:=(chk_lens h' hk).2
 have h3:(o.mu++[q]).length=if o.kind=2 then 0 else p.rows.length:=h2
 rw [List.length_append,h1] at h3
 simp at h3
theorem check_ok (hv:validB p=true) (h:chkB p o=true) (hk:0<=o.kind/\o.kind<=2):checkE p o=0:=by
 unfold checkE
 rw [hv,decide_eq_true hk.1,decide_eq_true hk.2,h]; rfl
theorem check_no (hv:validB p=true) (h:chkB p o=false) (hk:0<=o.kind/\o.kind<=2):checkE p o=13:=by
 unfold checkE
 rw [hv,decide_eq_true hk.1,decide_eq_true hk.2,h]; rfl
end
theorem sl_lies {β:Type} {f:β->List Value} {m:Nat} {w:World} {ao:Option Addr} {n c:Nat} {l:List β} (hm:0<m) (hf:∀ x,(f x).length=m) (h:Sl w (.slice ao n c) m (l.map f)):n=l.length/\(ao=none->c=0)/\Lies w ao l.length (l.flatMap f):=by
 obtain ⟨ao',c',e,h1,h2,h3,h4⟩:=h
 cases e
 rw [List.length_map] at h4 ⊢
 refine ⟨rfl,h3,?_⟩
 by_cases h0:l.length=0
 ·exact .inl h0
 ·obtain ⟨b,off,rfl,hb,hc⟩:=h4 (by omega)
  refine .inr ⟨_,rfl,fun j u hu=>?_⟩
  have hj:j<l.length*m:=by
   have:=(List.getElem?_eq_some_iff.1 hu).1
   rwa [fm_length hf] at this
  have hi:j / m<l.length:=(Nat.div_lt_iff_lt_mul hm).2 hj
  have hr:j % m<m:=Nat.mod_lt _ hm
  have hg:=fm_get (f:=f) (m:=m) hf l (j / m) (List.getElem?_eq_getElem hi) (j % m) hr
  rw [Nat.div_add_mod'] at hg
  have:=hc (j / m) _ (by rw [List.getElem?_map,List.getElem?_eq_getElem hi]; rfl) (j % m) u (hg.symm.trans hu)
  rw [Nat.add_assoc,Nat.div_add_mod'] at this
  simpa [Addr.add_lit] using this
theorem wpList_append_list {w:World} {ops:Array Oper} {rest:List Oper} {o:Oper} {a:Act} {Q:Exit->Act->World->Prop} {β:Type} {f:β->List Value} {T ts:TypeId} {z:Value} {size bytes:Nat} {l:List β} (hgd:o.guard=none) (s x:Operand)
  (ho:o.op=.call { callee:=.builtin .append,args:=#[s,x],argTypes:=#[ts,ts] }) (hf:∀ x,(f x).length=size) (l2:List β) (h1:∀ x ∈ l2,∀ u ∈ f x,u.oneCell'=true) (ht:Tryz.prog.underlying ts=some (.slice T)) (hi:(Tryz.prog.info? T).map (fun i=>(i.zero,i.size,i.bytes))=some (some z,size,bytes)) (hz:z.cells.size=size) (hsz:0<size) (hbs:bytes<=1000)
  (base:Nat) (v:Value) (hs:a.eval s=v) (hown:w.ownsRow base T size v l.length (l.flatMap f)) (ao:Option Addr) (n c:Nat) (hx:a.eval x=.slice ao n c) (hsl:Sl w (.slice ao n c) size (l2.map f)) (hl:l.length+l2.length<=1000) (hbase:base<=w.heap.size)
  (h:∀ v' w',w'.ownsRow base T size v' (l++l2).length ((l++l2).flatMap f)->Ext (fun k=>v.ownBlock=some k) w w'->(v'.ownBlock=v.ownBlock∨v'.ownBlock=some w.heap.size)->wpList Tryz.prog ops Q rest (a.put o.dst v') w') :
  wpList Tryz.prog ops Q (o :: rest) a w:=by
 obtain ⟨i0,hi0,hz0,hz1,hz2⟩:=info_parts hi
 obtain ⟨rfl,hc,hnews⟩:=sl_lies hsz hf hsl
 refine wpList_append_any hgd s x ts ho base T i0 z size bytes ht hi0 hz0 hz1 hz2 hz hsz v l.length (l.flatMap f) hs hown ao l2.length c hc (l2.flatMap f) hx (fm_length hf l2) hnews (fun u hu=>?_) (by unfold maxLen; omega) (Nat.le_trans (Nat.mul_le_mul hl hbs) (by decide)) hbase (fun v' w' g1 g2 g3=>h v' w' ?_ ?_ g3)
 ·obtain ⟨x,hm,hu⟩:=List.mem_flatMap.1 hu
  exact h1 x hm u hu
 ·rw [List.length_append,List.flatMap_append]
  exact g1
 ·exact (Ext.refl (fun k=>v.ownBlock=some k) w).grown g2 (fun k hk _=>hk)
theorem wpList_append_new {w:World} {ops:Array Oper} {rest:List Oper} {o:Oper} {a:Act} {Q:Exit->Act->World->Prop} {β:Type} {f:β->List Value} {T ts:TypeId} {z:Value} {size bytes:Nat} (hgd:o.guard=none) (s x:Operand)
  (ho:o.op=.call { callee:=.builtin .append,args:=#[s,x],argTypes:=#[ts,ts] }) (hf:∀ x,(f x).length=size) (l2:List β) (h1:∀ x ∈ l2,∀ u ∈ f x,u.oneCell'=true) (ht:Tryz.prog.underlying ts=some (.slice T)) (hi:(Tryz.prog.info? T).map (fun i=>(i.zero,i.size,i.bytes))=some (some z,size,bytes)) (hz:z.cells.size=size) (hsz:0<size) (hbs:bytes<=1000)
  (base:Nat) (v:Value) (hs:a.eval s=v) (hown:w.ownsRow base T size v 0 []) (ao:Option Addr) (n c:Nat) (hx:a.eval x=.slice ao n c) (hsl:Sl w (.slice ao n c) size (l2.map f)) (hl:l2.length<=1000) (hbase:base<=w.heap.size)
  (h:∀ v' w',w'.ownsRow base T size v' l2.length (l2.flatMap f)->Ext (fun k=>v.ownBlock=some k) w w'->(v'.ownBlock=v.ownBlock∨v'.ownBlock=some w.heap.size)->wpList Tryz.prog ops Q rest (a.put o.dst v') w') :
  wpList Tryz.prog ops Q (o :: rest) a w:=wpList_append_list (l:=[]) hgd s x ho hf l2 h1 ht hi hz hsz hbs base v hs hown ao n c hx hsl (by rw [List.length_nil,Nat.zero_add]; exact hl) hbase h
theorem crats_snoc {w:World} {base:Nat} {v:Value} {cs:List RatC} {l:List Rat} {L:Nat} (hn:cs.length=l.length) (h:w.ownsRow base 31 3 v (cs++[(⟨false,none,0,0,none,0,0⟩:RatC)]).length ((cs++[(⟨false,none,0,0,none,0,0⟩:RatC)]).flatMap RatC.cells)) (hc:∀ (i:Nat) (c:RatC) (q:Rat),cs[i]?=some c->l[i]?=some q->IsRat w c.v q/\Sz q L) (hL:1<=L:=by decide):CRats w v (l++[0]) L:=by
 refine ⟨_,by rw [List.length_append,List.length_append,hn]; rfl,own_sl (fun _=>rfl) h,fun i c q h1 h2=>?_⟩
 by_cases e:i<cs.length
 ·rw [List.getElem?_append_left e] at h1
  rw [List.getElem?_append_left (by omega)] at h2
  exact hc i c q h1 h2
 ·have hi:=(List.getElem?_eq_some_iff.1 h1).1
  rw [List.length_append] at hi
  have e2:i=cs.length:=by simp at hi; omega
  subst e2
  rw [List.getElem?_concat_length] at h1
  rw [hn,List.getElem?_concat_length] at h2
  cases h1; cases h2
  exact ⟨IsRat.zero _,Sz.zero.mono hL⟩
section
variable {w:World} {o:OutV} {L:Nat} {ng:Bool} {a1 a2 po mo zo:Option Addr} {m1 c1 m2 c2 pn pc mn mc zn zc:Nat}
theorem IsOut.withKind {k k':Int} (h:IsOut w (.agg #[.int .i64 k,.bool ng,.slice a1 m1 c1,.slice a2 m2 c2,.slice po pn pc,.slice mo mn mc,.slice zo zn zc]) o L) (hk:InR k'):IsOut w (.agg #[.int .i64 k',.bool ng,.slice a1 m1 c1,.slice a2 m2 c2,.slice po pn pc,.slice mo mn mc,.slice zo zn zc]) { o with kind:=k' } L:=by
 obtain ⟨_,_,_,_,_,_,_,_,_,_,e,h1,h2,h3,h4,h5⟩:=h
 cases e
 exact ⟨_,_,_,_,_,_,_,_,_,_,rfl,h1,h2,h3,h4,hk⟩
theorem IsOut.withVal {k:Int} {ng':Bool} {b1 b2:Option Addr} {x1 y1 x2 y2 L':Nat} {q:Rat} (h:IsOut w (.agg #[.int .i64 k,.bool ng,.slice a1 m1 c1,.slice a2 m2 c2,.slice po pn pc,.slice mo mn mc,.slice zo zn zc]) o L) (hL:L<=L') (hq:Rrat w (.agg #[.bool ng',.slice b1 x1 y1,.slice b2 x2 y2]) q L'):IsOut w (.agg #[.int .i64 k,.bool ng',.slice b1 x1 y1,.slice b2 x2 y2,.slice po pn pc,.slice mo mn mc,.slice zo zn zc]) { o with val:=q } L':=by
 obtain ⟨_,_,_,_,_,_,_,_,_,_,e,h1,h2,h3,h4,h5⟩:=h
 cases e
 exact ⟨_,_,_,_,_,_,_,_,_,_,rfl,hq,h2.mono hL,h3.mono hL,h4.mono hL,h5⟩
theorem IsOut.withRay {k:Int} {v:Value} {l:List Rat} (h:IsOut w (.agg #[.int .i64 k,.bool ng,.slice a1 m1 c1,.slice a2 m2 c2,.slice po pn pc,.slice mo mn mc,.slice zo zn zc]) o L) (hq:Rats w v l L):IsOut w (.agg #[.int .i64 k,.bool ng,.slice a1 m1 c1,.slice a2 m2 c2,.slice po pn pc,.slice mo mn mc,v]) { o with ray:=l } L:=by
 obtain ⟨_,_,_,_,_,_,_,_,_,_,e,h1,h2,h3,h4,h5⟩:=h
 cases e
 exact ⟨_,_,_,_,_,_,_,_,_,_,rfl,h1,h2,h3,hq,h5⟩
theorem IsOut.withMu {k:Int} {v:Value} {l:List Rat} (h:IsOut w (.agg #[.int .i64 k,.bool ng,.slice a1 m1 c1,.slice a2 m2 c2,.slice po pn pc,.slice mo mn mc,.slice zo zn zc]) o L) (hq:Rats w v l L):IsOut w (.agg #[.int .i64 k,.bool ng,.slice a1 m1 c1,.slice a2 m2 c2,.slice po pn pc,v,.slice zo zn zc]) { o with mu:=l } L:=by
 obtain ⟨_,_,_,_,_,_,_,_,_,_,e,h1,h2,h3,h4,h5⟩:=h
 cases e
 exact ⟨_,_,_,_,_,_,_,_,_,_,rfl,h1,h2,hq,h4,h5⟩
end
theorem few_parts3 {p:ProgV} (h:fewP p 6 8=true):Small p 12 1203:=by
 obtain ⟨⟨_,h1⟩,hn,hm⟩:=few_parts h
 refine ⟨⟨by omega,?_⟩,h1⟩
 have e1:p.rows.length*(12*(1203+3)+2)<=8*14474:=Nat.mul_le_mul hm (by omega)
 have e2:(p.vars.length+1)*(p.rows.length*(12*(1203+3)+2)+7)<=7*115799:=Nat.mul_le_mul (by omega) (by omega)
 have e3:p.rows.length*(1203+3)<=8*1206:=Nat.mul_le_mul hm (by omega)
 have e4:p.vars.length*(1203+3)<=6*1206:=Nat.mul_le_mul hn (by omega)
 omega
theorem small0_any (w:World) (pv:Value) (p:ProgV) (hp:IsPrg w pv p):Calls Tryz.prog 17 #[pv,.slice none 0 0] w (BoolPost w (fewP p 6 8)):=by
 have HP:=bH (fun W (hW:XF w W)=>FewP_any W pv p 6 8 (by omega) (by omega) (hp.keep hW))
 obtain ⟨vo,vn,vc,ro,rn,rc,rfl⟩:=hp.slices5
 have hxa:=(Ext.refl (fun _=>False) w).alloc (.cells #[.slice vo vn vc,.slice ro rn rc] 25)
 have hb:=blk_alloc_at w (.cells #[.slice vo vn vc,.slice ro rn rc] 25)
 have HX:=bH hxa
 have HBx:=bH hb
 clear hxa hb hp
 go_enter Tryz.func17,Tryz.ntmps17
 go_upto_region 1 with fail
 generalize w.alloc (.cells #[.slice vo vn vc,.slice ro rn rc] 25)=w1 at *
 generalize w.heap.size=pb at *
 have p0:w1.cell? ⟨pb,0,none⟩=some (.slice vo vn vc):=cellq HBx.out 0 rfl
 have p1:w1.cell? ⟨pb,1,none⟩=some (.slice ro rn rc):=cellq HBx.out 1 rfl
 go_wp2_with fail
 go_loopg [9,6] 0 (fun gg v9 v6 wr=>v9=.int .i64 0/\wr=w1)
 case atStart=>exact ⟨rfl,rfl⟩
 case round =>
  obtain ⟨rfl,rfl⟩:=hrel
  go_wp2_with (go_at_call 39; refine (HP.out _ HX.out).mono ?_; rintro e w2 ⟨rfl,hx⟩)
  go_ret
  exact ⟨rfl,HX.out.trans hx⟩
theorem accepts_core (w:World) (pv:Value) (p:ProgV) (k:Int) (hp:IsPrg w pv p) (hk:0<=k/\k<=255):Calls Tryz.prog 8 #[pv,.int .u8 k] w (BoolPost w true):=by
 obtain ⟨vo,vn,vc,ro,rn,rc,rfl⟩:=hp.slices5
 obtain ⟨hk0,hk1⟩:=hk
 have hxa:=(Ext.refl (fun _=>False) w).alloc (.cells #[.slice vo vn vc,.slice ro rn rc] 25)
 have HB:=bH (bI (hp.keep hxa) (bI (blk_alloc_at w (.cells #[.slice vo vn vc,.slice ro rn rc] 25)) hxa))
 clear hp hxa
 go_enter Tryz.func8,Tryz.ntmps8
 go_upto_region 1 with fail
 generalize w.alloc (.cells #[.slice vo vn vc,.slice ro rn rc] 25)=w1 at *
 obtain ⟨pb,hpb⟩:∃ q,w.heap.size=q:=⟨_,rfl⟩
 rw [hpb] at HB ⊢
 clear hpb
 have p0:w1.cell? ⟨pb,0,none⟩=some (.slice vo vn vc):=cellq HB.out.2.1 0 rfl
 have p1:w1.cell? ⟨pb,1,none⟩=some (.slice ro rn rc):=cellq HB.out.2.1 1 rfl
 have HF:=bH (fun W (hW:XF w1 W)=>small0_any W (.agg #[.slice vo vn vc,.slice ro rn rc]) p (HB.out.1.keep hW))
 have HV:=bH (fun W (hW:XF w1 W)=>Valid4_any W (.agg #[.slice vo vn vc,.slice ro rn rc]) p (HB.out.1.keep hW))
 obtain ⟨fb,hfb⟩:∃ fb,fewP p 6 8=fb:=⟨_,rfl⟩
 rw [hfb] at HF
 have HFb:=bH hfb
 clear hfb
 cases fb with
 | false =>
  go_upto_region 2 with (first | (go_at_call 16; refine (awake_any _).mono ?_; rintro q2 w2 ⟨rfl,hx2⟩; replace p0:=cell_keep p0 hx2; replace p1:=cell_keep p1 hx2) | (go_at_call 17; refine (HF.out _ hx2).mono ?_; rintro q3 w3 ⟨rfl,hx3⟩; replace p0:=cell_keep p0 hx3; replace p1:=cell_keep p1 hx3))
  go_wp2_with (go_at_call 16; refine (awake_any _).mono ?_; rintro r8 w8 ⟨rfl,hx8⟩)
  go_ret
  exact ⟨rfl,(HB.out.2.2.trans (hx2.trans hx3)).trans hx8⟩
 | true =>
 obtain ⟨vb,hvb⟩:∃ vb,validB p=vb:=⟨_,rfl⟩
 rw [hvb] at HV
 have HVb:=bH hvb
 clear hvb
 cases vb with
 | false =>
  go_upto_region 2 with (first | (go_at_call 16; refine (awake_any _).mono ?_; rintro q2 w2 ⟨rfl,hx2⟩; replace p0:=cell_keep p0 hx2; replace p1:=cell_keep p1 hx2) | (go_at_call 17; refine (HF.out _ hx2).mono ?_; rintro q3 w3 ⟨rfl,hx3⟩; replace p0:=cell_keep p0 hx3; replace p1:=cell_keep p1 hx3) | (go_at_call 36; refine (HV.out _ (hx2.trans hx3)).mono ?_; rintro q5 w5 ⟨rfl,hx5⟩; replace p0:=cell_keep p0 hx5; replace p1:=cell_keep p1 hx5))
  go_wp2_with (go_at_call 16; refine (awake_any _).mono ?_; rintro r8 w8 ⟨rfl,hx8⟩)
  go_ret
  exact ⟨rfl,(HB.out.2.2.trans ((hx2.trans hx3).trans hx5)).trans hx8⟩
 | true =>
 go_upto_region 3 with (first | (go_at_call 16; refine (awake_any _).mono ?_; rintro q2 w2 ⟨rfl,hx2⟩; replace p0:=cell_keep p0 hx2; replace p1:=cell_keep p1 hx2) | (go_at_call 17; refine (HF.out _ hx2).mono ?_; rintro q3 w3 ⟨rfl,hx3⟩; replace p0:=cell_keep p0 hx3; replace p1:=cell_keep p1 hx3) | (go_at_call 36; refine (HV.out _ (hx2.trans hx3)).mono ?_; rintro q5 w5 ⟨rfl,hx5⟩; replace p0:=cell_keep p0 hx5; replace p1:=cell_keep p1 hx5))
 have HX5:=bH ((hx2.trans hx3).trans hx5)
 clear hx2 hx3 hx5 HF HV
 have HSo:=bH (Solve_few w5 _ p (HB.out.1.keep HX5.out) HFb.out)
 go_upto_region 4 with (go_at_call 37; refine HSo.out.mono ?_; rintro r8 w8 ⟨v8,oa,e,rfl,hsv,hfar,hx8⟩; obtain ⟨rfl,hck⟩:=hsv.chk HVb.out; have HCh:=bH hck; obtain ⟨nga,a1a,m1a,c1a,a2a,m2a,c2a,pv5a,mv5a,rv5a,e5a,ho1,ho2,ho3,ho4,ho5⟩:=hfar.now; obtain ⟨poa,pca,rfl,-,-,-⟩:=ho2.shape; obtain ⟨moa,mca,rfl,-,-,-⟩:=ho3.shape; obtain ⟨zoa,zca,rfl,-,-,-⟩:=ho4.shape; subst e5a; have HO:=bH (bI ho1 (bI ho2 (bI ho3 (bI ho4 hx8)))); replace p0:=cell_keep p0 hx8; replace p1:=cell_keep p1 hx8; clear hsv hfar hx8 hck ho1 ho2 ho3 ho4 ho5; generalize hkd:oa.kind=kda; have HKda:=bH hkd; clear hkd; generalize hpn:oa.pt.length=pna at HO ⊢; generalize hmn:oa.mu.length=mna at HO ⊢; generalize hzn:oa.ray.length=zna at HO ⊢; have HNl:=bH (bI hmn hzn); clear hpn hmn hzn)
 have hxa:=(Ext.refl (fun _=>False) w8).alloc (.cells #[.int .i64 kda,.bool nga,.slice a1a m1a c1a,.slice a2a m2a c2a,.slice poa pna pca,.slice moa mna mca,.slice zoa zna zca] 34)
 have HAb0:=bH (blk_alloc_at w8 (.cells #[.int .i64 kda,.bool nga,.slice a1a m1a c1a,.slice a2a m2a c2a,.slice poa pna pca,.slice moa mna mca,.slice zoa zna zca] 34))
 have HO8:=bH (bI (HO.out.1.1.keep hxa) (bI (HO.out.2.1.keep hxa) (bI (HO.out.2.2.1.keep hxa) (bI (HO.out.2.2.2.1.keep hxa) (HX5.out.trans (HO.out.2.2.2.2.trans hxa))))))
 have HVz:=bH HO.out.1.2
 replace p0:=cell_keep p0 hxa
 replace p1:=cell_keep p1 hxa
 clear hxa HO
 generalize w8.alloc (.cells #[.int .i64 kda,.bool nga,.slice a1a m1a c1a,.slice a2a m2a c2a,.slice poa pna pca,.slice moa mna mca,.slice zoa zna zca] 34)=wa at *
 generalize w8.heap.size=oba at *
 have hkr:=HCh.out.2
 rw [HKda.out] at hkr
 obtain ⟨hkr0,hkr1⟩:=hkr
 have e0:=cellq HAb0.out 0 rfl
 have e1:=cellq HAb0.out 1 rfl
 have e2:=cellq HAb0.out 2 rfl
 have e3:=cellq HAb0.out 3 rfl
 have e4:=cellq HAb0.out 4 rfl
 have e5:=cellq HAb0.out 5 rfl
 have e6:=cellq HAb0.out 6 rfl
 have HCo:=bH (show Calls Tryz.prog 19 #[(.agg #[.slice vo vn vc,.slice ro rn rc]),.agg #[.int .i64 kda,.bool nga,.slice a1a m1a c1a,.slice a2a m2a c2a,.slice poa pna pca,.slice moa mna mca,.slice zoa zna zca]] wa (ErrPost wa 0) from by
  have h:=Check_any wa (.agg #[.slice vo vn vc,.slice ro rn rc]) _ p oa 1200 12 (HB.out.1.keep HO8.out.2.2.2.2) ⟨_,_,_,_,_,_,_,_,_,_,by rw [HKda.out],HO8.out.1.reads HVz.out,HO8.out.2.1.rats,HO8.out.2.2.1.rats,HO8.out.2.2.2.1.rats,(show InR oa.kind from ⟨by have:=HCh.out.2; omega,by have:=HCh.out.2; omega⟩)⟩ (few_parts HFb.out).1
  rw [check_ok HVb.out HCh.out.1 HCh.out.2] at h
  exact h)
 go_upto_region 6 with (go_at_call 19; refine HCo.out.mono ?_; rintro r9 wp ⟨rfl,hx9⟩; have HXp:=bH (HO8.out.2.2.2.2.trans hx9); have HVa:=bH (fun W (hW:XF wp W)=>HO8.out.1.keep (hx9.trans hW)); have HLs:=bH (fun W (hW:XF wp W)=>bI (HO8.out.2.2.1.keep (hx9.trans hW)) (HO8.out.2.2.2.1.keep (hx9.trans hW))); have HLp:=bH (fun W (hW:XF wp W)=>HO8.out.2.1.keep (hx9.trans hW)); have HAb1:=bH (blk_keep HAb0.out hx9); clear hx9 HAb0 e0 e1 e2 e3 e4 e5 e6 p0 p1)
 have e0:=cellq HAb1.out 0 rfl
 have e1:=cellq HAb1.out 1 rfl
 have e2:=cellq HAb1.out 2 rfl
 have e3:=cellq HAb1.out 3 rfl
 have e4:=cellq HAb1.out 4 rfl
 have e5:=cellq HAb1.out 5 rfl
 have e6:=cellq HAb1.out 6 rfl
 have HQ:=bH (blk_alloc_at wp (.cells #[.int .i64 kda,.bool nga,.slice a1a m1a c1a,.slice a2a m2a c2a,.slice poa pna pca,.slice moa mna mca,.slice zoa zna zca] 34))
 have HXq:=bH ((Ext.refl (fun _=>False) wp).alloc (.cells #[.int .i64 kda,.bool nga,.slice a1a m1a c1a,.slice a2a m2a c2a,.slice poa pna pca,.slice moa mna mca,.slice zoa zna zca] 34))
 have HAb:=bH (fun W (hW:XF (wp.alloc (.cells #[.int .i64 kda,.bool nga,.slice a1a m1a c1a,.slice a2a m2a c2a,.slice poa pna pca,.slice moa mna mca,.slice zoa zna zca] 34)) W)=>blk_keep HAb1.out (HXq.out.trans hW))
 have HQb:=bH (Nat.le_refl wp.heap.size)
 have HOu:=bH (fun W (hW:XF wp W)=>show IsOut W (.agg #[.int .i64 kda,.bool nga,.slice a1a m1a c1a,.slice a2a m2a c2a,.slice poa pna pca,.slice moa mna mca,.slice zoa zna zca]) oa 1200 from ⟨_,_,_,_,_,_,_,_,_,_,by rw [HKda.out],(HVa.out W hW).reads HVz.out,(HLp.out W hW).rats,(HLs.out W hW).1.rats,(HLs.out W hW).2.rats,(show InR oa.kind from ⟨by have:=HCh.out.2; omega,by have:=HCh.out.2; omega⟩)⟩)
 go_upto_region 7 with fail
 clear e0 e1 e2 e3 e4 e5 e6
 have HQb2:=bH (show wp.heap.size<=wp.heap.size from Nat.le_refl _)
 generalize hqq:wp.alloc (.cells #[.int .i64 kda,.bool nga,.slice a1a m1a c1a,.slice a2a m2a c2a,.slice poa pna pca,.slice moa mna mca,.slice zoa zna zca] 34)=wq at *
 clear hqq
 generalize hqb:wp.heap.size=qb at HQ ⊢
 have HQb:=bH (show wp.heap.size<=qb from Nat.le_of_eq hqb)
 clear hqb HQb2
 have hmod:k.tmod 4=0∨k.tmod 4=1∨k.tmod 4=2∨k.tmod 4=3:=by
  have e:=Int.tmod_eq_emod_of_nonneg (b:=4) hk0
  omega
 rcases hmod with hm | hm | hm | hm
 ·have HK:=bH (show ∃ K s k',0<=K/\K<=63/\k.tdiv 4=K/\0<=s/\s<=1/\K.tmod 2=s/\(kda+1+s).tmod 3=k'/\0<=k'/\k'<=2/\k'≠kda from by
   have e1:=Int.tdiv_eq_ediv_of_nonneg (b:=4) hk0
   have e2:0<=k / 4:=by omega
   have e3:=Int.tmod_eq_emod_of_nonneg (b:=2) e2
   have e4:=Int.tmod_eq_emod_of_nonneg (a:=kda+1+k / 4 % 2) (b:=3) (by omega)
   exact ⟨k / 4,k / 4 % 2,(kda+1+k / 4 % 2) % 3,by omega,by omega,e1,by omega,by omega,e3,e4,by omega,by omega,by omega⟩)
  obtain ⟨K,s,k',hK0,hK1,hK2,hs0,hs1,hs2,hk1',hk2',hk3',hk4'⟩:=HK.out
  obtain ⟨A1,hA1⟩:∃ x,kda+1=x:=⟨_,rfl⟩
  obtain ⟨A2,hA2⟩:∃ x,A1+s=x:=⟨_,rfl⟩
  rw [hA1,hA2] at hk1'
  have hA3:A1<=3/\1<=A1:=by omega
  have hA4:A2<=4/\1<=A2:=by omega
  have HNk:=bH hk4'
  clear HK hk4'
  have e0:=cellq (HAb.out wq (Ext.refl _ _)) 0 rfl
  have t0:=cellq HQ.out 0 rfl
  have u0:=free_of_cells HQ.out 0
  have HQ9:=bH (blk_setCell_same HQ.out 0 (.int .i64 k'))
  have HX9:=bH (HXq.out.own ((Ext.refl (fun j=>j=qb) wq).setCell (p:=⟨qb,0,none⟩) (.int .i64 k') (fun _=>rfl)) (fun j e=>by have e':j=qb:=e; have:=HQb.out; omega))
  go_upto_region 16 with fail
  clear e0 t0 u0 hA1 hA2 hk1' hs2 hK2
  generalize wq.setCell ⟨qb,0,none⟩ (.int .i64 k')=w9 at *
  have p0:=cellq (blk_keep HB.out.2.1 (HXp.out.trans HX9.out)) 0 rfl
  have p1:=cellq (blk_keep HB.out.2.1 (HXp.out.trans HX9.out)) 1 rfl
  have y0:=cellq (HQ9.out) 0 rfl
  have y1:=cellq (HQ9.out) 1 rfl
  have y2:=cellq (HQ9.out) 2 rfl
  have y3:=cellq (HQ9.out) 3 rfl
  have y4:=cellq (HQ9.out) 4 rfl
  have y5:=cellq (HQ9.out) 5 rfl
  have y6:=cellq (HQ9.out) 6 rfl
  have HCk:=bH (show Calls Tryz.prog 19 #[(.agg #[.slice vo vn vc,.slice ro rn rc]),.agg #[.int .i64 k',.bool nga,.slice a1a m1a c1a,.slice a2a m2a c2a,.slice poa pna pca,.slice moa mna mca,.slice zoa zna zca]] w9 (ErrPost w9 13) from by
   have h:=Check_any w9 (.agg #[.slice vo vn vc,.slice ro rn rc]) _ p { oa with kind:=k' } 1200 12 (HB.out.1.keep (HXp.out.trans HX9.out)) ((HOu.out w9 HX9.out).withKind (show InR k' from ⟨by omega,by omega⟩)) (few_parts HFb.out).1
   rw [check_no HVb.out (acc_kind HCh.out.1 HCh.out.2 ⟨hk2',hk3'⟩ (by rw [HKda.out]; exact HNk.out)) ⟨hk2',hk3'⟩] at h
   exact h)
  go_wp2_with (go_at_call 19; refine HCk.out.mono ?_; rintro q16 w16 ⟨rfl,hx16⟩)
  go_ret
  exact ⟨rfl,HB.out.2.2.trans ((HXp.out.trans HX9.out).trans hx16)⟩
 ·have HFr:=bH (fun W=>show Calls Tryz.prog 32 #[.int .i64 1] W (RatPost W ((1:Int):Rat)) from Rrfrom_any W 1 (by decide) (by decide))
  have HAd:=bH (fun W u (hW:XF wq W) (hu:IsRat W u ((1:Int):Rat))=>show Calls Tryz.prog 29 #[.agg #[.bool nga,.slice a1a m1a c1a,.slice a2a m2a c2a],u] W (RatPost W (oa.val+((1:Int):Rat))) from Rradd_any W _ u _ _ 1200 ((HVa.out W (HXq.out.trans hW)).reads HVz.out) (hu.reads ((Sz.int (show InR 1 from ⟨by decide,by decide⟩)).mono (by decide))) (by decide) (by decide))
  have e1:=cqo (S:=fun _=>False) (cellq (HAb.out wq (Ext.refl _ _)) 1 rfl) id
  have e2:=cqo (S:=fun _=>False) (cellq (HAb.out wq (Ext.refl _ _)) 2 rfl) id
  have e3:=cqo (S:=fun _=>False) (cellq (HAb.out wq (Ext.refl _ _)) 3 rfl) id
  go_upto_region 11 with fail
  refine mbegin 5 (XF wq) (by kernel_rfl) ((Ext.refl _ wq).drew) (fun hHeld=>?_)
  refine mu 0 (h:=(mu 1 (h:=?_)))
  (try go_frame)
  refine mst 2 (h:=fun K hK=>?_)
  go_simp
  go_at_call 32; (with_reducible refine (HFr.out _).mono ?_); rintro q1 w11 ⟨v11,rfl,h11,hx11⟩; have hX1:=hHeld.trans hx11; obtain ⟨n11,a11,l11,c11,a11',l11',c11',rfl⟩:=h11.shape
  refine hK.out _ _ (hX1) (fun hHeld=>?_)
  clear hK K
  (try go_frame)
  refine mst 3 (h:=fun K hK=>?_)
  go_simp
  go_at_call 29; (with_reducible refine (HAd.out _ _ hX1 h11).mono ?_); rintro q2 w12 ⟨v12,rfl,h12,hx12⟩; have hX2:=hX1.trans hx12; obtain ⟨n12,a12,l12,c12,a12',l12',c12',rfl⟩:=h12.shape
  refine hK.out _ _ (hX2) (fun hHeld=>?_)
  clear hK K
  (try go_frame)
  refine mu 4 (h:=?_)
  (try go_frame)
  have HB12:=bH (blk_keep HQ.out hX2)
  have t1:=cellq HB12.out 1 rfl
  have t2:=cellq HB12.out 2 rfl
  have t3:=cellq HB12.out 3 rfl
  have u1:=free_of_cells HB12.out 1
  have u2:=free_of_cells HB12.out 2
  have u3:=free_of_cells HB12.out 3
  refine ml 5 (h:=fun K hK=>?_)
  go_simp
  refine hK.out _ _ ?_
  clear hK K
  (try go_frame)
  refine mdone (by kernel_rfl) ?_ _
  have HQ9:=bH (blk_setCell_same (blk_setCell_same (blk_setCell_same HB12.out 1 (.bool n12)) 2 (.slice a12 l12 c12)) 3 (.slice a12' l12' c12'))
  have HXs:=bH ((((Ext.refl (fun j=>j=qb) w12).setCell (p:=⟨qb,1,none⟩) (.bool n12) (fun _=>rfl)).setCell (p:=⟨qb,2,none⟩) (.slice a12 l12 c12) (fun _=>rfl)).setCell (p:=⟨qb,3,none⟩) (.slice a12' l12' c12') (fun _=>rfl))
  have HX9:=bH ((HXq.out.trans hX2).own HXs.out (fun j e=>by have e':j=qb:=e; have:=HQb.out; omega))
  have HR9:=bH (h12.past (fun u d hu=>hu.past HXs.out (fun j _ e=>by
   have e':j=qb:=e
   subst e'
   exact noDig_cells HB12.out (fun u hu d e=>by subst e; simp at hu))))
  clear t1 t2 t3 u1 u2 u3 e1 e2 e3 h11 h12 hx11 hx12 hX1 hHeld
  generalize ((w12.setCell ⟨qb,1,none⟩ (.bool n12)).setCell ⟨qb,2,none⟩ (.slice a12 l12 c12)).setCell ⟨qb,3,none⟩ (.slice a12' l12' c12')=w9 at *
  have p0:=cellq (blk_keep HB.out.2.1 (HXp.out.trans HX9.out)) 0 rfl
  have p1:=cellq (blk_keep HB.out.2.1 (HXp.out.trans HX9.out)) 1 rfl
  have y0:=cellq (HQ9.out) 0 rfl
  have y1:=cellq (HQ9.out) 1 rfl
  have y2:=cellq (HQ9.out) 2 rfl
  have y3:=cellq (HQ9.out) 3 rfl
  have y4:=cellq (HQ9.out) 4 rfl
  have y5:=cellq (HQ9.out) 5 rfl
  have y6:=cellq (HQ9.out) 6 rfl
  have HCk:=bH (show Calls Tryz.prog 19 #[(.agg #[.slice vo vn vc,.slice ro rn rc]),.agg #[.int .i64 kda,.bool n12,.slice a12 l12 c12,.slice a12' l12' c12',.slice poa pna pca,.slice moa mna mca,.slice zoa zna zca]] w9 (ErrPost w9 13) from by
   have h:=Check_any w9 (.agg #[.slice vo vn vc,.slice ro rn rc]) _ p { oa with val:=oa.val+((1:Int):Rat) } 1203 12 (HB.out.1.keep (HXp.out.trans HX9.out)) ((HOu.out w9 HX9.out).withVal (by decide) (HR9.out.reads ((Sz.add HVz.out (Sz.int (show InR 1 from ⟨by decide,by decide⟩))).mono (by decide)))) (few_parts3 HFb.out)
   rw [show checkE p { oa with val:=oa.val+((1:Int):Rat) }=13 from check_no HVb.out (acc_val HCh.out.1 HCh.out.2) HCh.out.2] at h
   exact h)
  go_wp2_with (go_at_call 19; refine HCk.out.mono ?_; rintro q16 w16 ⟨rfl,hx16⟩)
  go_ret
  exact ⟨rfl,HB.out.2.2.trans ((HXp.out.trans HX9.out).trans hx16)⟩
 ·have e6:=cellq (HAb.out wq (Ext.refl _ _)) 6 rfl
  obtain ⟨cs,hcs1,hcs2,hcs3⟩:=(HLs.out wq HXq.out).2
  have hcn:cs.length=zna:=by rw [hcs1]; exact HNl.out.2
  have hc6:zna<=8:=by have h:=chk_lens HCh.out.1 HCh.out.2; have h2:=few_parts HFb.out; have h3:=HNl.out.2; have h4:=h.1; rw [h3] at h4; split at h4 <;> omega
  have hx1:=(Ext.refl (fun _=>False) wq).alloc (.cells #[] 31)
  have e6b:=cell_keep e6 hx1
  have HS1:=bH (bI (hcs2.keep hx1) (bI (ownsRow_empty (base:=wq.heap.size) 3 (Nat.le_refl _) (blk_alloc_at wq (.cells #[] 31))) hx1))
  have HCs:=bH (bI hcs1 hcs3)
  have HLl:=bH (show (cs++[(⟨false,none,0,0,none,0,0⟩:RatC)]).length=zna+1 from by rw [List.length_append,hcn]; rfl)
  clear hcs1 hcs2 hcs3 hx1
  go_upto_region 16 with (first | (at_builtin; refine wpList_append_new (f:=RatC.cells) rfl (.tmp 58) (.tmp 60) rfl (fun _=>rfl) cs (fun x _=>ratC_one x) Tryz.underlying32 Tryz.infoRat rfl (by decide) (by decide) wq.heap.size _ rfl HS1.out.2.1 zoa zna zca rfl HS1.out.1 (by rw [hcn]; omega) HS1.out.2.2.size ?_; intro v5 w5 g1 g2 g3; have HS5:=bH (bI g1 (HS1.out.2.2.own g2 (fun k e=>(World.ownsRow.lt HS1.out.2.1 k e).1))); clear g1 g2 g3) | (at_builtin; have HS6:=bH (HS5.out.2.alloc (.cells #[.bool false,.slice none 0 0,.slice none 0 0] 31)); have HO6:=bH (ownsRow_ext HS5.out.1 ((Ext.refl (fun _=>False) w5).alloc (.cells #[.bool false,.slice none 0 0,.slice none 0 0] 31)) (fun _ _ e=>e)); refine wpList_append_el (f:=RatC.cells) (l:=cs) rfl (.tmp 61) (.tmp 63) rfl (fun _=>rfl) ⟨false,none,0,0,none,0,0⟩ (ratC_one _) Tryz.underlying32 Tryz.infoRat rfl (by decide) (by decide) wq.heap.size v5 rfl HO6.out ⟨w5.heap.size,0,none⟩ 1 rfl (alloc_src0 _ _ _) (by rw [hcn]; omega) (HS6.out.size) ?_; intro v7 w7 g1 g2 g3; have HS7:=bH (bI g1 (HS6.out.own g2 (fun k e=>(World.ownsRow.lt HO6.out k e).1))); have t4:=cellq (blk_keep HQ.out HS7.out.2) 6 rfl; have u4:=free_of_cells (blk_keep HQ.out HS7.out.2) 6; obtain ⟨ro7,rc7,e'⟩:=ownsRow_shape g1; rw [HLl.out] at e'; subst e'; clear g1 g2 g3))
  have HQ9:=bH (blk_setCell_same (blk_keep HQ.out HS7.out.2) 6 (.slice ro7 (zna+1) rc7))
  have HXs:=bH ((Ext.refl (fun j=>j=qb) w7).setCell (p:=⟨qb,6,none⟩) (.slice ro7 (zna+1) rc7) (fun _=>rfl))
  have HX9:=bH ((HXq.out.trans HS7.out.2).own HXs.out (fun j e=>by have e':j=qb:=e; have:=HQb.out; omega))
  have HR9:=bH (show CRats (w7.setCell ⟨qb,6,none⟩ (.slice ro7 (zna+1) rc7)) (.slice ro7 (zna+1) rc7) (oa.ray++[0]) 1200 from crats_snoc HCs.out.1 (ownsRow_ext HS7.out.1 HXs.out (fun g e e2=>by have:=(World.ownsRow.lt HS7.out.1 g e).1; have e':g=qb:=e2; have:=blk_lt HQ.out; omega)) (fun i c q hc hq=>⟨((HCs.out.2 i c q hc hq).1.keep HS7.out.2).past (fun u d hu=>hu.past HXs.out (fun j _ e=>by
   have e':j=qb:=e
   subst e'
   exact noDig_cells (blk_keep HQ.out HS7.out.2) (fun u hu d e=>by subst e; simp at hu))),(HCs.out.2 i c q hc hq).2⟩))
  clear t4 u4
  generalize w7.setCell ⟨qb,6,none⟩ (.slice ro7 (zna+1) rc7)=w9 at *
  have p0:=cellq (blk_keep HB.out.2.1 (HXp.out.trans HX9.out)) 0 rfl
  have p1:=cellq (blk_keep HB.out.2.1 (HXp.out.trans HX9.out)) 1 rfl
  have y0:=cellq (HQ9.out) 0 rfl
  have y1:=cellq (HQ9.out) 1 rfl
  have y2:=cellq (HQ9.out) 2 rfl
  have y3:=cellq (HQ9.out) 3 rfl
  have y4:=cellq (HQ9.out) 4 rfl
  have y5:=cellq (HQ9.out) 5 rfl
  have y6:=cellq (HQ9.out) 6 rfl
  have HCk:=bH (show Calls Tryz.prog 19 #[(.agg #[.slice vo vn vc,.slice ro rn rc]),.agg #[.int .i64 kda,.bool nga,.slice a1a m1a c1a,.slice a2a m2a c2a,.slice poa pna pca,.slice moa mna mca,.slice ro7 (zna+1) rc7]] w9 (ErrPost w9 13) from by
   have h:=Check_any w9 (.agg #[.slice vo vn vc,.slice ro rn rc]) _ p { oa with ray:=oa.ray++[0] } 1200 12 (HB.out.1.keep (HXp.out.trans HX9.out)) ((HOu.out w9 HX9.out).withRay HR9.out.rats) (few_parts HFb.out).1
   rw [show checkE p { oa with ray:=oa.ray++[0] }=13 from check_no HVb.out (acc_ray HCh.out.1 HCh.out.2 0) HCh.out.2] at h
   exact h)
  go_wp2_with (go_at_call 19; refine HCk.out.mono ?_; rintro q16 w16 ⟨rfl,hx16⟩)
  go_ret
  exact ⟨rfl,HB.out.2.2.trans ((HXp.out.trans HX9.out).trans hx16)⟩
 ·have e5:=cellq (HAb.out wq (Ext.refl _ _)) 5 rfl
  obtain ⟨cs,hcs1,hcs2,hcs3⟩:=(HLs.out wq HXq.out).1
  have hcn:cs.length=mna:=by rw [hcs1]; exact HNl.out.1
  have hc6:mna<=8:=by have h:=chk_lens HCh.out.1 HCh.out.2; have h2:=few_parts HFb.out; have h3:=HNl.out.1; have h4:=h.2; rw [h3] at h4; split at h4 <;> omega
  have hx1:=(Ext.refl (fun _=>False) wq).alloc (.cells #[] 31)
  have e5b:=cell_keep e5 hx1
  have HS1:=bH (bI (hcs2.keep hx1) (bI (ownsRow_empty (base:=wq.heap.size) 3 (Nat.le_refl _) (blk_alloc_at wq (.cells #[] 31))) hx1))
  have HCs:=bH (bI hcs1 hcs3)
  have HLl:=bH (show (cs++[(⟨false,none,0,0,none,0,0⟩:RatC)]).length=mna+1 from by rw [List.length_append,hcn]; rfl)
  clear hcs1 hcs2 hcs3 hx1
  go_upto_region 16 with (first | (at_builtin; refine wpList_append_new (f:=RatC.cells) rfl (.tmp 68) (.tmp 70) rfl (fun _=>rfl) cs (fun x _=>ratC_one x) Tryz.underlying32 Tryz.infoRat rfl (by decide) (by decide) wq.heap.size _ rfl HS1.out.2.1 moa mna mca rfl HS1.out.1 (by rw [hcn]; omega) HS1.out.2.2.size ?_; intro v5 w5 g1 g2 g3; have HS5:=bH (bI g1 (HS1.out.2.2.own g2 (fun k e=>(World.ownsRow.lt HS1.out.2.1 k e).1))); clear g1 g2 g3) | (at_builtin; have HS6:=bH (HS5.out.2.alloc (.cells #[.bool false,.slice none 0 0,.slice none 0 0] 31)); have HO6:=bH (ownsRow_ext HS5.out.1 ((Ext.refl (fun _=>False) w5).alloc (.cells #[.bool false,.slice none 0 0,.slice none 0 0] 31)) (fun _ _ e=>e)); refine wpList_append_el (f:=RatC.cells) (l:=cs) rfl (.tmp 71) (.tmp 73) rfl (fun _=>rfl) ⟨false,none,0,0,none,0,0⟩ (ratC_one _) Tryz.underlying32 Tryz.infoRat rfl (by decide) (by decide) wq.heap.size v5 rfl HO6.out ⟨w5.heap.size,0,none⟩ 1 rfl (alloc_src0 _ _ _) (by rw [hcn]; omega) (HS6.out.size) ?_; intro v7 w7 g1 g2 g3; have HS7:=bH (bI g1 (HS6.out.own g2 (fun k e=>(World.ownsRow.lt HO6.out k e).1))); have t4:=cellq (blk_keep HQ.out HS7.out.2) 5 rfl; have u4:=free_of_cells (blk_keep HQ.out HS7.out.2) 5; obtain ⟨ro7,rc7,e'⟩:=ownsRow_shape g1; rw [HLl.out] at e'; subst e'; clear g1 g2 g3))
  have HQ9:=bH (blk_setCell_same (blk_keep HQ.out HS7.out.2) 5 (.slice ro7 (mna+1) rc7))
  have HXs:=bH ((Ext.refl (fun j=>j=qb) w7).setCell (p:=⟨qb,5,none⟩) (.slice ro7 (mna+1) rc7) (fun _=>rfl))
  have HX9:=bH ((HXq.out.trans HS7.out.2).own HXs.out (fun j e=>by have e':j=qb:=e; have:=HQb.out; omega))
  have HR9:=bH (show CRats (w7.setCell ⟨qb,5,none⟩ (.slice ro7 (mna+1) rc7)) (.slice ro7 (mna+1) rc7) (oa.mu++[0]) 1200 from crats_snoc HCs.out.1 (ownsRow_ext HS7.out.1 HXs.out (fun g e e2=>by have:=(World.ownsRow.lt HS7.out.1 g e).1; have e':g=qb:=e2; have:=blk_lt HQ.out; omega)) (fun i c q hc hq=>⟨((HCs.out.2 i c q hc hq).1.keep HS7.out.2).past (fun u d hu=>hu.past HXs.out (fun j _ e=>by
   have e':j=qb:=e
   subst e'
   exact noDig_cells (blk_keep HQ.out HS7.out.2) (fun u hu d e=>by subst e; simp at hu))),(HCs.out.2 i c q hc hq).2⟩))
  clear t4 u4
  generalize w7.setCell ⟨qb,5,none⟩ (.slice ro7 (mna+1) rc7)=w9 at *
  have p0:=cellq (blk_keep HB.out.2.1 (HXp.out.trans HX9.out)) 0 rfl
  have p1:=cellq (blk_keep HB.out.2.1 (HXp.out.trans HX9.out)) 1 rfl
  have y0:=cellq (HQ9.out) 0 rfl
  have y1:=cellq (HQ9.out) 1 rfl
  have y2:=cellq (HQ9.out) 2 rfl
  have y3:=cellq (HQ9.out) 3 rfl
  have y4:=cellq (HQ9.out) 4 rfl
  have y5:=cellq (HQ9.out) 5 rfl
  have y6:=cellq (HQ9.out) 6 rfl
  have HCk:=bH (show Calls Tryz.prog 19 #[(.agg #[.slice vo vn vc,.slice ro rn rc]),.agg #[.int .i64 kda,.bool nga,.slice a1a m1a c1a,.slice a2a m2a c2a,.slice poa pna pca,.slice ro7 (mna+1) rc7,.slice zoa zna zca]] w9 (ErrPost w9 13) from by
   have h:=Check_any w9 (.agg #[.slice vo vn vc,.slice ro rn rc]) _ p { oa with mu:=oa.mu++[0] } 1200 12 (HB.out.1.keep (HXp.out.trans HX9.out)) ((HOu.out w9 HX9.out).withMu HR9.out.rats) (few_parts HFb.out).1
   rw [show checkE p { oa with mu:=oa.mu++[0] }=13 from check_no HVb.out (acc_mu HCh.out.1 HCh.out.2 0) HCh.out.2] at h
   exact h)
  go_wp2_with (go_at_call 19; refine HCk.out.mono ?_; rintro q16 w16 ⟨rfl,hx16⟩)
  go_ret
  exact ⟨rfl,HB.out.2.2.trans ((HXp.out.trans HX9.out).trans hx16)⟩
end Go.Proofs.YtbgienfcmdgaaaaGreat
