/-
  Texts of the proof, part 11. Conditions: each lemma names its own.
-/
import Derived.Test.YtbgienfcmdgaaaaGreatZ10
import Derived.Test.YtbgienfcmdgaaaaGreatZ5
import Derived.Test.YtbgienfcmdgaaaaGreatZ7
import Derived.Test.YtbgienfcmdgaaaaGreatZ9
import Derived.Maps.RangeWalk
set_option linter.unusedVariables false
set_option linter.unusedSimpArgs false
set_option maxRecDepth 100000
set_option maxHeartbeats 16000000
namespace Go.Proofs.YtbgienfcmdgaaaaGreat
open Go.RowKit Go.MapKept
open Go.ChangeMaps (setBlock)
section
variable {N:Nat} {T:TabF} {D:Tb}
theorem Rep.sum (h:Rep N T D) (F:Nat->Rat):sumTo T.n (fun j=>F (T.fr j))=sumTo N (fun t=>if D.B t then 0 else F t):=by
 rw [sumTo_congr (g:=fun j=>sumTo N (fun t=>if t=T.fr j then F (T.fr j) else 0)) (fun j hj=>by rw [sumTo_one,if_pos (h.fr j hj)]),sumTo_swap]
 refine sumTo_congr fun t ht=>?_
 cases hb:D.B t with
 | true =>
  rw [if_pos rfl]
  exact sumTo_zero' fun j hj=>if_neg fun e=>by rw [e,h.free j hj] at hb; cases hb
 | false =>
  rw [if_neg Bool.false_ne_true]
  obtain ⟨j0,h0,e0⟩:=h.frs t ht hb
  rw [sumTo_congr (g:=fun j=>if j=j0 then F t else 0) (fun j hj=>by
   by_cases e:j=j0
   ·rw [e,if_pos e0.symm,if_pos rfl,e0]
   ·rw [if_neg e,if_neg (fun e2=>e (h.fi j j0 hj h0 (by rw [e0,e2])))]),sumTo_one,if_pos h0]
theorem rayN_some {c i v:Nat}:∀ {m:Nat},i<m->T.ba i=v->(∀ j k,j<m->k<m->T.ba j=T.ba k->j=k)->rayN T c m v = -T.al i c
 | 0,h,_,_=>absurd h (Nat.not_lt_zero i)
 | m+1,h,hv,hu=>by
  unfold rayN
  by_cases e:i=m
  ·subst e; rw [if_pos hv]
  ·rw [if_neg (fun e2=>e (hu i m (by omega) (by omega) (hv.trans e2.symm)))]
   exact rayN_some (by omega) hv (fun j k hj hk=>hu j k (by omega) (by omega))
theorem rayN_none {c v:Nat}:∀ {m:Nat},(∀ i,i<m->T.ba i≠v)->rayN T c m v=if T.fr c=v then 1 else 0
 | 0,_=>rfl
 | m+1,h=>by
  unfold rayN
  rw [if_neg (h m (by omega))]
  exact rayN_none (fun i hi=>h i (by omega))
theorem Rep.ray (h:Rep N T D) {c:Nat} (hc:c<T.n) (v:Nat):rayN T c T.m v=extT N D 0 (oneAt (T.fr c)) v:=by
 cases hb:D.B v with
 | true =>
  obtain ⟨i,hi,rfl⟩:=h.bas v hb
  rw [rayN_some hi rfl h.bi,ext_basic hb,sum_oneAt _ (h.fr c hc) (h.free c hc),h.al i c hi hc]; grind
 | false =>
  rw [ext_free hb,rayN_none (fun i hi e=>by rw [<- e,h.ba i hi] at hb; cases hb)]
  unfold oneAt
  by_cases e:T.fr c=v
  ·rw [if_pos e,if_pos e.symm]
  ·rw [if_neg e,if_neg (Ne.symm e)]
theorem Rep.basic (h:Rep N T D):Sol N D 1 D.b:=by
 have h1:=ext_sol h.wf 1 (fun _=>0)
 have e:extT N D 1 (fun _=>0)=D.b:=funext fun t=>by
  cases hb:D.B t with
  | true=>rw [ext_basic hb,sum_none]; grind
  | false=>rw [ext_free hb,h.wf.rhs t hb]
 rwa [e] at h1
theorem Rep.bge (h:Rep N T D) (hb:∀ k,k<T.m->0<=T.be k) (v:Nat):0<=D.b v:=by
 cases hB:D.B v with
 | true =>
  obtain ⟨k,hk,rfl⟩:=h.bas v hB
  rw [h.be k hk]; exact hb k hk
 | false=>rw [h.wf.rhs v hB]; exact Rat.le_refl
theorem Rep.dge (h:Rep N T D) (hd:∀ j,j<T.n->0<=T.d j) {v:Nat} (hv:v<N):0<=D.d v:=by
 cases hB:D.B v with
 | true=>rw [h.wf.cost v hB]; exact Rat.le_refl
 | false =>
  obtain ⟨k,hk,rfl⟩:=h.frs v hv hB
  rw [h.d k hk]; exact hd k hk
end
section
variable {p:ProgV} {us ls:List LimV} {T T1 T2:TabF} {D:Tb} {o:OutV}
theorem multN_sum (f:Nat->Nat) (g:Nat->Rat) (r:Nat):∀ m:Nat,multN p us f g m r=sumTo m fun k=>multS p us (f k) (g k) r
 | 0=>rfl
 | m+1=>by
  show multN p us f g m r+_=sumTo m _+_
  rw [multN_sum f g r m]
theorem multS_zero (v r:Nat):multS p us v 0 r=0:=by
 unfold multS
 split
 ·rfl
 ·split
  ·split
   ·rfl
   ·grind
  ·rfl
theorem yW_sum (W:Nat->Rat) (r:Nat):yW p us W r=sumTo (p.vars.length+us.length) fun t=>multS p us t (W t) r:=by
 rw [sumTo_split,sumTo_zero' (f:=fun t=>multS p us t (W t) r) (fun t ht=>by unfold multS; rw [if_pos ht])]
 unfold yW
 rw [sumTo_congr (g:=fun j=>multS p us (p.vars.length+j) (W (p.vars.length+j)) r) (fun j hj=>by
  have e0:multS p us (p.vars.length+j) (W (p.vars.length+j)) r=if (us.getD j lim0).row=(r:Int) then (if (us.getD j lim0).tur then W (p.vars.length+j) else -W (p.vars.length+j)) else 0:=by
   unfold multS
   rw [if_neg (show ¬ p.vars.length+j<p.vars.length by omega),Nat.add_sub_cancel_left]
  rw [e0]
  by_cases e:(us.getD j lim0).row=(r:Int)
  ·rw [if_pos e,if_pos e]
   unfold limSg
   rw [if_neg (show ¬ (us.getD j lim0).row<0 by omega)]
   split
   ·show -(((-1:Int):Rat)*_)=_
    grind
   ·show -(((1:Int):Rat)*_)=_
    grind
  ·rw [if_neg e,if_neg e])]
 grind
theorem mult_opt (h:Rep (p.vars.length+us.length) T D) (r:Nat):multN p us T.fr T.d T.n r=yW p us D.d r:=by
 rw [multN_sum,yW_sum]
 refine Eq.trans (sumTo_congr (g:=fun j=>multS p us (T.fr j) (D.d (T.fr j)) r) (fun j hj=>by rw [h.d j hj])) ((h.sum (fun t=>multS p us t (D.d t) r)).trans ?_)
 refine sumTo_congr fun t _=>?_
 cases hb:D.B t with
 | true=>rw [if_pos rfl,h.wf.cost t hb,multS_zero]
 | false=>rw [if_neg Bool.false_ne_true]
theorem mult_inf (h:Rep (p.vars.length+us.length) T D) {i:Nat} (hi:i<T.m) (r:Nat):multN p us (infV T i) (infW T i) (T.n+1) r=yW p us (D.M (T.ba i)) r:=by
 rw [multN_sum,yW_sum]
 show sumTo T.n _+_=_
 have hb:=h.ba i hi
 have e0:sumTo T.n (fun k=>multS p us (infV T i k) (infW T i k) r)=_:=Eq.trans (sumTo_congr (g:=fun j=>multS p us (T.fr j) (D.M (T.ba i) (T.fr j)) r) (fun j hj=>by
  unfold infV infW
  rw [if_neg (show ¬ j=T.n by omega),if_neg (show ¬ j=T.n by omega),h.al i j hi hj])) (h.sum (fun t=>multS p us t (D.M (T.ba i) t) r))
 rw [e0]
 have e1:multS p us (infV T i T.n) (infW T i T.n) r=sumTo (p.vars.length+us.length) (fun t=>if t=T.ba i then multS p us (T.ba i) 1 r else 0):=by
  rw [sumTo_one,if_pos (h.wf.dom _ hb)]
  unfold infV infW
  rw [if_pos rfl,if_pos rfl]
 show _+multS p us (infV T i T.n) (infW T i T.n) r=_
 rw [e1,<- sumTo_add]
 refine sumTo_congr fun t _=>?_
 cases hbt:D.B t with
 | true =>
  rw [if_pos rfl,h.wf.unit _ _ hb hbt]
  by_cases e:t=T.ba i
  ·rw [if_pos e,if_pos e.symm,e]; grind
  ·rw [if_neg e,if_neg (Ne.symm e),multS_zero]; grind
 | false =>
  rw [if_neg Bool.false_ne_true,if_neg (fun e=>by rw [e,hb] at hbt; cases hbt)]; grind
theorem allOk_of (hg:Good p ls T us) (hok:∀ l ∈ ls,LimOk p l):AllOk p us:=fun j hj=>hok _ (hg.sub _ (by
 rw [List.getD_eq_getElem?_getD,List.getElem?_eq_getElem hj]
 exact List.getElem_mem hj))
theorem dual_its {N:Nat} (hr:Rep N T D):∀ (j:Nat) {T':TabF},itF (dstepF (goodF T)) j T=some T'->∃ D',DuSt N (goodF T) T D j T' D'
 | 0,T',h=>by
  obtain rfl:T=T':=Option.some.inj h
  exact ⟨D,DuSt.start hr fun e=>hasNeg_iff.1 (by unfold goodF at e; simpa using e)⟩
 | j+1,T',h=>by
  have h':(itF (dstepF (goodF T)) j T).bind (dstepF (goodF T))=some T':=h
  obtain ⟨Tj,h1,h2⟩:=Option.bind_eq_some_iff.1 h'
  obtain ⟨D',hd⟩:=dual_its hr j h1
  obtain ⟨i,h3,h4⟩:=Option.bind_eq_some_iff.1 h2
  obtain ⟨c,h5,h6⟩:=Option.bind_eq_some_iff.1 h4
  obtain ⟨_,_,_,hn⟩:=hd.next h3 h5
  obtain rfl:=Option.some.inj h6
  exact ⟨_,hn⟩
theorem prim_its {N:Nat} (hr:Rep N T D) (hb:∀ k,k<T.m->0<=T.be k):∀ (j:Nat) {T':TabF},itF pstepF j T=some T'->∃ D',PrSt N T D j T' D'
 | 0,T',h=>by
  obtain rfl:T=T':=Option.some.inj h
  exact ⟨D,PrSt.start hr hb⟩
 | j+1,T',h=>by
  have h':(itF pstepF j T).bind pstepF=some T':=h
  obtain ⟨Tj,h1,h2⟩:=Option.bind_eq_some_iff.1 h'
  obtain ⟨D',hd⟩:=prim_its hr hb j h1
  obtain ⟨c,h3,h4⟩:=Option.bind_eq_some_iff.1 h2
  obtain ⟨i,h5,h6⟩:=Option.bind_eq_some_iff.1 h4
  obtain ⟨_,_,_,hn⟩:=hd.next h3 h5
  obtain rfl:=Option.some.inj h6
  exact ⟨_,hn⟩
theorem Good.dual (hg:Good p ls T us) (hh:Halts (dstepF (goodF T)) T T1):Good p ls T1 us:=by
 obtain ⟨D,hr,he⟩:=hg.rep
 obtain ⟨⟨k,hk⟩,_⟩:=hh
 obtain ⟨D',hd⟩:=dual_its hr k hk
 exact ⟨⟨D',hd.rep,he.trans hd.short.2.1⟩,hg.nd,hg.sub⟩
theorem Good.prim (hg:Good p ls T us) (hb:∀ k,k<T.m->0<=T.be k) (hh:Halts pstepF T T1):Good p ls T1 us/\∀ k,k<T1.m->0<=T1.be k:=by
 obtain ⟨D,hr,he⟩:=hg.rep
 obtain ⟨⟨k,hk⟩,_⟩:=hh
 obtain ⟨D',hd⟩:=prim_its hr hb k hk
 refine ⟨⟨⟨D',hd.rep,he.trans hd.short.2.1⟩,hg.nd,hg.sub⟩,fun k hk=>?_⟩
 rw [<- hd.rep.be k hk]
 exact hd.short.2.2.2 _
theorem more_good {z:List Rat} {dir:Bool} (hv:validB p=true) (hok:∀ l ∈ ls,LimOk p l):∀ (l2:List LimV) (st:MoreV),(∀ l ∈ l2,l ∈ ls)->Good p ls st.T st.us->Good p ls (moreR p z dir l2 st).T (moreR p z dir l2 st).us
 | [],_,_,h=>h
 | l :: l2,st,hs,h=>by
  show Good p ls (moreR p z dir l2 (moreStep p z dir st l)).T (moreR p z dir l2 (moreStep p z dir st l)).us
  refine more_good hv hok l2 _ (fun x hx=>hs x (List.mem_cons_of_mem _ hx)) ?_
  unfold moreStep
  split
  ·rename_i hc
   have hm:memL st.us l=false:=by
    simp only [Bool.and_eq_true,Bool.not_eq_true'] at hc
    exact hc.1
   exact h.use hv (hok l (hs l (List.mem_cons_self ..))) (hs l (List.mem_cons_self ..)) hm
  ·exact h
theorem slack_use {c:Rat} {x:Nat->Rat} (hv:validB p=true) (hok:AllOk p us) (hx:Sol (p.vars.length+us.length) (baseT p us) c x) {j:Nat} (hj:j<us.length):c*limR p (us.getD j lim0) - sumTo p.vars.length (fun t=>limA p (us.getD j lim0) t*x t)=x (p.vars.length+j):=by
 have hb:(baseT p us).B (p.vars.length+j)=true:=by rw [base_B]; exact decide_eq_true (by omega)
 have h1:=hx _ hb
 rw [sumTo_split,base_b,if_pos (by omega),Nat.add_sub_cancel_left,sumTo_congr (n:=p.vars.length) (g:=fun t=>limA p (us.getD j lim0) t*x t) (fun t ht=>by
  rw [base_M,if_pos (by omega),if_pos ht,Nat.add_sub_cancel_left]),sumTo_congr (n:=us.length) (g:=fun k=>if k=j then x (p.vars.length+j) else 0) (fun k hk=>by
  rw [base_M,if_pos (by omega),if_neg (by omega)]
  by_cases e:k=j
  ·rw [if_pos (by omega),if_pos e,e]; grind
  ·rw [if_neg (by omega),if_neg e]; grind),sumTo_one,if_pos hj] at h1
 grind
theorem mem_getD {l:LimV} (h:l ∈ us):∃ j,j<us.length/\us.getD j lim0=l:=by
 obtain ⟨j,hj,e⟩:=List.getElem_of_mem h
 exact ⟨j,hj,by rw [List.getD_eq_getElem?_getD,List.getElem?_eq_getElem hj,e]; rfl⟩
theorem distF_eq (h:Rep (p.vars.length+us.length) T D):distF p T=listTo p.vars.length D.b:=by
 unfold distF
 rw [show distN T.ba T.be T.m=D.b from funext h.dist]
theorem ptF_eq (h:Rep (p.vars.length+us.length) T D):ptF p T=ptQ p D.b:=by
 unfold ptF ptQ
 rw [show distN T.ba T.be T.m=D.b from funext h.dist]
theorem feas_tab (hv:validB p=true) (hls:∀ l,LimOk p l->l ∈ ls) (hok:AllOk p us) (h:Rep (p.vars.length+us.length) T D) (he:Equ (p.vars.length+us.length) (baseT p us) D) (hb:∀ k,k<T.m->0<=T.be k) (hm:(moreR p (distF p T) false ls ⟨T,us,false⟩).b=false):feasB p (ptQ p D.b)=true/\∀ j,j<us.length->slackQ p (us.getD j lim0) (listTo p.vars.length D.b) false=D.b (p.vars.length+j):=by
 have hs:∀ j,j<us.length->slackQ p (us.getD j lim0) (listTo p.vars.length D.b) false=D.b (p.vars.length+j):=fun j hj=>by
  rw [slack_eq hv (hok j hj),if_neg Bool.false_ne_true]
  have:=slack_use hv hok ((he.sol 1 D.b).2 h.basic) hj
  rw [<- this]; grind
 refine ⟨feas_of hv _ (fun t _=>h.bge hb t) fun l hl=>?_,hs⟩
 by_cases hin:l ∈ us
 ·obtain ⟨j,hj,rfl⟩:=mem_getD hin
  rw [hs j hj]; exact h.bge hb _
 ·have:=(more_no hm).2.2 l (hls l hl) hin
  rwa [distF_eq h] at this
theorem yL_eq {f:Nat->Rat} {W:Nat->Rat} (h:∀ r,f r=yW p us W r):listTo p.rows.length f=yL p us W:=by
 unfold yL
 rw [show f=yW p us W from funext h]
theorem chk_inf (hv:validB p=true) (hok:∀ l ∈ ls,LimOk p l) (hg:Good p ls T us) (hh:Halts (dstepF (goodF T)) T T1) {i:Nat} (hI:dualI T1=some i):chkB p (outInf p us T1 i)=true:=by
 have ha:=allOk_of hg hok
 have hend:=hh.2
 obtain ⟨D,hr,he⟩:=(hg.dual hh).rep
 obtain ⟨hi,hbi⟩:=dualI_some hI
 have hC:dualC (goodF T) T1 i=none:=by
  unfold dstepF at hend
  rw [hI] at hend
  cases hc:dualC (goodF T) T1 i with
  | none=>rfl
  | some c=>rw [show ((some i).bind fun i=>(dualC (goodF T) T1 i).bind fun c=>some (pivF T1 i c))=(dualC (goodF T) T1 i).bind fun c=>some (pivF T1 i c) from rfl,hc] at hend; cases hend
 have hal:=dualC_none hC
 obtain ⟨g1,g2⟩:=base_weights (p:=p) (us:=us) (W:=D.M (T1.ba i)) (be:=D.b (T1.ba i)) (fun c x hx=>(he.sol c x).1 hx _ (hr.ba i hi))
 have hW:∀ t,t<p.vars.length+us.length->0<=D.M (T1.ba i) t:=fun t ht=>by
  cases hb:D.B t with
  | true =>
   rw [hr.wf.unit _ _ (hr.ba i hi) hb]
   split
   ·show (0:Rat)<=1
    decide
   ·exact Rat.le_refl
  | false =>
   obtain ⟨j,hj,rfl⟩:=hr.frs t ht hb
   rw [hr.al i j hi hj]; exact hal j hj
 have hinf:=cert_inf hv ha hW g1 (by
  show sumTo us.length (fun j=>D.M (T1.ba i) (p.vars.length+j)*limR p (us.getD j lim0))<0
  rw [<- g2,hr.be i hi]; exact hbi)
 unfold chkB outInf
 rw [yL_eq (mult_inf hr hi)]
 show chk2 p _=true
 unfold chk2
 rw [hinf]
 simp [yL,listTo_length]
theorem chk_opt (hv:validB p=true) (hls:∀ l,LimOk p l->l ∈ ls) (hok:∀ l ∈ ls,LimOk p l) (hg:Good p ls T2 us) (hb:∀ k,k<T2.m->0<=T2.be k) (hm:(moreR p (distF p T2) false ls ⟨T2,us,false⟩).b=false) (hC:primC T2=none):chkB p (outOpt p us T2)=true:=by
 have ha:=allOk_of hg hok
 obtain ⟨D,hr,he⟩:=hg.rep
 obtain ⟨hf,hs⟩:=feas_tab hv hls ha hr he hb hm
 have hd:∀ t,t<p.vars.length+us.length->0<=D.d t:=fun t ht=>hr.dge (primC_none hC) ht
 obtain ⟨g1,-⟩:=base_weights (p:=p) (us:=us) (W:=fun t=>D.d t - (baseT p us).d t) (be:=-D.z) (fun c x hx=>by
  have h1:=he.obj c x hx
  unfold objT at h1
  rw [show (baseT p us).z=0 from rfl] at h1
  rw [sumTo_congr (g:=fun t=>D.d t*x t - (baseT p us).d t*x t) (fun t _=>by grind),sumTo_sub]
  grind)
 have hcost:∀ t,D.d t*D.b t=0:=fun t=>by
  cases hB:D.B t with
  | true=>rw [hr.wf.cost t hB]; grind
  | false=>rw [hr.wf.rhs t hB]; grind
 have hopt:=cert_opt (W:=D.d) hv ha D.b hf hd (fun t ht=>by
  have:=g1 t ht
  rw [base_d,if_pos ht] at this
  rw [this]
  unfold gW
  exact sumTo_congr fun j hj=>by rw [base_d,if_neg (by omega)]; grind) (fun t _=>hcost t) (fun j hj=>by rw [hs j hj]; exact hcost _)
 unfold chkB outOpt
 rw [yL_eq (mult_opt hr),ptF_eq hr]
 show chk1 p _=true
 unfold chk1
 rw [hopt]
 simp [yL,ptQ,listTo_length]
theorem chk_unb (hv:validB p=true) (hls:∀ l,LimOk p l->l ∈ ls) (hok:∀ l ∈ ls,LimOk p l) (hg:Good p ls T2 us) (hb:∀ k,k<T2.m->0<=T2.be k) (hend:pstepF T2=none) (hm:(moreR p (distF p T2) false ls ⟨T2,us,false⟩).b=false) {c:Nat} (hC:primC T2=some c) (hm2:(moreR p (rayF p T2 c) true ls ⟨T2,us,false⟩).b=false):chkB p (outUnb p T2 c)=true:=by
 have ha:=allOk_of hg hok
 obtain ⟨D,hr,he⟩:=hg.rep
 obtain ⟨hf,-⟩:=feas_tab hv hls ha hr he hb hm
 obtain ⟨hc,hdc⟩:=primC_some hC
 have hI:primI T2 c=none:=by
  unfold pstepF at hend
  rw [hC] at hend
  cases hc:primI T2 c with
  | none=>rfl
  | some i=>rw [show ((some c).bind fun c=>(primI T2 c).bind fun i=>some (pivF T2 i c))=(primI T2 c).bind fun i=>some (pivF T2 i c) from rfl,hc] at hend; cases hend
 have hal:=primI_none hI
 have hrf:rayF p T2 c=listTo p.vars.length (extT (p.vars.length+us.length) D 0 (oneAt (T2.fr c))):=by
  unfold rayF
  rw [show rayN T2 c T2.m=extT (p.vars.length+us.length) D 0 (oneAt (T2.fr c)) from funext (hr.ray hc)]
 have hr0:∀ v,0<=extT (p.vars.length+us.length) D 0 (oneAt (T2.fr c)) v:=fun v=>by
  cases hB:D.B v with
  | true =>
   obtain ⟨k,hk,rfl⟩:=hr.bas v hB
   rw [ext_basic hB,sum_oneAt _ (hr.fr c hc) (hr.free c hc),hr.al k c hk hc]
   have:=hal k hk
   grind
  | false =>
   rw [ext_free hB]
   unfold oneAt
   split
   ·show (0:Rat)<=1
    decide
   ·exact Rat.le_refl
 have hsol:=ext_sol hr.wf 0 (oneAt (T2.fr c))
 have hsl:∀ l,LimOk p l->0<=slackQ p l (listTo p.vars.length (extT (p.vars.length+us.length) D 0 (oneAt (T2.fr c)))) true:=fun l hl=>by
  by_cases hin:l ∈ us
  ·obtain ⟨j,hj,rfl⟩:=mem_getD hin
   rw [slack_eq hv (ha j hj),if_pos rfl]
   have:=slack_use hv ha ((he.sol 0 _).2 hsol) hj
   have h2:=hr0 (p.vars.length+j)
   rw [<- this] at h2
   grind
  ·have:=(more_no hm2).2.2 l (hls l hl) hin
   rwa [hrf] at this
 obtain ⟨k1,k2⟩:=ray_of hv _ (fun t _=>hr0 t) hsl
 have hcost:costQ p (rayF p T2 c)<0:=by
  have h1:=he.obj 0 _ ((he.sol 0 _).2 hsol)
  rw [obj_free hr.wf] at h1
  unfold objT at h1
  rw [sumTo_split,sumTo_zero' (f:=fun j=>(baseT p us).d (p.vars.length+j)*_) (fun j _=>by rw [base_d,if_neg (by omega)]; grind),sumTo_congr (g:=fun t=>((p.v t).co:Rat)*extT (p.vars.length+us.length) D 0 (oneAt (T2.fr c)) t) (fun t ht=>by rw [base_d,if_pos ht]),sumTo_congr (n:=p.vars.length+us.length) (g:=fun u=>if D.B u then 0 else D.d u*oneAt (T2.fr c) u) (fun u _=>by
   cases hB:D.B u with
   | true=>rfl
   | false=>rw [if_neg Bool.false_ne_true,if_neg Bool.false_ne_true,ext_free hB]),sum_oneAt _ (hr.fr c hc) (hr.free c hc),hr.d c hc] at h1
  have e:costQ p (rayF p T2 c)=sumTo p.vars.length (fun t=>((p.v t).co:Rat)*extT (p.vars.length+us.length) D 0 (oneAt (T2.fr c)) t):=by
   rw [hrf]
   exact sumTo_congr fun t ht=>by rw [atQ_listTo _ ht]
  rw [e]
  grind
 have hunb:unbB p (ptF p T2) (rayF p T2 c)=true:=by
  unfold unbB
  rw [ptF_eq hr,hf,decide_eq_true hcost,hrf,k1,k2]; rfl
 unfold chkB outUnb
 show chk3 p _=true
 unfold chk3
 rw [hunb]
 simp [ptF,rayF,listTo_length]
theorem SolveR.chk (hv:validB p=true) (hls:∀ l,LimOk p l->l ∈ ls) (hok:∀ l ∈ ls,LimOk p l) (h:SolveR p ls T us o):Good p ls T us->chkB p o=true/\0<=o.kind/\o.kind<=2:=by
 induction h with
 | inf h1 h2=>exact fun hg=>⟨chk_inf hv hok hg h1 h2,by show (0:Int)<=1; decide,by show (1:Int)<=2; decide⟩
 | go1 h1 h2 h3 h4 _ ih =>
  intro hg
  subst h3
  exact ih (more_good hv hok ls _ (fun _ k=>k) (hg.dual h1))
 | go2 h1 h2 h3 h4 h5 h6 _ ih =>
  intro hg
  subst h5
  exact ih (more_good hv hok ls _ (fun _ k=>k) ((hg.dual h1).prim (dualI_none h2) h4).1)
 | opt h1 h2 h3 h4 h5 h6 =>
  intro hg
  obtain ⟨g1,g2⟩:=(hg.dual h1).prim (dualI_none h2) h4
  exact ⟨chk_opt hv hls hok g1 g2 h5 h6,by show (0:Int)<=0; decide,by show (0:Int)<=2; decide⟩
 | go3 h1 h2 h3 h4 h5 h6 h7 h8 _ ih =>
  intro hg
  subst h7
  exact ih (more_good hv hok ls _ (fun _ k=>k) ((hg.dual h1).prim (dualI_none h2) h4).1)
 | unb h1 h2 h3 h4 h5 h6 h7 =>
  intro hg
  obtain ⟨g1,g2⟩:=(hg.dual h1).prim (dualI_none h2) h4
  exact ⟨chk_unb hv hls hok g1 g2 h4.2 h5 h6 h7,by show (0:Int)<=2; decide,by show (2:Int)<=2; decide⟩
end
open Go.RowKit Go.MapKept Go.Lib
theorem vars_empty (w:World) (ao:Option Addr) (c:Nat) (fv:Value):Calls Tryz.prog 83 #[.slice ao 0 c,fv] w fun r w'=>r=.returned (.bool false)/\w'=w:=by
 have h:∀ W,Calls Tryz.prog 134 #[.slice ao 0 c,fv] W fun r w'=>r=.returned (.int .i64 (-1))/\w'=W:=fun W=>by
  go_enter Tryz.func134,Tryz.ntmps134
  go_wp2_with fail
  go_loopg [8] 0 (fun gg s8 wr=>s8=.int .i64 0/\wr=W)
  case atStart=>exact ⟨rfl,rfl⟩
  case round =>
   obtain ⟨rfl,rfl⟩:=hrel
   go_wp2
   go_ret
   exact ⟨rfl,rfl⟩
 have H:=bH h
 clear h
 go_enter Tryz.func83,Tryz.ntmps83
 go_wp2_with (go_at_call 134; refine (H.out _).mono ?_; rintro e w' ⟨rfl,rfl⟩)
 go_ret
 exact ⟨rfl,rfl⟩
theorem solve1_any (w:World) (v:VarV):Calls Tryz.prog 84 #[.agg (cV v).toArray] w (BoolPost w (!v.op && decide (v.up<v.lo))):=by
 obtain ⟨lo,up,op,ig,co⟩:=v
 show Calls Tryz.prog 84 #[.agg #[.int .i64 lo,.int .i64 up,.bool op,.bool ig,.int .i64 co]] w (BoolPost w (!op && decide (up<lo)))
 have hx:=(Ext.refl (fun _=>False) w).alloc (.cells #[.int .i64 lo,.int .i64 up,.bool op,.bool ig,.int .i64 co] 63)
 have HX:=bH hx
 clear hx
 cases op with
 | true =>
  go_enter Tryz.func84,Tryz.ntmps84
  go_wp2
  go_ret
  exact ⟨rfl,HX.out⟩
 | false =>
  go_enter Tryz.func84,Tryz.ntmps84
  go_wp2
  go_ret
  exact ⟨rfl,HX.out⟩
theorem empties_any (w:World) (vv:Value) (p:ProgV) (hv:Vrs w vv p.vars):Calls Tryz.prog 83 #[vv,.func (.func 84) #[] #[]] w (BoolPost w (emptyB p)):=by
 obtain ⟨vo,vc,rfl,-,hn,-⟩:=hv.shape
 by_cases h0:p.vars.length=0
 ·rw [h0]
  refine (vars_empty w vo vc _).mono ?_
  rintro r w' ⟨rfl,rfl⟩
  refine ⟨ret_bool ?_,Ext.refl _ _⟩
  unfold emptyB
  rw [h0]; rfl
 obtain ⟨b,off,e1,hlt,-⟩:=hv.atp 0 (by omega)
 have hc:∀ j,j<p.vars.length->∀ i u,(cV (p.v j))[i]?=some u->w.cell? ⟨b,off+j*5+i,none⟩=some u:=fun j hj i u hi=>by
  obtain ⟨b',off',e',_,c0,c1,c2,c3,c4,_⟩:=hv.atp j hj
  rw [e1] at e'
  cases e'
  match i,hi with
  | 0,hi=>cases hi; exact c0
  | 1,hi=>cases hi; exact c1
  | 2,hi=>cases hi; exact c2
  | 3,hi=>cases hi; exact c3
  | 4,hi=>cases hi; exact c4
  | i+5,hi=>cases hi
 subst e1
 have hq:=AnyQ.slices_ContainsFunc Tryz.laysVar8 5 Tryz.isAgg63 Tryz.sizeOf63 (fun j=>cV (p.v j)) (fun _=>rfl) (fun j=>!(p.v j).op && decide ((p.v j).up<(p.v j).lo)) 84 #[] (enters_of Tryz.func84 (by kernel_rfl) rfl) b off p.vars.length vc (List.range p.vars.length) w
  (fun W j hW=>by
   have hxx:=Below.ext hW
   refine (solve1_any W _).mono ?_
   rintro e w' ⟨rfl,hx'⟩
   exact ⟨rfl,(hxx.trans hx').below⟩)
  (by simp) hn hlt (fun j hj i u hi=>by
   rw [List.length_range] at hj
   rw [getElem!_pos _ j (by simpa using hj),List.getElem_range] at hi
   exact hc j hj i u hi)
 refine hq.mono ?_
 rintro r w' ⟨rfl,hb⟩
 refine ⟨ret_bool ?_,Below.ext hb⟩
 have ht:List.take p.vars.length (List.range p.vars.length)=List.range p.vars.length:=by rw [List.take_of_length_le (by simp)]
 rw [ht]
 unfold emptyB
 rw [Bool.eq_iff_iff,List.any_eq_true,Bool.not_eq_true',<- Bool.not_eq_true,allTo_iff]
 constructor
 ·rintro ⟨j,hj,h⟩ hall
  have:=hall j (List.mem_range.1 hj)
  simp only [Bool.and_eq_true,Bool.not_eq_true',decide_eq_true_eq] at h
  rw [h.1] at this
  simp at this
  omega
 ·intro h
  refine Classical.byContradiction fun hno=>h fun j hj=>?_
  refine Classical.byContradiction fun hj2=>hno ⟨j,List.mem_range.2 hj,?_⟩
  cases ho:(p.v j).op with
  | true=>rw [ho] at hj2; simp at hj2
  | false =>
   rw [ho] at hj2
   simp at hj2 ⊢
   omega
theorem start_good (p:ProgV):Good p (limsL p) (startF p) []:=by
 refine ⟨⟨baseT p [],⟨base_wf p [],fun j hj=>hj,fun i hi=>absurd hi (Nat.not_lt_zero i),fun j hj=>?_,fun v hv=>?_,fun v hv _=>⟨v,hv,rfl⟩,fun i k hi=>absurd hi (Nat.not_lt_zero i),fun j k _ _ e=>e,fun i j hi=>absurd hi (Nat.not_lt_zero i),fun i hi=>absurd hi (Nat.not_lt_zero i),fun j hj=>?_⟩,Equ.refl _ _⟩,List.nodup_nil,fun l hl=>by cases hl⟩
 ·rw [base_B]
  have hj':j<p.vars.length:=hj
  show decide (p.vars.length<=j/\_)=false
  exact decide_eq_false (by omega)
 ·rw [base_B] at hv
  have:=of_decide_eq_true hv
  simp at this
  omega
 ·have hj':j<p.vars.length:=hj
  rw [base_d]
  show (if j<p.vars.length then _ else _)=coF p j
  rw [if_pos hj']; rfl
def outNone:OutV:=⟨0,0,[],[],[]⟩
def outEmpty (p:ProgV):OutV:=⟨1,0,[],listTo p.rows.length (fun _=>0),[]⟩
inductive SolveV (p:ProgV):OutV->Int->Prop
 | bad:validB p=false->SolveV p outNone 1
 | empty:validB p=true->emptyB p=true->SolveV p (outEmpty p) 0
 | run {o:OutV}:validB p=true->emptyB p=false->SolveR p (limsL p) (startF p) [] o->SolveV p o 0
theorem SolveV.uniq {p:ProgV} {o o':OutV} {e e':Int} (h:SolveV p o e) (h':SolveV p o' e'):o=o'/\e=e':=by
 cases h with
 | bad h1 =>
  cases h' with
  | bad=>exact ⟨rfl,rfl⟩
  | empty k1=>rw [h1] at k1; cases k1
  | run k1=>rw [h1] at k1; cases k1
 | empty h1 h2 =>
  cases h' with
  | bad k1=>rw [h1] at k1; cases k1
  | empty=>exact ⟨rfl,rfl⟩
  | run k1 k2=>rw [h2] at k2; cases k2
 | run h1 h2 h3 =>
  cases h' with
  | bad k1=>rw [h1] at k1; cases k1
  | empty k1 k2=>rw [h2] at k2; cases k2
  | run k1 k2 k3=>exact ⟨h3.uniq k3,rfl⟩
def SolvePost (w0:World) (p:ProgV) (L:Nat) (r:Ending) (w':World):Prop:=∃ v o e,r=.returned (.tuple #[v,.int .i64 e])/\SolveV p o e/\OutFar w0 w' v o L/\XF w0 w'
theorem Solve_any (w:World) (pv:Value) (p:ProgV) (s L:Nat) (hp:IsPrg w pv p) (hB:validB p=true->BndAll p (limsL p) s) (h2s:2<=s) (hs:s<=200000) (hn:p.vars.length<=400) (hls:2*p.rows.length+p.vars.length<1000)
  (hT:(p.vars.length+1)*(s+8)+s+20<=2000000) (hL1:1+(p.vars.length+1)*(s+1)<=L) (hL2:s+3<=L) (hL3:1+p.vars.length*(s+6)<=L) :
  Calls Tryz.prog 37 #[pv] w (SolvePost w p L):=by
 have HP:=bH hp
 obtain ⟨vv,rv,rfl,hvars,hrows⟩:=hp
 obtain ⟨vo,vc,rfl,-,-,-⟩:=hvars.shape
 obtain ⟨ro,rc,rfl,-,-,-⟩:=hrows.shape
 have HN:=bH (bI hB (bI hn (bI hls (bI hT (bI hL1 (bI hL2 hL3))))))
 have HV:=bH (fun W (hW:XF w W)=>Valid_any W _ p (HP.out.keep hW))
 have HE:=bH (fun W (hW:XF w W)=>empties_any W _ p (hvars.keep hW))
 have hrl:p.rows.length<=1000000:=by omega
 clear hvars hrows hB hn hls hT hL1 hL2 hL3
 obtain ⟨n,hn'⟩:∃ n,p.vars.length=n:=⟨_,rfl⟩
 rw [hn'] at HV HE HP ⊢
 obtain ⟨m,hm'⟩:∃ m,p.rows.length=m:=⟨_,rfl⟩
 rw [hm'] at HV HP hrl ⊢
 have HNm:=bH (bI hn' hm')
 clear hn' hm'
 have hx0:=(Ext.refl (fun _=>False) w).alloc (.cells #[.slice vo n vc,.slice ro m rc] 25)
 have hx1:=hx0.alloc (.cells #[.int .i64 0,.bool false,.slice none 0 0,.slice none 0 0,.slice none 0 0,.slice none 0 0,.slice none 0 0] 34)
 have hpb:blk ((w.alloc (.cells #[.slice vo n vc,.slice ro m rc] 25)).alloc (.cells #[.int .i64 0,.bool false,.slice none 0 0,.slice none 0 0,.slice none 0 0,.slice none 0 0,.slice none 0 0] 34)) w.heap.size=some (.cells #[.slice vo n vc,.slice ro m rc] 25 (0,0)):=blk_keep (blk_alloc_at _ _) ((Ext.refl (fun _=>False) _).alloc _)
 have hob:blk ((w.alloc (.cells #[.slice vo n vc,.slice ro m rc] 25)).alloc (.cells #[.int .i64 0,.bool false,.slice none 0 0,.slice none 0 0,.slice none 0 0,.slice none 0 0,.slice none 0 0] 34)) (w.heap.size+1)=some (.cells #[.int .i64 0,.bool false,.slice none 0 0,.slice none 0 0,.slice none 0 0,.slice none 0 0,.slice none 0 0] 34 (0,0)):=by
  have:=blk_alloc_at (w.alloc (.cells #[.slice vo n vc,.slice ro m rc] 25)) (.cells #[.int .i64 0,.bool false,.slice none 0 0,.slice none 0 0,.slice none 0 0,.slice none 0 0,.slice none 0 0] 34)
  simpa using this
 have HB:=bH (bI hx1 (bI hpb hob))
 clear hx0 hx1 hpb hob
 go_enter Tryz.func37,Tryz.ntmps37
 go_upto_region 1 with fail
 generalize (w.alloc (.cells #[.slice vo n vc,.slice ro m rc] 25)).alloc (.cells #[.int .i64 0,.bool false,.slice none 0 0,.slice none 0 0,.slice none 0 0,.slice none 0 0,.slice none 0 0] 34)=w1 at *
 obtain ⟨ob,hobe⟩:∃ ob,w.heap.size+1=ob:=⟨_,rfl⟩
 have HOl:=bH (show ∀ k,k=ob->w.heap.size<=k by omega)
 rw [hobe] at HB ⊢
 clear hobe
 obtain ⟨pb,hpbe⟩:∃ pb,w.heap.size=pb:=⟨_,rfl⟩
 rw [hpbe] at HB ⊢
 clear hpbe
 have p0:w1.cell? ⟨pb,0,none⟩=some (.slice vo n vc):=cellq HB.out.2.1 0 rfl
 have p1:w1.cell? ⟨pb,1,none⟩=some (.slice ro m rc):=cellq HB.out.2.1 1 rfl
 have hL:1<=L:=by have:=HN.out.2.2.2.2.1; omega
 have HLL:=bH hL
 clear hL
 obtain ⟨vb,hvb⟩:∃ vb,validB p=vb:=⟨_,rfl⟩
 rw [hvb] at HV
 have HVb:=bH hvb
 clear hvb
 cases vb with
 | false =>
  go_wp2_with (go_at_call 57; refine (HV.out _ HB.out.1).mono ?_; rintro r2 w2 ⟨rfl,hx2⟩; have hbo:=blk_keep HB.out.2.2 hx2; have t0:=cellq hbo 0 rfl; have t1:=cellq hbo 1 rfl; have t2:=cellq hbo 2 rfl; have t3:=cellq hbo 3 rfl; have t4:=cellq hbo 4 rfl; have t5:=cellq hbo 5 rfl; have t6:=cellq hbo 6 rfl; have f0:=free_of_cells hbo 0; have f1:=free_of_cells hbo 1; have f2:=free_of_cells hbo 2; have f3:=free_of_cells hbo 3; have f4:=free_of_cells hbo 4; have f5:=free_of_cells hbo 5; have f6:=free_of_cells hbo 6)
  have HPo:=bH (outBox_put (w:=w2) hbo (.int .i64 0) (.bool false) (.slice none 0 0) (.slice none 0 0) (.slice none 0 0) (.slice none 0 0) (.slice none 0 0))
  have HF:=bH (show SolvePost w p L (.returned (.tuple #[.agg #[.int .i64 0,.bool false,.slice none 0 0,.slice none 0 0,.slice none 0 0,.slice none 0 0,.slice none 0 0],.int .i64 1])) _ from ⟨_,outNone,1,rfl,.bad HVb.out,fun S W hX hS hR=>⟨false,none,0,0,none,0,0,_,_,_,rfl,⟨IsRat.zero _,Sz.zero.mono HLL.out⟩,CRats.nil _ _,CRats.nil _ _,CRats.nil _ _,(show InR (0:Int) from ⟨by decide,by decide⟩)⟩,(HB.out.1.trans hx2).own HPo.out.2 HOl.out⟩)
  clear t0 f0 t1 f1 t2 f2 t3 f3 t4 f4 t5 f5 t6 f6 hbo
  generalize ((((((w2.setCell ⟨ob,0,none⟩ (.int .i64 0)).setCell ⟨ob,1,none⟩ (.bool false)).setCell ⟨ob,2,none⟩ (.slice none 0 0)).setCell ⟨ob,3,none⟩ (.slice none 0 0)).setCell ⟨ob,4,none⟩ (.slice none 0 0)).setCell ⟨ob,5,none⟩ (.slice none 0 0)).setCell ⟨ob,6,none⟩ (.slice none 0 0)=w17 at *
  have g0:=cellq HPo.out.1 0 rfl
  have g1:=cellq HPo.out.1 1 rfl
  have g2:=cellq HPo.out.1 2 rfl
  have g3:=cellq HPo.out.1 3 rfl
  have g4:=cellq HPo.out.1 4 rfl
  have g5:=cellq HPo.out.1 5 rfl
  have g6:=cellq HPo.out.1 6 rfl
  exact bodyPost_ret (v:=.tuple #[.agg #[.int .i64 0,.bool false,.slice none 0 0,.slice none 0 0,.slice none 0 0,.slice none 0 0,.slice none 0 0],.int .i64 1]) (by simp [results,Tryz.results37,go_sem,g0,g1,g2,g3,g4,g5,g6]) rfl HF.out
 | true =>
  go_upto_region 3 with (go_at_call 57; refine (HV.out _ HB.out.1).mono ?_; rintro r2 w2 ⟨rfl,hx2⟩; replace p0:=cell_keep p0 hx2; replace p1:=cell_keep p1 hx2)
  have HX2:=bH hx2
  clear hx2
  obtain ⟨eb,heb⟩:∃ eb,emptyB p=eb:=⟨_,rfl⟩
  rw [heb] at HE
  have HEb:=bH heb
  clear heb
  cases eb with
  | true =>
   go_wp2_with (go_at_call 83; refine (HE.out _ (HB.out.1.trans HX2.out)).mono ?_; rintro r3 w3 ⟨rfl,hx3⟩; obtain ⟨w4,hmk,hA,hx4⟩:=run_make_rats w3 m hrl; replace p1:=cell_keep p1 hx3; have hbo:=blk_keep (blk_keep (blk_keep HB.out.2.2 HX2.out) hx3) hx4; have t0:=cellq hbo 0 rfl; have t1:=cellq hbo 1 rfl; have t2:=cellq hbo 2 rfl; have t3:=cellq hbo 3 rfl; have t4:=cellq hbo 4 rfl; have t5:=cellq hbo 5 rfl; have t6:=cellq hbo 6 rfl; have f0:=free_of_cells hbo 0; have f1:=free_of_cells hbo 1; have f2:=free_of_cells hbo 2; have f3:=free_of_cells hbo 3; have f4:=free_of_cells hbo 4; have f5:=free_of_cells hbo 5; have f6:=free_of_cells hbo 6)
   have HPo:=bH (outBox_put (w:=w4) hbo (.int .i64 1) (.bool false) (.slice none 0 0) (.slice none 0 0) (.slice none 0 0) (.slice (some ⟨w3.heap.size,0,none⟩) m m) (.slice none 0 0))
   have HF:=bH (show SolvePost w p L (.returned (.tuple #[.agg #[.int .i64 1,.bool false,.slice none 0 0,.slice none 0 0,.slice none 0 0,.slice (some ⟨w3.heap.size,0,none⟩) m m,.slice none 0 0],.int .i64 0])) _ from ⟨_,outEmpty p,0,rfl,.empty HVb.out HEb.out,fun S W hX hS hR=>⟨false,none,0,0,none,0,0,_,_,_,rfl,⟨IsRat.zero _,Sz.zero.mono HLL.out⟩,CRats.nil _ _,(by have h9:=((ob_past hbo HPo.out.2 hA).far (((HB.out.1.trans HX2.out).trans hx3).size) hX hS hR).crats (L:=L) (fun _ _=>Sz.zero.mono HLL.out) (by unfold maxLen; omega); rw [show m=p.rows.length from HNm.out.2.symm] at h9; rw [show m=p.rows.length from HNm.out.2.symm]; exact h9),CRats.nil _ _,(show InR (1:Int) from ⟨by decide,by decide⟩)⟩,(((HB.out.1.trans HX2.out).trans hx3).trans hx4).own HPo.out.2 HOl.out⟩)
   clear t0 f0 t1 f1 t2 f2 t3 f3 t4 f4 t5 f5 t6 f6 hbo
   generalize ((((((w4.setCell ⟨ob,0,none⟩ (.int .i64 1)).setCell ⟨ob,1,none⟩ (.bool false)).setCell ⟨ob,2,none⟩ (.slice none 0 0)).setCell ⟨ob,3,none⟩ (.slice none 0 0)).setCell ⟨ob,4,none⟩ (.slice none 0 0)).setCell ⟨ob,5,none⟩ (.slice (some ⟨w3.heap.size,0,none⟩) m m)).setCell ⟨ob,6,none⟩ (.slice none 0 0)=w17 at *
   have g0:=cellq HPo.out.1 0 rfl
   have g1:=cellq HPo.out.1 1 rfl
   have g2:=cellq HPo.out.1 2 rfl
   have g3:=cellq HPo.out.1 3 rfl
   have g4:=cellq HPo.out.1 4 rfl
   have g5:=cellq HPo.out.1 5 rfl
   have g6:=cellq HPo.out.1 6 rfl
   exact bodyPost_ret (v:=.tuple #[.agg #[.int .i64 1,.bool false,.slice none 0 0,.slice none 0 0,.slice none 0 0,.slice (some ⟨w3.heap.size,0,none⟩) m m,.slice none 0 0],.int .i64 0]) (by simp [results,Tryz.results37,go_sem,g0,g1,g2,g3,g4,g5,g6]) rfl HF.out
  | false =>
   go_upto_region 5 with (go_at_call 83; refine (HE.out _ (HB.out.1.trans HX2.out)).mono ?_; rintro r3 w3 ⟨rfl,hx3⟩; replace p0:=cell_keep p0 hx3; replace p1:=cell_keep p1 hx3)
   have HX3:=bH ((HB.out.1.trans HX2.out).trans hx3)
   have HOb:=bH (blk_keep (blk_keep HB.out.2.2 HX2.out) hx3)
   clear hx3
   have HSt:=bH (start_any w3 _ p (HP.out.keep HX3.out) HVb.out (by have:=HN.out.2.1; omega) (by have:=HN.out.2.2.1; omega))
   have hT:∀ l ∈ limsL p,(limTs p l).length*(s+8)+s+20<=2000000:=fun l hl=>by
    have h1:=(lim_terms HVb.out (limsL_iff.1 hl)).1
    have h2:=Nat.mul_le_mul_right (s+8) h1
    have h3:=HN.out.2.2.2.1
    rw [Nat.add_mul] at h3
    omega
   have HTT:=bH hT
   clear hT
   go_wp2_with ((first | (go_at_call 85; refine HSt.out.mono ?_; rintro r4 w4 ⟨tb,V,rfl,hst⟩) | (go_at_call 86; refine (solve_any w3 w4 tb s L V (startF p) p [] (limsL p) hst (start_good p) (HN.out.1 HVb.out) h2s hs (fun l hl=>limsL_iff.1 hl) (Nat.lt_of_le_of_lt limsL_len HN.out.2.2.1) HTT.out (by have:=HN.out.2.2.1; omega) HN.out.2.2.2.2.1 HN.out.2.2.2.2.2.1 HN.out.2.2.2.2.2.2 (by have h3:=HN.out.2.2.2.1; have h4:=Nat.mul_le_mul_left (p.vars.length+1) (show s+6<=s+8 by omega); omega)).mono ?_; rintro r5 w5 ⟨v5,o,rfl,hso,hfar,hx5⟩; obtain ⟨ng,a1,m1,c1,a2,m2,c2,pv5,mv5,rv5,e5,ho1,ho2,ho3,ho4,ho5⟩:=hfar.now; obtain ⟨po,pc,rfl,-,-,-⟩:=ho2.shape; obtain ⟨mo,mc,rfl,-,-,-⟩:=ho3.shape; obtain ⟨ro2,rc2,rfl,-,-,-⟩:=ho4.shape; subst e5; have HO:=bH (bI hso hfar); clear hso hfar ho1 ho2 ho3 ho4 ho5 hst; generalize o.kind=kd at *; generalize o.pt.length=pn at *; generalize o.mu.length=mn at *; generalize o.ray.length=rn at *; have hbo:=blk_keep HOb.out hx5; have t0:=cellq hbo 0 rfl; have t1:=cellq hbo 1 rfl; have t2:=cellq hbo 2 rfl; have t3:=cellq hbo 3 rfl; have t4:=cellq hbo 4 rfl; have t5:=cellq hbo 5 rfl; have t6:=cellq hbo 6 rfl; have f0:=free_of_cells hbo 0; have f1:=free_of_cells hbo 1; have f2:=free_of_cells hbo 2; have f3:=free_of_cells hbo 3; have f4:=free_of_cells hbo 4; have f5:=free_of_cells hbo 5; have f6:=free_of_cells hbo 6)))
   have HPo:=bH (outBox_put (w:=w5) hbo (.int .i64 kd) (.bool ng) (.slice a1 m1 c1) (.slice a2 m2 c2) (.slice po pn pc) (.slice mo mn mc) (.slice ro2 rn rc2))
   have HF:=bH (show SolvePost w p L (.returned (.tuple #[.agg #[.int .i64 kd,.bool ng,.slice a1 m1 c1,.slice a2 m2 c2,.slice po pn pc,.slice mo mn mc,.slice ro2 rn rc2],.int .i64 0])) _ from ⟨_,o,0,rfl,.run HVb.out HEb.out HO.out.1,fun S W hX hS hR=>HO.out.2 (fun k=>S k∨k=ob) W ((HPo.out.2.mono (fun _ _ h=>Or.inr h)).trans' hX (fun k _ e=>Or.inl e)) (fun k hk=>hk.elim (fun hk=>Nat.lt_of_lt_of_le (hS k hk) HX3.out.size) (fun hk=>by rw [hk]; exact blk_lt HOb.out)) (fun u d k=>hR _ _ (k.past HPo.out.2 (fun k _ e=>by have e':k=ob:=e; subst e'; exact outBox_noDig hbo))),(HX3.out.trans hx5).own HPo.out.2 HOl.out⟩)
   clear t0 f0 t1 f1 t2 f2 t3 f3 t4 f4 t5 f5 t6 f6 hbo
   generalize ((((((w5.setCell ⟨ob,0,none⟩ (.int .i64 kd)).setCell ⟨ob,1,none⟩ (.bool ng)).setCell ⟨ob,2,none⟩ (.slice a1 m1 c1)).setCell ⟨ob,3,none⟩ (.slice a2 m2 c2)).setCell ⟨ob,4,none⟩ (.slice po pn pc)).setCell ⟨ob,5,none⟩ (.slice mo mn mc)).setCell ⟨ob,6,none⟩ (.slice ro2 rn rc2)=w17 at *
   have g0:=cellq HPo.out.1 0 rfl
   have g1:=cellq HPo.out.1 1 rfl
   have g2:=cellq HPo.out.1 2 rfl
   have g3:=cellq HPo.out.1 3 rfl
   have g4:=cellq HPo.out.1 4 rfl
   have g5:=cellq HPo.out.1 5 rfl
   have g6:=cellq HPo.out.1 6 rfl
   exact bodyPost_ret (v:=.tuple #[.agg #[.int .i64 kd,.bool ng,.slice a1 m1 c1,.slice a2 m2 c2,.slice po pn pc,.slice mo mn mc,.slice ro2 rn rc2],.int .i64 0]) (by simp [results,Tryz.results37,go_sem,g0,g1,g2,g3,g4,g5,g6]) rfl HF.out
theorem blk_alloc_at5 (w:World) (o:Obj) (k:Nat) (h:k=w.heap.size):blk (w.alloc o) k=some o:=by subst h; exact blk_alloc_at w o
def sxV:List VarV:=[⟨0,3,false,false,-1⟩,⟨0,3,false,false,-2⟩]
def sxT:List TermV:=[⟨0,1⟩,⟨1,1⟩]
def sxP:ProgV:=⟨sxV,[⟨.empty,0,0,sxT,4⟩]⟩
theorem sx_vrs {W:World} {b:Nat} (b2:blk W b=some (.cells #[.int .i64 0,.int .i64 3,.bool false,.bool false,.int .i64 (-1),.int .i64 0,.int .i64 3,.bool false,.bool false,.int .i64 (-2)] 63 (0,0))):Vrs W (.slice (some ⟨b,0,none⟩) 2 2) sxV:=by
 refine ⟨⟨_,_,rfl,Nat.le_refl _,(by unfold maxLen; decide),(fun e=>by cases e),fun _=>⟨b,0,rfl,blk_lt b2,?_⟩⟩,?_⟩
 ·intro i r hi j u hu
  match i,hi with
  | 0,hi=>cases hi; match j,hu with
   | 0,hu=>cases hu; exact cellq b2 0 rfl
   | 1,hu=>cases hu; exact cellq b2 1 rfl
   | 2,hu=>cases hu; exact cellq b2 2 rfl
   | 3,hu=>cases hu; exact cellq b2 3 rfl
   | 4,hu=>cases hu; exact cellq b2 4 rfl
  | 1,hi=>cases hi; match j,hu with
   | 0,hu=>cases hu; exact cellq b2 5 rfl
   | 1,hu=>cases hu; exact cellq b2 6 rfl
   | 2,hu=>cases hu; exact cellq b2 7 rfl
   | 3,hu=>cases hu; exact cellq b2 8 rfl
   | 4,hu=>cases hu; exact cellq b2 9 rfl
 ·intro x hx
  simp [sxV] at hx
  rcases hx with rfl | rfl <;> exact ⟨by unfold InR; decide,by unfold InR; decide,by unfold InR; decide⟩
theorem sx_tms {W:World} {b:Nat} (b1:blk W b=some (.cells #[.int .i64 0,.int .i64 1,.int .i64 1,.int .i64 1] 76 (0,0))):Tms W (.slice (some ⟨b,0,none⟩) 2 2) sxT:=by
 refine ⟨⟨_,_,rfl,Nat.le_refl _,(by unfold maxLen; decide),(fun e=>by cases e),fun _=>⟨b,0,rfl,blk_lt b1,?_⟩⟩,?_⟩
 ·intro i r hi j u hu
  match i,hi with
  | 0,hi=>cases hi; match j,hu with
   | 0,hu=>cases hu; exact cellq b1 0 rfl
   | 1,hu=>cases hu; exact cellq b1 1 rfl
  | 1,hi=>cases hi; match j,hu with
   | 0,hu=>cases hu; exact cellq b1 2 rfl
   | 1,hu=>cases hu; exact cellq b1 3 rfl
 ·intro x hx
  simp [sxT] at hx
  rcases hx with rfl | rfl <;> exact ⟨by unfold InR; decide,by unfold InR; decide⟩
structure SxBs (W:World) (b:Nat):Prop where
 b1:blk W (b+1)=some (.cells #[.int .i64 0,.int .i64 1,.int .i64 1,.int .i64 1] 76 (0,0))
 b2:blk W (b+1+1)=some (.cells #[.int .i64 0,.int .i64 3,.bool false,.bool false,.int .i64 (-1),.int .i64 0,.int .i64 3,.bool false,.bool false,.int .i64 (-2)] 63 (0,0))
 b3:blk W (b+1+1+1)=some (.cells #[.string ⟨#[]⟩,.int .i64 0,.int .i64 0,.slice (some ⟨b+1,0,none⟩) 2 2,.int .i64 4] 58 (0,0))
theorem SxBs.keep {W W':World} {b:Nat} (h:SxBs W b) (hx:XF W W'):SxBs W' b:=⟨blk_keep h.b1 hx,blk_keep h.b2 hx,blk_keep h.b3 hx⟩
theorem SxBs.prg {W:World} {b:Nat} (h:SxBs W b):IsPrg W (.agg #[.slice (some ⟨b+1+1,0,none⟩) 2 2,.slice (some ⟨b+1+1+1,0,none⟩) 1 1]) sxP:=by
 have b3:=h.b3
 refine ⟨_,_,rfl,sx_vrs h.b2,⟨[.slice (some ⟨b+1,0,none⟩) 2 2],rfl,⟨_,_,rfl,Nat.le_refl _,(by unfold maxLen; decide),(fun e=>by cases e),fun _=>⟨b+1+1+1,0,rfl,blk_lt b3,?_⟩⟩,?_⟩⟩
 ·intro i r hi j u hu
  match i,hi with
  | 0,hi=>cases hi; match j,hu with
   | 0,hu=>cases hu; exact cellq b3 0 rfl
   | 1,hu=>cases hu; exact cellq b3 1 rfl
   | 2,hu=>cases hu; exact cellq b3 2 rfl
   | 3,hu=>cases hu; exact cellq b3 3 rfl
   | 4,hu=>cases hu; exact cellq b3 4 rfl
 ·intro i r tv hr ht
  match i,hr,ht with
  | 0,hr,ht =>
   cases hr; cases ht
   exact ⟨sx_tms h.b1,⟨Nat.zero_le _,by unfold InR; decide,by unfold InR; decide,by unfold InR; decide⟩⟩
def ExPost (w:World) (r:Ending) (w':World):Prop:=∃ b,r=.returned (.agg #[.slice (some ⟨b+1+1,0,none⟩) 2 2,.slice (some ⟨b+1+1+1,0,none⟩) 1 1])/\w.heap.size<=b/\SxBs w' b/\XF w w'
theorem example5_any (w:World):Calls Tryz.prog 87 #[] w (ExPost w):=by
 have hx:=Ext.refl (fun _=>False) w
 go_enter Tryz.func87,Tryz.ntmps87
 go_wp2
 (try simp only [Exit.inBlock,Exit.then])
 obtain ⟨bs,hbs⟩:∃ bs,w.heap.size=bs:=⟨_,rfl⟩
 have hx4:=(((hx.alloc (.cells #[.slice (some ⟨w.heap.size+1+1,0,none⟩) 2 2,.slice (some ⟨w.heap.size+1+1+1,0,none⟩) 1 1] 25)).alloc (.cells #[.int .i64 0,.int .i64 1,.int .i64 1,.int .i64 1] 76)).alloc (.cells #[.int .i64 0,.int .i64 3,.bool false,.bool false,.int .i64 (-1),.int .i64 0,.int .i64 3,.bool false,.bool false,.int .i64 (-2)] 63)).alloc (.cells #[.string ⟨#[]⟩,.int .i64 0,.int .i64 0,.slice (some ⟨w.heap.size+1,0,none⟩) 2 2,.int .i64 4] 58)
 obtain ⟨W,hW⟩:∃ W,(((w.alloc (.cells #[.slice (some ⟨w.heap.size+1+1,0,none⟩) 2 2,.slice (some ⟨w.heap.size+1+1+1,0,none⟩) 1 1] 25)).alloc (.cells #[.int .i64 0,.int .i64 1,.int .i64 1,.int .i64 1] 76)).alloc (.cells #[.int .i64 0,.int .i64 3,.bool false,.bool false,.int .i64 (-1),.int .i64 0,.int .i64 3,.bool false,.bool false,.int .i64 (-2)] 63)).alloc (.cells #[.string ⟨#[]⟩,.int .i64 0,.int .i64 0,.slice (some ⟨w.heap.size+1,0,none⟩) 2 2,.int .i64 4] 58)=W:=⟨_,rfl⟩
 have b0:blk W w.heap.size=some (.cells #[.slice (some ⟨w.heap.size+1+1,0,none⟩) 2 2,.slice (some ⟨w.heap.size+1+1+1,0,none⟩) 1 1] 25 (0,0)):=by
  rw [<- hW]
  refine (blk_alloc_past _ _ _ (by simp [World.size_alloc] <;> omega)).trans ((blk_alloc_past _ _ _ (by simp [World.size_alloc] <;> omega)).trans ((blk_alloc_past _ _ _ (by simp)).trans (blk_alloc_at _ _)))
 have b1:blk W (w.heap.size+1)=some (.cells #[.int .i64 0,.int .i64 1,.int .i64 1,.int .i64 1] 76 (0,0)):=by
  rw [<- hW]
  refine (blk_alloc_past _ _ _ (by simp [World.size_alloc] <;> omega)).trans ((blk_alloc_past _ _ _ (by simp [World.size_alloc] <;> omega)).trans (blk_alloc_at5 _ _ _ (by simp [World.size_alloc])))
 have b2:blk W (w.heap.size+1+1)=some (.cells #[.int .i64 0,.int .i64 3,.bool false,.bool false,.int .i64 (-1),.int .i64 0,.int .i64 3,.bool false,.bool false,.int .i64 (-2)] 63 (0,0)):=by
  rw [<- hW]
  refine (blk_alloc_past _ _ _ (by simp [World.size_alloc] <;> omega)).trans (blk_alloc_at5 _ _ _ (by simp [World.size_alloc]))
 have b3:blk W (w.heap.size+1+1+1)=some (.cells #[.string ⟨#[]⟩,.int .i64 0,.int .i64 0,.slice (some ⟨w.heap.size+1,0,none⟩) 2 2,.int .i64 4] 58 (0,0)):=by
  rw [<- hW]
  exact blk_alloc_at5 _ _ _ (by simp [World.size_alloc])
 rw [hW] at hx4 ⊢
 have hs:w.heap.size+1+1+1<W.heap.size:=blk_lt b3
 clear hW
 rw [hbs] at b0 b1 b2 b3 hs ⊢
 refine bodyPost_ret (results_cell_row rfl _ W bs 25 _ (0,0) _ rfl b0 Tryz.underlying25 rfl (by kernel_rfl)) rfl ?_
 exact ⟨bs,rfl,Nat.le_of_eq hbs,⟨b1,b2,b3⟩,hx4⟩
def sxQ:ProgV:=⟨sxV,[⟨.empty,0,0,sxT,4⟩,⟨.empty,0,1,sxT,7⟩]⟩
theorem sxQ_prg {W:World} {b:Nat} {base:Nat} {v:Value} (h1:blk W (b+1)=some (.cells #[.int .i64 0,.int .i64 1,.int .i64 1,.int .i64 1] 76 (0,0))) (h2:blk W (b+1+1)=some (.cells #[.int .i64 0,.int .i64 3,.bool false,.bool false,.int .i64 (-1),.int .i64 0,.int .i64 3,.bool false,.bool false,.int .i64 (-2)] 63 (0,0)))
  (hv:W.ownsRow base 58 5 v 2 [.string ⟨#[]⟩,.int .i64 0,.int .i64 0,.slice (some ⟨b+1,0,none⟩) 2 2,.int .i64 4,.string ⟨#[]⟩,.int .i64 0,.int .i64 1,.slice (some ⟨b+1,0,none⟩) 2 2,.int .i64 7]):IsPrg W (.agg #[.slice (some ⟨b+1+1,0,none⟩) 2 2,v]) sxQ:=by
 rcases hv.2 with ⟨rfl,h0⟩ | ⟨g,cap,cur,rfl,k1,k2,k3,k4,k5,k6⟩
 ·cases h0
 have hc:∀ i u,(cur.toList.take (2*5))[i]?=some u->W.cell? ⟨g,i,none⟩=some u:=fun i u hi=>by
  rw [cell_of_cells k2,<- Array.getElem?_toList]
  rw [List.getElem?_take] at hi
  split at hi
  ·exact hi
  ·cases hi
 rw [k6] at hc
 refine ⟨_,_,rfl,sx_vrs h2,⟨[.slice (some ⟨b+1,0,none⟩) 2 2,.slice (some ⟨b+1,0,none⟩) 2 2],rfl,⟨_,_,rfl,k3,k4,(fun e=>by cases e),fun _=>⟨g,0,rfl,blk_lt k2,?_⟩⟩,?_⟩⟩
 ·intro i r hi j u hu
  match i,hi with
  | 0,hi=>cases hi; match j,hu with
   | 0,hu=>cases hu; exact hc 0 _ rfl
   | 1,hu=>cases hu; exact hc 1 _ rfl
   | 2,hu=>cases hu; exact hc 2 _ rfl
   | 3,hu=>cases hu; exact hc 3 _ rfl
   | 4,hu=>cases hu; exact hc 4 _ rfl
  | 1,hi=>cases hi; match j,hu with
   | 0,hu=>cases hu; exact hc 5 _ rfl
   | 1,hu=>cases hu; exact hc 6 _ rfl
   | 2,hu=>cases hu; exact hc 7 _ rfl
   | 3,hu=>cases hu; exact hc 8 _ rfl
   | 4,hu=>cases hu; exact hc 9 _ rfl
 ·intro i r tv hr ht
  match i,hr,ht with
  | 0,hr,ht =>
   cases hr; cases ht
   exact ⟨sx_tms h1,⟨Nat.zero_le _,by unfold InR; decide,by unfold InR; decide,by unfold InR; decide⟩⟩
  | 1,hr,ht =>
   cases hr; cases ht
   exact ⟨sx_tms h1,⟨Nat.zero_le _,by unfold InR; decide,by unfold InR; decide,by unfold InR; decide⟩⟩
theorem sxP_opt:optB sxP [1,3] [-1]=true:=by decide +kernel
theorem sxP_val:costQ sxP [1,3]=((-7:Int):Rat):=by decide +kernel
theorem sxP_valid:validB sxP=true:=by decide +kernel
theorem sxQ_inf:infB sxQ [0,1]=true:=by decide +kernel
theorem sxQ_valid:validB sxQ=true:=by decide +kernel
theorem chk_kinds {p:ProgV} {o:OutV} (h:chkB p o=true) (hk:0<=o.kind/\o.kind<=2):(o.kind=0/\optB p o.pt o.mu=true/\o.val=costQ p o.pt)∨(o.kind=1/\infB p o.mu=true/\o.val=0)∨(o.kind=2/\unbB p o.pt o.ray=true/\o.val=0):=by
 unfold chkB at h
 split at h
 ·rename_i h0
  unfold chk1 at h
  simp only [Bool.and_eq_true,decide_eq_true_eq] at h
  exact .inl ⟨h0,h.1.2,h.2⟩
 ·split at h
  ·rename_i h1
   unfold chk2 at h
   simp only [Bool.and_eq_true,decide_eq_true_eq] at h
   exact .inr (.inl ⟨h1,h.2,h.1.1.1⟩)
  ·rename_i h0 h1
   unfold chk3 at h
   simp only [Bool.and_eq_true,decide_eq_true_eq] at h
   exact .inr (.inr ⟨by omega,h.2,h.1.1.1.1⟩)
theorem opt_parts {p:ProgV} {x y:List Rat} (h:optB p x y=true):feasB p x=true/\boundQ p y=some (costQ p x):=by
 unfold optB at h
 simp only [Bool.and_eq_true,decide_eq_true_eq] at h
 exact h
theorem feas_rows {p:ProgV} {x:List Rat} (h:feasB p x=true):validB p=true/\insideB p x=true/\∀ i,i<p.rows.length->kindB (p.r i).kind (dotQ (p.r i).terms x) (p.r i).bound=true:=feas_parts h
theorem opt_unique {p:ProgV} {x y x' y':List Rat} (h:optB p x y=true) (h':optB p x' y'=true):costQ p x=costQ p x':=by
 obtain ⟨h1,h2⟩:=opt_parts h
 obtain ⟨h3,h4⟩:=opt_parts h'
 obtain ⟨_,a1,a2⟩:=feas_rows h1
 obtain ⟨_,b1,b2⟩:=feas_rows h3
 have k1:=bound_le h4 a1 a2
 have k2:=bound_le h2 b1 b2
 exact Rat.le_antisymm k2 k1
theorem chk_opt_iff {p:ProgV} {o:OutV} {x y:List Rat} (h:chkB p o=true) (hk:0<=o.kind/\o.kind<=2) (ho:optB p x y=true):o.kind=0/\o.val=costQ p x:=by
 obtain ⟨h1,h2⟩:=opt_parts ho
 obtain ⟨_,a1,a2⟩:=feas_rows h1
 rcases chk_kinds h hk with ⟨k0,k1,k2⟩ | ⟨_,k1,_⟩ | ⟨_,k1,_⟩
 ·exact ⟨k0,k2.trans (opt_unique k1 ho)⟩
 ·exact (inf_none k1 a1 a2).elim
 ·exact (unb_nobound k1 h2).elim
theorem chk_inf_iff {p:ProgV} {o:OutV} {y:List Rat} (h:chkB p o=true) (hk:0<=o.kind/\o.kind<=2) (ho:infB p y=true):o.kind=1:=by
 rcases chk_kinds h hk with ⟨_,k1,_⟩ | ⟨k0,_,_⟩ | ⟨_,k1,_⟩
 ·obtain ⟨h1,h2⟩:=opt_parts k1
  obtain ⟨_,a1,a2⟩:=feas_rows h1
  exact (inf_none ho a1 a2).elim
 ·exact k0
 ·obtain ⟨hf,_⟩:=unb_parts k1
  obtain ⟨_,a1,a2⟩:=feas_rows hf
  exact (inf_none ho a1 a2).elim
theorem SolveV.chk {p:ProgV} {o:OutV} {e:Int} (h:SolveV p o e) (hv:validB p=true):e=0/\chkB p o=true/\0<=o.kind/\o.kind<=2:=by
 cases h with
 | bad h1=>rw [hv] at h1; cases h1
 | empty h1 h2 =>
  refine ⟨rfl,?_,by show (0:Int)<=1; decide,by show (1:Int)<=2; decide⟩
  show chk2 p (outEmpty p)=true
  unfold chk2
  have hinf:infB p (outEmpty p).mu=true:=by
   unfold infB
   have hs:signedB p (listTo p.rows.length fun _=>0)=true:=allTo_iff.2 fun i hi=>by
    rw [atQ_listTo _ hi]
    unfold signB
    simp
   show (validB p && signedB p (listTo p.rows.length fun _=>0) && _)=true
   rw [h1,h2,hs]; rfl
  rw [hinf]
  simp [outEmpty,listTo_length]
 | run h1 h2 h3=>exact ⟨rfl,h3.chk h1 (fun l hl=>limsL_iff.2 hl) (fun l hl=>limsL_iff.1 hl) (start_good p)⟩
theorem Tryz.infoRowA:(Tryz.prog.info? 58).map (fun i=>(i.zero,i.size,i.bytes))=some (some (.agg #[.string ⟨#[]⟩,.int .i64 0,.int .i64 0,.slice none 0 0,.int .i64 0]),5,64):=by kernel_rfl
theorem rowA_noD (g k:Int) (ao:Option Addr) (n c:Nat) (bd:Int):NoD [.string ⟨#[]⟩,.int .i64 g,.int .i64 k,.slice ao n c,.int .i64 bd]:=fun u hu d e=>by
 simp at hu
 rcases hu with rfl | rfl | rfl | rfl | rfl <;> cases e
theorem rowA_one (g k:Int) (ao:Option Addr) (n c:Nat) (bd:Int):∀ u ∈ [Value.string ⟨#[]⟩,.int .i64 g,.int .i64 k,.slice ao n c,.int .i64 bd],u.oneCell'=true:=fun u hu=>by
 simp at hu
 rcases hu with rfl | rfl | rfl | rfl | rfl <;> rfl
theorem room_ex {m:Nat} (hm:m<=2):Room 2 m 12 1200:=by
 refine ⟨by omega,?_⟩
 have:m=0∨m=1∨m=2:=by omega
 rcases this with rfl | rfl | rfl <;> decide
theorem sxP_small:Small sxP 12 1200:=⟨room_ex (m:=1) (by omega),fun i hi=>by
 match i,hi with
 | 0,_=>decide⟩
theorem sxQ_small:Small sxQ 12 1200:=⟨room_ex (m:=2) (by omega),fun i hi=>by
 match i,hi with
 | 0,_=>decide
 | 1,_=>decide⟩
theorem prB_chk {p:ProgV} {o:OutV} {e:Int} (h:SolveV p o e) (hv:validB p=true):prB p o=true:=by
 obtain ⟨_,h2,h3⟩:=h.chk hv
 rw [prB_eq hv h3]; exact h2
theorem awake5_any (w:World):Calls Tryz.prog 38 #[] w (BoolPost w true):=by
 have HEx:=bH (example5_any w)
 have HFr:=bH (fun W=>show Calls Tryz.prog 32 #[.int .i64 (-7)] W (RatPost W (((-7:Int):Rat))) from Rrfrom_any W (-7) (by decide) (by decide))
 go_enter Tryz.func38,Tryz.ntmps38
 go_upto_region 2 with (go_at_call 87; refine HEx.out.mono ?_; rintro r1 w1 ⟨b,rfl,hb,heb,hx1⟩)
 clear HEx
 have hxa:=(Ext.refl (fun _=>False) w1).alloc (.cells #[.slice (some ⟨b+1+1,0,none⟩) 2 2,.slice (some ⟨b+1+1+1,0,none⟩) 1 1] 25)
 have HP2:=bH (bI (heb.keep hxa) (bI (blk_alloc_at w1 (.cells #[.slice (some ⟨b+1+1,0,none⟩) 2 2,.slice (some ⟨b+1+1+1,0,none⟩) 1 1] 25)) (bI (hx1.trans hxa) hb)))
 have HBp0:=bH (show b+1+1+1<w1.heap.size from blk_lt heb.b3)
 clear heb hb hx1 hxa
 generalize w1.alloc (.cells #[.slice (some ⟨b+1+1,0,none⟩) 2 2,.slice (some ⟨b+1+1+1,0,none⟩) 1 1] 25)=w2 at *
 obtain ⟨pb,hpb⟩:∃ pb,w1.heap.size=pb:=⟨_,rfl⟩
 have HPb:=bH (show b+1+1+1<pb from hpb ▸ HBp0.out)
 rw [hpb] at HP2 ⊢
 clear hpb HBp0
 have z0:=cellq HP2.out.2.1 0 rfl
 have z1:=cellq HP2.out.2.1 1 rfl
 have HSo:=bH (Solve_any w2 _ sxP 168 1200 HP2.out.1.prg (fun _=>bndAll6 sxP_valid (by decide)) (by decide) (by decide) (by decide) (by decide) (by decide) (by decide) (by decide) (by decide))
 go_upto_region 3 with (go_at_call 37; refine HSo.out.mono ?_; rintro r3 w3 ⟨v3,o,e,rfl,hsv,hfar,hx3⟩; obtain ⟨rfl,hck,hkd⟩:=hsv.chk sxP_valid; obtain ⟨hk0,hval⟩:=chk_opt_iff hck hkd sxP_opt; obtain ⟨ng,a1,m1,c1,a2,m2,c2,pv5,mv5,rv5,e5,ho1,ho2,ho3,ho4,ho5⟩:=hfar.now; obtain ⟨po,pc,rfl,-,-,-⟩:=ho2.shape; obtain ⟨mo,mc,rfl,-,-,-⟩:=ho3.shape; obtain ⟨ro2,rc2,rfl,-,-,-⟩:=ho4.shape; rw [hk0] at e5; subst e5; have HO:=bH (bI hsv (bI hfar.now (bI ho1 (bI hval hx3)))); clear hsv hck hkd hk0 hval hfar ho1 ho2 ho3 ho4 ho5 hx3; generalize o.pt.length=pn at *; generalize o.mu.length=mn at *; generalize o.ray.length=rn at *)
 clear z0 z1 HSo
 have hxa:=(Ext.refl (fun _=>False) w3).alloc (.cells #[.int .i64 0,.bool ng,.slice a1 m1 c1,.slice a2 m2 c2,.slice po pn pc,.slice mo mn mc,.slice ro2 rn rc2] 34)
 have hx4:=HO.out.2.2.2.2.trans hxa
 have HP4:=bH (bI (HP2.out.1.keep hx4) (bI (blk_keep HP2.out.2.1 hx4) (bI (HP2.out.2.2.1.trans hx4) (bI (blk_alloc_at w3 (.cells #[.int .i64 0,.bool ng,.slice a1 m1 c1,.slice a2 m2 c2,.slice po pn pc,.slice mo mn mc,.slice ro2 rn rc2] 34)) (bI (HO.out.2.1.keep hxa) (HO.out.2.2.1.1.keep hxa))))))
 have HOb0:=bH (show pb<w3.heap.size from blk_lt (blk_keep HP2.out.2.1 HO.out.2.2.2.2))
 have HBb:=bH HP2.out.2.2.2
 have HV:=bH (bI HO.out.1 (bI HO.out.2.2.1.2 HO.out.2.2.2.1))
 clear hxa hx4 HP2 HO
 generalize w3.alloc (.cells #[.int .i64 0,.bool ng,.slice a1 m1 c1,.slice a2 m2 c2,.slice po pn pc,.slice mo mn mc,.slice ro2 rn rc2] 34)=w4 at *
 obtain ⟨ob,hob⟩:∃ ob,w3.heap.size=ob:=⟨_,rfl⟩
 have HOb:=bH (show pb<ob from hob ▸ HOb0.out)
 rw [hob] at HP4 ⊢
 clear hob HOb0
 have HSa:=bH (fun W u (hW:XF w4 W) (hu:IsRat W u (((-7:Int):Rat)))=>show Calls Tryz.prog 44 #[.agg #[.bool ng,.slice a1 m1 c1,.slice a2 m2 c2],u] W (BoolPost W true) from by
  have h9:=Rrsame_any W _ u _ _ 1200 (HP4.out.2.2.2.2.2.keep hW) hu HV.out.2.1 ((Sz.int (by unfold InR; decide)).mono (by decide)) (by decide)
  rw [decide_eq_true (show o.val=(((-7:Int):Rat)) from HV.out.2.2.trans sxP_val)] at h9
  exact h9)
 have HPr:=bH (fun W (hW:XF w4 W)=>show Calls Tryz.prog 41 #[.agg #[.slice (some ⟨b+1+1,0,none⟩) 2 2,.slice (some ⟨b+1+1+1,0,none⟩) 1 1],.agg #[.int .i64 0,.bool ng,.slice a1 m1 c1,.slice a2 m2 c2,.slice po pn pc,.slice mo mn mc,.slice ro2 rn rc2]] W (BoolPost W true) from by
  have h9:=Proved5_any W _ _ sxP o 1200 12 (HP4.out.1.prg.keep hW) (HP4.out.2.2.2.2.1.keep hW) sxP_small
  rw [prB_chk HV.out.1 sxP_valid] at h9
  exact h9)
 have d0:=cqo (S:=fun _=>False) (cellq HP4.out.2.1 0 rfl) id
 have d1:=cqo (S:=fun _=>False) (cellq HP4.out.2.1 1 rfl) id
 have e0:=cqo (S:=fun _=>False) (cellq HP4.out.2.2.2.1 0 rfl) id
 have e1:=cqo (S:=fun _=>False) (cellq HP4.out.2.2.2.1 1 rfl) id
 have e2:=cqo (S:=fun _=>False) (cellq HP4.out.2.2.2.1 2 rfl) id
 have e3:=cqo (S:=fun _=>False) (cellq HP4.out.2.2.2.1 3 rfl) id
 have e4:=cqo (S:=fun _=>False) (cellq HP4.out.2.2.2.1 4 rfl) id
 have e5:=cqo (S:=fun _=>False) (cellq HP4.out.2.2.2.1 5 rfl) id
 have e6:=cqo (S:=fun _=>False) (cellq HP4.out.2.2.2.1 6 rfl) id
 simp only [List.getElem_toArray,List.getElem_cons_zero,List.getElem_cons_succ] at d0 d1 e0 e1 e2 e3 e4 e5 e6
 refine wp_region_held_drew (S:=(XF w4)) (by kernel_rfl) ((Ext.refl _ w4).drew) (fun hHeld=>?_)
 refine ht 0 (h:=(ht 1 (h:=(ht 2 (h:=?_)))))
 (try go_frame)
 refine ht 3 (h:=?_)
 (try go_frame)
 refine ht 4 (h:=?_)
 (try go_frame)
 refine ht 5 (h:=(ht 6 (h:=(ht 7 (h:=?_)))))
 (try go_frame)
 refine ht 8 (h:=?_)
 (try go_frame)
 refine ht 9 (h:=?_)
 (try go_frame)
 refine hst 10 (h:=fun K hK=>?_)
 (go_simp; go_at_call 32; (with_reducible refine (HFr.out _).mono ?_); rintro q1 w11 ⟨v11,rfl,h11,hx11⟩; have hX1:=hHeld.trans hx11; obtain ⟨n11,a11,l11,c11,a11',l11',c11',rfl⟩:=h11.shape)
 refine hK.out _ _ (hX1) (fun hHeld=>?_)
 clear hK K
 (try go_frame)
 refine hst 11 (h:=fun K hK=>?_)
 (go_simp; go_at_call 44; (with_reducible refine (HSa.out _ _ hX1 h11).mono ?_); rintro q2 w12 ⟨rfl,hx12⟩; have hX2:=hX1.trans hx12)
 refine hK.out _ _ (hX2) (fun hHeld=>?_)
 clear hK K
 (try go_frame)
 refine ht 12 (h:=(ht 13 (h:=(ht 14 (h:=?_)))))
 (try go_frame)
 refine ht 15 (h:=?_)
 (try go_frame)
 refine ht 16 (h:=?_)
 (try go_frame)
 refine hst 17 (h:=fun K hK=>?_)
 (go_simp; go_at_call 41; (with_reducible refine (HPr.out _ hX2).mono ?_); rintro q3 w13 ⟨rfl,hx13⟩; have hX3:=hX2.trans hx13)
 refine hK.out _ _ (hX3) (fun hHeld=>?_)
 clear hK K
 (try go_frame)
 refine ht 18 (h:=(ht 19 (h:=?_)))
 (try go_frame)
 refine wpAnyH_done (by kernel_rfl) ?_ _
 have HP5:=bH (bI (HP4.out.1.keep hX3) (bI (blk_keep HP4.out.2.1 hX3) (bI (HP4.out.2.2.1.trans hX3) (blk_keep HP4.out.2.2.2.1 hX3))))
 clear d0 d1 e0 e1 e2 e3 e4 e5 e6 HSa HPr HP4 hHeld hX3 hX2 hX1 hx11 hx12 hx13 h11 HV
 go_upto_region 5 with fail
 obtain ⟨w5,hw5⟩:∃ x,w13=x:=⟨_,rfl⟩
 rw [hw5] at HP5 ⊢
 clear hw5
 have HBp:=bH HP5.out.2.1
 have hbpb:b+1+1+1<pb:=HPb.out
 have r3:w5.cell? ⟨b+1+1+1,3,none⟩=some (.slice (some ⟨b+1,0,none⟩) 2 2):=cellq HP5.out.1.b3 3 rfl
 have c1':=cqo (S:=fun k=>k=b+1+1+1) (show w5.cell? ⟨pb,1,none⟩=some (.slice (some ⟨b+1+1+1,0,none⟩) 1 1) from cellq HP5.out.2.1 1 rfl) (fun e=>by omega)
 have hpw:pb<w5.heap.size:=blk_lt HP5.out.2.1
 have hsw:w.heap.size<=w5.heap.size:=HP5.out.2.2.1.size
 have HOw0:=bH (show w.heap.size<=((w5.alloc (.cells ([.string ⟨#[]⟩,.int .i64 0,.int .i64 1,.slice (some ⟨b+1,0,none⟩) 2 2,.int .i64 7]).toArray 58)).drew).heap.size from by simp; omega)
 have HOw:=bH (show ((w5.alloc (.cells ([.string ⟨#[]⟩,.int .i64 0,.int .i64 1,.slice (some ⟨b+1,0,none⟩) 2 2,.int .i64 7]).toArray 58)).drew).ownsRow w.heap.size 58 5 (.slice (some ⟨b+1+1+1,0,none⟩) 1 1) 1 [.string ⟨#[]⟩,.int .i64 0,.int .i64 0,.slice (some ⟨b+1,0,none⟩) 2 2,.int .i64 4]/\(∀ g,(Value.slice (some ⟨b+1+1+1,0,none⟩) 1 1).ownBlock=some g->NoDig ((w5.alloc (.cells ([.string ⟨#[]⟩,.int .i64 0,.int .i64 1,.slice (some ⟨b+1,0,none⟩) 2 2,.int .i64 7]).toArray 58)).drew) g) from by
  have hk:blk ((w5.alloc (.cells ([.string ⟨#[]⟩,.int .i64 0,.int .i64 1,.slice (some ⟨b+1,0,none⟩) 2 2,.int .i64 7]).toArray 58)).drew) (b+1+1+1)=some (.cells #[.string ⟨#[]⟩,.int .i64 0,.int .i64 0,.slice (some ⟨b+1,0,none⟩) 2 2,.int .i64 4] 58 (0,0)):=blk_keep HP5.out.1.b3 (((Ext.refl (fun _=>False) w5).alloc _).drew)
  have hbb:=HBb.out
  exact ⟨⟨rfl,.inr ⟨b+1+1+1,1,_,rfl,by omega,hk,Nat.le_refl _,by unfold maxLen; decide,rfl,rfl⟩⟩,fun g hg=>by cases hg; exact noDig_cells hk (rowA_noD 0 0 (some ⟨b+1,0,none⟩) 2 2 4)⟩)
 clear hsw
 refine mbegin 11 (Ext (fun k=>k=b+1+1+1) w5) (by kernel_rfl) ((Ext.refl _ w5).drew) (fun hHeld=>?_)
 refine mu 0 (h:=(mu 1 (h:=(mu 2 (h:=(mu 3 (h:=(mu 4 (h:=(mu 5 (h:=?_)))))))))))
 (try go_frame)
 refine mst 6 (h:=fun K hK=>?_)
 go_simp
 refine hK.out _ _ (hHeld) (fun hHeld=>?_)
 clear hK K
 (try go_frame)
 refine mu 7 (h:=?_)
 (try go_frame)
 refine mst 8 (h:=fun K hK=>?_)
 go_simp
 have hsrc8:∀ (j:Nat) (u:Value),([.string ⟨#[]⟩,.int .i64 0,.int .i64 1,.slice (some ⟨b+1,0,none⟩) 2 2,.int .i64 7]:List Value)[j]?=some u->_:=alloc_src w5 58 [.string ⟨#[]⟩,.int .i64 0,.int .i64 1,.slice (some ⟨b+1,0,none⟩) 2 2,.int .i64 7]
 refine hK.out _ _ (hHeld.alloc _) (fun hHeld=>?_)
 clear hK K
 (try go_frame)
 refine mst 9 (h:=fun K hK=>?_)
 refine step_app rfl _ _ rfl Tryz.underlying23 Tryz.infoRowA rfl (rowA_noD _ _ _ _ _ _) (by decide) (by decide) w.heap.size (.slice (some ⟨b+1+1+1,0,none⟩) 1 1) 1 [.string ⟨#[]⟩,.int .i64 0,.int .i64 0,.slice (some ⟨b+1,0,none⟩) 2 2,.int .i64 4] rfl HOw.out.1 HOw.out.2 (rowA_noD _ _ _ _ _ _) ⟨w5.heap.size,0,none⟩ 1 [.string ⟨#[]⟩,.int .i64 0,.int .i64 1,.slice (some ⟨b+1,0,none⟩) 2 2,.int .i64 7] rfl rfl hsrc8 (rowA_one _ _ _ _ _ _) (rowA_noD _ _ _ _ _ _) (by omega) HOw0.out (fun v20 w20 ha20=>?_)
 obtain ⟨bo20,bc20,rfl⟩:=ownsRow_shape ha20.own
 refine hK.out _ _ (((Ext.refl (fun k=>k=b+1+1+1) w5).alloc _).drew.trans (ha20.ext.mono (fun k _ e=>by cases e; rfl))) (fun hHeld=>?_)
 clear hK K
 (try go_frame)
 refine mu 10 (h:=?_)
 (try go_frame)
 have hbo:=(hHeld.blk (blk_lt HBp.out) (show ¬ pb=b+1+1+1 by omega)).trans HBp.out
 have t1:=cellq hbo 1 rfl
 have f1:=free_of_cells hbo 1
 refine ml 11 (h:=fun K hK=>?_)
 go_simp
 refine hK.out _ _ ?_
 clear hK K
 (try go_frame)
 refine mdone (by kernel_rfl) ?_ _
 have hx6:Ext (fun k=>k=b+1+1+1∨k=pb) w5 (w20.setCell ⟨pb,1,none⟩ (.slice bo20 2 bc20)):=(hHeld.mono (fun _ _ h=>Or.inl h)).setCell (p:=⟨pb,1,none⟩) _ (fun _=>Or.inr rfl)
 have hpo:pb<ob:=HOb.out
 have hgo:∀ g,(Value.slice bo20 2 bc20).ownBlock=some g->g≠pb/\g≠ob:=fun g hg=>by
  have ho:ob<w5.heap.size:=blk_lt HP5.out.2.2.2
  rcases ha20.new g hg with h9 | h9
  ·have h9':b+1+1+1=g:=Option.some.inj h9
   omega
  ·simp at h9
   omega
 have HP6:=bH (show blk (w20.setCell ⟨pb,1,none⟩ (.slice bo20 2 bc20)) (b+1)=some (.cells #[.int .i64 0,.int .i64 1,.int .i64 1,.int .i64 1] 76 (0,0))/\blk (w20.setCell ⟨pb,1,none⟩ (.slice bo20 2 bc20)) (b+1+1)=some (.cells #[.int .i64 0,.int .i64 3,.bool false,.bool false,.int .i64 (-1),.int .i64 0,.int .i64 3,.bool false,.bool false,.int .i64 (-2)] 63 (0,0))/\(w20.setCell ⟨pb,1,none⟩ (.slice bo20 2 bc20)).ownsRow w.heap.size 58 5 (.slice bo20 2 bc20) 2 [.string ⟨#[]⟩,.int .i64 0,.int .i64 0,.slice (some ⟨b+1,0,none⟩) 2 2,.int .i64 4,.string ⟨#[]⟩,.int .i64 0,.int .i64 1,.slice (some ⟨b+1,0,none⟩) 2 2,.int .i64 7]/\blk (w20.setCell ⟨pb,1,none⟩ (.slice bo20 2 bc20)) pb=some (.cells #[.slice (some ⟨b+1+1,0,none⟩) 2 2,.slice bo20 2 bc20] 25 (0,0))/\blk (w20.setCell ⟨pb,1,none⟩ (.slice bo20 2 bc20)) ob=some (.cells #[.int .i64 0,.bool ng,.slice a1 m1 c1,.slice a2 m2 c2,.slice po pn pc,.slice mo mn mc,.slice ro2 rn rc2] 34 (0,0))/\XF w (w20.setCell ⟨pb,1,none⟩ (.slice bo20 2 bc20)) from
  ⟨(hx6.blk (blk_lt HP5.out.1.b1) (by omega)).trans HP5.out.1.b1,(hx6.blk (blk_lt HP5.out.1.b2) (by omega)).trans HP5.out.1.b2,ownsRow_ext ha20.own ((Ext.refl (fun k=>k=pb) w20).setCell (p:=⟨pb,1,none⟩) _ (fun _=>rfl)) (fun g hg e=>(hgo g hg).1 e),(by simpa using blk_setCell_same hbo 1 (.slice bo20 2 bc20)),(hx6.blk (blk_lt HP5.out.2.2.2) (by omega)).trans HP5.out.2.2.2,HP5.out.2.2.1.own hx6 (fun k e=>by
   have h8:=HBb.out
   have h9:=HP5.out.2.2.1.size
   rcases e with e | e <;> omega)⟩)
 have HGo:=bH hgo
 clear hx6 hgo ha20 hHeld t1 f1 hbo HOw HOw0 HBp c1' r3 hpw HP5
 generalize (w20.setCell ⟨pb,1,none⟩ (.slice bo20 2 bc20))=w6 at *
 have z0:w6.cell? ⟨pb,0,none⟩=some (.slice (some ⟨b+1+1,0,none⟩) 2 2):=cellq HP6.out.2.2.2.1 0 rfl
 have z1:w6.cell? ⟨pb,1,none⟩=some (.slice bo20 2 bc20):=cellq HP6.out.2.2.2.1 1 rfl
 have HSo:=bH (Solve_any w6 _ sxQ 168 1200 (sxQ_prg HP6.out.1 HP6.out.2.1 HP6.out.2.2.1) (fun _=>bndAll6 sxQ_valid (by decide)) (by decide) (by decide) (by decide) (by decide) (by decide) (by decide) (by decide) (by decide))
 go_upto_region 7 with (go_at_call 37; refine HSo.out.mono ?_; rintro r7 w7 ⟨v7,o7,e7,rfl,hsv,hfar,hx7⟩; obtain ⟨rfl,hck,hkd⟩:=hsv.chk sxQ_valid; have hk0:=chk_inf_iff hck hkd sxQ_inf; obtain ⟨ng7,x1,y1,z1',x2,y2,z2',pv5,mv5,rv5,e5,ho1,ho2,ho3,ho4,ho5⟩:=hfar.now; obtain ⟨po7,pc7,rfl,-,-,-⟩:=ho2.shape; obtain ⟨mo7,mc7,rfl,-,-,-⟩:=ho3.shape; obtain ⟨ro7,rc7,rfl,-,-,-⟩:=ho4.shape; rw [hk0] at e5; subst e5; have HO:=bH (bI hsv (bI hfar hx7)); clear hsv hck hkd hk0 hfar ho1 ho2 ho3 ho4 ho5; generalize o7.pt.length=pn7 at *; generalize o7.mu.length=mn7 at *; generalize o7.ray.length=rn7 at *; have hbo:=blk_keep HP6.out.2.2.2.2.1 hx7; clear hx7; have t0:=cellq hbo 0 rfl; have t1:=cellq hbo 1 rfl; have t2:=cellq hbo 2 rfl; have t3:=cellq hbo 3 rfl; have t4:=cellq hbo 4 rfl; have t5:=cellq hbo 5 rfl; have t6:=cellq hbo 6 rfl; have f0:=free_of_cells hbo 0; have f1:=free_of_cells hbo 1; have f2:=free_of_cells hbo 2; have f3:=free_of_cells hbo 3; have f4:=free_of_cells hbo 4; have f5:=free_of_cells hbo 5; have f6:=free_of_cells hbo 6)
 have HPo:=bH (outBox_put (w:=w7) hbo (.int .i64 1) (.bool ng7) (.slice x1 y1 z1') (.slice x2 y2 z2') (.slice po7 pn7 pc7) (.slice mo7 mn7 mc7) (.slice ro7 rn7 rc7))
 have hnd:NoDig w7 ob:=noDig_cells hbo (fun u hu d e=>by
  simp only [List.mem_cons,List.not_mem_nil,or_false] at hu
  rcases hu with rfl | rfl | rfl | rfl | rfl | rfl | rfl <;> cases e)
 have HP8:=bH (show IsPrg (((((((w7.setCell ⟨ob,0,none⟩ (.int .i64 1)).setCell ⟨ob,1,none⟩ (.bool ng7)).setCell ⟨ob,2,none⟩ (.slice x1 y1 z1')).setCell ⟨ob,3,none⟩ (.slice x2 y2 z2')).setCell ⟨ob,4,none⟩ (.slice po7 pn7 pc7)).setCell ⟨ob,5,none⟩ (.slice mo7 mn7 mc7)).setCell ⟨ob,6,none⟩ (.slice ro7 rn7 rc7)) (.agg #[.slice (some ⟨b+1+1,0,none⟩) 2 2,.slice bo20 2 bc20]) sxQ/\blk (((((((w7.setCell ⟨ob,0,none⟩ (.int .i64 1)).setCell ⟨ob,1,none⟩ (.bool ng7)).setCell ⟨ob,2,none⟩ (.slice x1 y1 z1')).setCell ⟨ob,3,none⟩ (.slice x2 y2 z2')).setCell ⟨ob,4,none⟩ (.slice po7 pn7 pc7)).setCell ⟨ob,5,none⟩ (.slice mo7 mn7 mc7)).setCell ⟨ob,6,none⟩ (.slice ro7 rn7 rc7)) pb=some (.cells #[.slice (some ⟨b+1+1,0,none⟩) 2 2,.slice bo20 2 bc20] 25 (0,0))/\IsOutC (((((((w7.setCell ⟨ob,0,none⟩ (.int .i64 1)).setCell ⟨ob,1,none⟩ (.bool ng7)).setCell ⟨ob,2,none⟩ (.slice x1 y1 z1')).setCell ⟨ob,3,none⟩ (.slice x2 y2 z2')).setCell ⟨ob,4,none⟩ (.slice po7 pn7 pc7)).setCell ⟨ob,5,none⟩ (.slice mo7 mn7 mc7)).setCell ⟨ob,6,none⟩ (.slice ro7 rn7 rc7)) (.agg #[.int .i64 1,.bool ng7,.slice x1 y1 z1',.slice x2 y2 z2',.slice po7 pn7 pc7,.slice mo7 mn7 mc7,.slice ro7 rn7 rc7]) o7 1200/\XF w (((((((w7.setCell ⟨ob,0,none⟩ (.int .i64 1)).setCell ⟨ob,1,none⟩ (.bool ng7)).setCell ⟨ob,2,none⟩ (.slice x1 y1 z1')).setCell ⟨ob,3,none⟩ (.slice x2 y2 z2')).setCell ⟨ob,4,none⟩ (.slice po7 pn7 pc7)).setCell ⟨ob,5,none⟩ (.slice mo7 mn7 mc7)).setCell ⟨ob,6,none⟩ (.slice ro7 rn7 rc7)) from by
  have hx7:=HO.out.2.2
  have hx8:=(hx7.mono (T:=fun k=>k=ob) (fun _ _ h=>h.elim)).trans HPo.out.2
  have k1:=(hx8.blk (blk_lt HP6.out.1) (show ¬ b+1=ob by omega)).trans HP6.out.1
  have k2:=(hx8.blk (blk_lt HP6.out.2.1) (show ¬ b+1+1=ob by omega)).trans HP6.out.2.1
  have k3:=ownsRow_ext HP6.out.2.2.1 hx8 (fun g hg e=>(HGo.out g hg).2 e)
  refine ⟨sxQ_prg k1 k2 k3,(hx8.blk (blk_lt HP6.out.2.2.2.1) (show ¬ pb=ob by omega)).trans HP6.out.2.2.2.1,HO.out.2.1 (fun k=>k=ob) _ HPo.out.2 (fun k e=>by
   have e':k=ob:=e
   rw [e']; exact blk_lt HP6.out.2.2.2.2.1) (fun u d h=>h.past HPo.out.2 (fun k _ e=>by have e':k=ob:=e; subst e'; exact hnd)),HP6.out.2.2.2.2.2.own hx8 (fun k e=>?_)⟩
  have e':k=ob:=e
  have h8:=HBb.out
  omega)
 clear t0 t1 t2 t3 t4 t5 t6 f0 f1 f2 f3 f4 f5 f6 hbo hnd z0 z1 HSo
 generalize (((((((w7.setCell ⟨ob,0,none⟩ (.int .i64 1)).setCell ⟨ob,1,none⟩ (.bool ng7)).setCell ⟨ob,2,none⟩ (.slice x1 y1 z1')).setCell ⟨ob,3,none⟩ (.slice x2 y2 z2')).setCell ⟨ob,4,none⟩ (.slice po7 pn7 pc7)).setCell ⟨ob,5,none⟩ (.slice mo7 mn7 mc7)).setCell ⟨ob,6,none⟩ (.slice ro7 rn7 rc7))=w8 at *
 have HPr:=bH (fun W (hW:XF w8 W)=>show Calls Tryz.prog 41 #[.agg #[.slice (some ⟨b+1+1,0,none⟩) 2 2,.slice bo20 2 bc20],.agg #[.int .i64 1,.bool ng7,.slice x1 y1 z1',.slice x2 y2 z2',.slice po7 pn7 pc7,.slice mo7 mn7 mc7,.slice ro7 rn7 rc7]] W (BoolPost W true) from by
  have h9:=Proved5_any W _ _ sxQ o7 1200 12 (HP8.out.1.keep hW) (HP8.out.2.2.1.keep hW) sxQ_small
  rw [prB_chk HO.out.1 sxQ_valid] at h9
  exact h9)
 have d0:=cqo (S:=fun _=>False) (show w8.cell? ⟨pb,0,none⟩=some (.slice (some ⟨b+1+1,0,none⟩) 2 2) from cellq HP8.out.2.1 0 rfl) id
 have d1:=cqo (S:=fun _=>False) (show w8.cell? ⟨pb,1,none⟩=some (.slice bo20 2 bc20) from cellq HP8.out.2.1 1 rfl) id
 have e0:=cqo (S:=fun _=>False) (show w8.cell? ⟨ob,0,none⟩=some (.int .i64 1) from cellq HPo.out.1 0 rfl) id
 have e1:=cqo (S:=fun _=>False) (show w8.cell? ⟨ob,1,none⟩=some (.bool ng7) from cellq HPo.out.1 1 rfl) id
 have e2:=cqo (S:=fun _=>False) (show w8.cell? ⟨ob,2,none⟩=some (.slice x1 y1 z1') from cellq HPo.out.1 2 rfl) id
 have e3:=cqo (S:=fun _=>False) (show w8.cell? ⟨ob,3,none⟩=some (.slice x2 y2 z2') from cellq HPo.out.1 3 rfl) id
 have e4:=cqo (S:=fun _=>False) (show w8.cell? ⟨ob,4,none⟩=some (.slice po7 pn7 pc7) from cellq HPo.out.1 4 rfl) id
 have e5:=cqo (S:=fun _=>False) (show w8.cell? ⟨ob,5,none⟩=some (.slice mo7 mn7 mc7) from cellq HPo.out.1 5 rfl) id
 have e6:=cqo (S:=fun _=>False) (show w8.cell? ⟨ob,6,none⟩=some (.slice ro7 rn7 rc7) from cellq HPo.out.1 6 rfl) id
 replace d0:=d0 w8 (Ext.refl _ _)
 replace d1:=d1 w8 (Ext.refl _ _)
 replace e0:=e0 w8 (Ext.refl _ _)
 replace e1:=e1 w8 (Ext.refl _ _)
 replace e2:=e2 w8 (Ext.refl _ _)
 replace e3:=e3 w8 (Ext.refl _ _)
 replace e4:=e4 w8 (Ext.refl _ _)
 replace e5:=e5 w8 (Ext.refl _ _)
 replace e6:=e6 w8 (Ext.refl _ _)
 go_wp2_with (go_at_call 41; refine (HPr.out _ (Ext.refl _ _)).mono ?_; rintro q3 w13 ⟨rfl,hx13⟩)
 go_ret
 exact ⟨rfl,HP8.out.2.2.2.trans hx13⟩
end Go.Proofs.YtbgienfcmdgaaaaGreat
