/-
  Texts of the proof, part 5. Conditions: each lemma names its own.
-/
import Derived.Test.YtbgienfcmdgaaaaGreatZ1
import Derived.Test.YtbgienfcmdgaaaaGreatZ3
import Derived.Test.YtbgienfcmdgaaaaGreatZ4
import Derived.Shelf.SlicesQ.IndexFunc
import Derived.Shelf.SlGeneric
import Derived.Ground.SlgfProg
import Derived.Shelf.Small.Bits
import Derived.Shelf.GgClosure.StringsIndexFunc
import Derived.Ground.GgwProg
import Derived.Shelf.GgClosure.StringsIndexFuncTop
import Derived.Shelf.Strings.FuncGrows
import Derived.Shelf.Slices.Turned
import Derived.Ground.Names2Prog
import Derived.Shelf.Slices.Clone
import Derived.Ground.SlgfProg
import Derived.Shelf.SlicesE.IndexFunc
import Derived.Test.YtbgienfcmdgaaaaGreatProg
import Derived.Laws.RangeAny
import Derived.Maps.RangeWalk
set_option linter.unusedVariables false
set_option linter.unusedSimpArgs false
set_option maxRecDepth 100000
set_option maxHeartbeats 16000000
namespace Go.Proofs.YtbgienfcmdgaaaaGreat
open Go.RowKit Go.MapKept
open Go.ChangeMaps (setBlock)
section
variable {P:Program} {md:Region.Mode} {l:List Oper} {Q:Exit->Act->World->Prop} {S:World->Prop} {k:Nat}
theorem ht (i:Nat) {oi:Oper} {v:Value} {fuel:Nat} {listed:Array Bool} {a:Act} {w:World} (hi:l[i]?=some oi:=by rfl) (hs:Region.noSelect l.toArray=true:=by kernel_rfl) (hf:Region.free md l.toArray listed i=true:=by kernel_rfl)
  (hr:(Region.ready md l.toArray listed).contains i=true:=by kernel_rfl) (hQ:∀ c a w,Q (.panic c) (a.put oi.dst v) w->Q (.panic c) a w:=by exact fun _ _ _ h=>h) (hw:Region.wanted oi (yielded l.toArray a.tmps)=true:=by rfl)
  (he:∀ w,S w->(execOp a.eval oi).run P w=.ok (.value v) w:=by (intro w hSw; (try go_frame); (try dsimp only at hSw); go_simp) <;> with_reducible rfl) (hS:S w:=by assumption) (h:wpAnyH P md l.toArray Q S fuel (listed.setIfInBounds i true) (a.put oi.dst v) w):wpAnyH P md l.toArray Q S (fuel+1) listed a w :=
 held_take i hi hs hf hr hQ hw he hS h
theorem hk (i:Nat) {oi:Oper} {fuel:Nat} {listed:Array Bool} {a:Act} {w:World} (hi:l[i]?=some oi:=by rfl) (hs:Region.noSelect l.toArray=true:=by kernel_rfl) (hf:Region.free md l.toArray listed i=true:=by kernel_rfl)
  (hr:(Region.ready md l.toArray listed).contains i=true:=by kernel_rfl) (hQ:∀ c a w,Q (.panic c) (a.put oi.dst undef) w->Q (.panic c) a w:=by exact fun _ _ _ h=>h) (hw:Region.wanted oi (yielded l.toArray a.tmps)=false:=by rfl)
  (hS:S w:=by assumption) (h:wpAnyH P md l.toArray Q S fuel (listed.setIfInBounds i true) (a.put oi.dst undef) w):wpAnyH P md l.toArray Q S (fuel+1) listed a w :=
 held_skip i hi hs hf hr hQ hw hS h
theorem hst (i:Nat) {oi:Oper} {fuel:Nat} {listed:Array Bool} {a:Act} {w:World} (hi:l[i]?=some oi:=by rfl) (hr:Region.ready md l.toArray listed=[i]:=by kernel_rfl)
  (h:∀ K':Act->World->Prop,Shut (∀ a w,S w->(S w->wpAnyH P md l.toArray Q S fuel (listed.setIfInBounds i true) a w)->K' a w)->if Region.wanted oi (yielded l.toArray a.tmps)=true then Oper.wp P oi a w K' Q else K' (a.put oi.dst undef) w) :
  wpAnyH P md l.toArray Q S (fuel+1) listed a w:=held_step i hi hr h
theorem et (i:Nat) {oi:Oper} {v:Value} {fuel:Nat} {listed:Array Bool} {a:Act} {w:World} (hi:l[i]?=some oi:=by rfl) (hs:Region.noSelect l.toArray=true:=by kernel_rfl) (hf:Region.free md l.toArray listed i=true:=by kernel_rfl)
  (hr:(Region.ready md l.toArray listed).contains i=true:=by kernel_rfl) (hk:waits md l k i=true:=by kernel_rfl) (hQ:∀ c a w,Q (.panic c) (a.put oi.dst v) w->Q (.panic c) a w:=by exact fun _ _ _ h=>h) (hw:Region.wanted oi (yielded l.toArray a.tmps)=true:=by rfl)
  (he:∀ w,S w->(execOp a.eval oi).run P w=.ok (.value v) w:=by (intro w hSw; (try go_frame); (try dsimp only at hSw); go_simp) <;> with_reducible rfl) (hS:S w:=by assumption) (h:Ends P md l.toArray Q S k fuel (listed.setIfInBounds i true) (a.put oi.dst v) w):Ends P md l.toArray Q S k (fuel+1) listed a w :=
 ends_take i hi hs hf hr hk hQ hw he hS h
theorem est (i:Nat) {oi:Oper} {fuel:Nat} {listed:Array Bool} {a:Act} {w:World} (hi:l[i]?=some oi:=by rfl) (hr:Region.ready md l.toArray listed=[i]:=by kernel_rfl)
  (h:∀ K':Act->World->Prop,Shut (∀ a w,S w->(S w->Ends P md l.toArray Q S k fuel (listed.setIfInBounds i true) a w)->K' a w)->if Region.wanted oi (yielded l.toArray a.tmps)=true then Oper.wp P oi a w K' Q else K' (a.put oi.dst undef) w) :
  Ends P md l.toArray Q S k (fuel+1) listed a w:=ends_step i hi hr h
end
section
variable {w0 W:World}
theorem cq {b i:Nat} {v:Value} (h:w0.cell? ⟨b,i,none⟩=some v):∀ W,XF w0 W->W.cell? ⟨b,i,none⟩=some v:=fun _ hx=>cell_keep h hx
theorem cqo {S:Nat->Prop} {b i:Nat} {v:Value} (h:w0.cell? ⟨b,i,none⟩=some v) (hn:¬ S b):∀ W,Ext S w0 W->W.cell? ⟨b,i,none⟩=some v:=fun _ hx=>(hx.cell (p:=⟨b,i,none⟩) (World.block_lt_of_cell? _ _ h) hn).trans h
theorem Ext.none {S:Nat->Prop} (h:XF w0 W):Ext S w0 W:=h.mono (fun _ _ h=>h.elim)
end
section
variable {P:Program} {md:Region.Mode} {ops:Array Oper} {Q:Exit->Act->World->Prop} {S:World->Prop} {k:Nat->Bool}
def EndsL (P:Program) (md:Region.Mode) (ops:Array Oper) (Q:Exit->Act->World->Prop) (S:World->Prop) (k:Nat->Bool):Nat->Array Bool->Act->World->Prop
 | 0,ls,a,w=>Region.ready md ops ls=[]/\Q .normal a w
 | n+1,ls,a,w=>(Region.ready md ops ls=[]->Q .normal a w)/\∀ i ∈ Region.ready md ops ls,wpOp P ops Q i (fun a' w'=>(k i=false->S w')/\EndsL P md ops Q S k n (ls.setIfInBounds i true) a' w') a w
theorem EndsL.any:∀ (n:Nat) (ls:Array Bool) (a:Act) (w:World),EndsL P md ops Q S k n ls a w->wpAny P md ops Q n ls a w
 | 0,_,_,_,h=>h
 | n+1,_,_,_,h=>⟨h.1,fun i hi=>wpOp_mono (fun a w h=>EndsL.any n _ a w h.2) (h.2 i hi)⟩
def Wts (md:Region.Mode) (ops:Array Oper) (j i:Nat):Prop:=∃ ok,ops[j]?=some ok/\∃ e ∈ ok.after,Region.binds md e=true/\e.on=i
theorem EndsL.take {i:Nat} {oi:Oper} {v:Value} (hi:ops[i]?=some oi) (hsel:∀ (j:Nat) (o:Oper) cs b,ops[j]?=some o->o.op≠.select cs b) (hQ:∀ c a w,Q (.panic c) (a.put oi.dst v) w->Q (.panic c) a w) :
  ∀ (n:Nat) (ls:Array Bool) (a:Act) (w:World),Apart md ops i oi ls->i ∈ Region.ready md ops ls->(k i=false/\∀ j,k j=true->Wts md ops j i∨∃ p,Wts md ops j p/\Wts md ops p i)->(∀ p,Wts md ops p i->ls.getD p false=false)->YieldsIf P ops S oi v a->S w->EndsL P md ops Q S k n (ls.setIfInBounds i true) (a.put oi.dst v) w->EndsL P md ops Q S k (n+1) ls a w:=by
 have first:∀ (n:Nat) (ls:Array Bool) (a:Act) (w:World),i ∈ Region.ready md ops ls->YieldsIf P ops S oi v a->S w->EndsL P md ops Q S k n (ls.setIfInBounds i true) (a.put oi.dst v) w->wpOp P ops Q i (fun a' w'=>(k i=false->S w')/\EndsL P md ops Q S k n (ls.setIfInBounds i true) a' w') a w :=
  fun n ls a w _ hy hS H=>hy.wpOp hi hS ⟨fun _=>hS,H⟩
 intro n
 induction n with
 | zero =>
  intro ls a w _ hr _ _ hy hS H
  refine ⟨fun h=>(by rw [h] at hr; cases hr),fun j hj=>?_⟩
  rcases Decidable.em (j=i) with e | e
  ·rw [e]; exact first 0 ls a w hr hy hS H
  ·have:=ready_mono hj e
   rw [H.1] at this; cases this
 | succ n ih =>
  intro ls a w hap hr hk hnl hy hS H
  refine ⟨fun h=>(by rw [h] at hr; cases hr),fun j hj=>?_⟩
  rcases Decidable.em (j=i) with e | e
  ·rw [e]; exact first (n+1) ls a w hr hy hS H
  ·obtain ⟨hju,oj,hoj,_⟩:=mem_ready.1 hj
   have h2:=wpOp_putIf hoj (hap j oj hoj e hju (unlisted hr hoj hj)) (fun cs b=>hsel i oi cs b hi) (fun cs b=>hsel j oj cs b hoj) hQ hy (H.2 j (ready_mono hj e))
   refine wpOp_mono (fun a' w' h3=>?_) h2
   have hr':i ∈ Region.ready md ops (ls.setIfInBounds j true):=ready_mono hr (Ne.symm e)
   have hjk:k j=false:=by
    cases hkj:k j with
    | false=>rfl
    | true =>
     have hno:∀ p,Wts md ops j p->p≠i/\ls.getD p false=true:=fun p ⟨ok,ho,e',he,hb,hon⟩=>by
      rw [hoj] at ho; cases ho
      refine ⟨fun ep=>unlisted hr hoj hj e' he hb (hon.trans ep),?_⟩
      obtain ⟨_,o2,ho2,hall⟩:=mem_ready.1 hj
      rw [hoj] at ho2; cases ho2
      rw [<- hon]; exact hall e' he hb
     rcases hk.2 j hkj with h4 | ⟨p,h4,h5⟩
     ·exact absurd rfl (hno i h4).1
     ·have h6:=(hno p h4).2
      rw [hnl p h5] at h6; cases h6
   have hnl':∀ p,Wts md ops p i->(ls.setIfInBounds j true).getD p false=false:=fun p hp=>by
    have hpj:p≠j:=fun ep=>by
     obtain ⟨ok,ho,e',he,hb,hon⟩:=hp
     rw [ep,hoj] at ho; cases ho
     exact unlisted hr hoj hj e' he hb hon
    rw [getD_set_ne false (Ne.symm hpj)]; exact hnl p hp
   have hS':S w':=h3.2.1 hjk
   exact ⟨fun _=>hS',ih _ a' w' (hap.next hju) hr' hk hnl' h3.1 hS' (by rw [Array.setIfInBounds_comm _ _ e]; exact h3.2.2)⟩
end
section
variable {P:Program} {md:Region.Mode} {l:List Oper} {Q:Exit->Act->World->Prop} {S:World->Prop} {k:Nat}
def waits2 (md:Region.Mode) (l:List Oper) (j i:Nat):Bool:=waits md l j i || (List.range l.length).any fun p=>waits md l j p && waits md l p i
def waitsL (md:Region.Mode) (l:List Oper) (k i:Nat):Bool:=decide (i<k) && (List.range l.length).all fun j=>!decide (k<=j) || waits2 md l j i
def idleL (md:Region.Mode) (l:List Oper) (ls:Array Bool) (i:Nat):Bool:=(List.range l.length).all fun p=>!waits md l p i || !ls.getD p false
theorem wts_of {j i:Nat} (h:waits md l j i=true):Wts md l.toArray j i:=waits_spec h
theorem of_wts {j i:Nat} (h:Wts md l.toArray j i):waits md l j i=true:=by
 obtain ⟨ok,ho,e,he,hb,hon⟩:=h
 have ho':l[j]?=some ok:=by simpa using ho
 unfold waits
 rw [ho']
 exact Array.any_eq_true'.2 ⟨e,he,by rw [hb,hon]; simp⟩
theorem idleL_spec {ls:Array Bool} {i:Nat} (h:idleL md l ls i=true):∀ p,Wts md l.toArray p i->ls.getD p false=false:=fun p hp=>by
 have hlt:p<l.length:=by
  obtain ⟨ok,ho,_⟩:=hp
  have:=(Array.getElem?_eq_some_iff.1 ho).1
  simpa using this
 unfold idleL at h
 have h2:=List.all_eq_true.1 h p (List.mem_range.2 hlt)
 rw [of_wts hp] at h2
 simpa using h2
theorem waitsL_spec {i:Nat} (h:waitsL md l k i=true):(fun j=>decide (k<=j) && decide (j<l.length)) i=false/\∀ j,(fun j=>decide (k<=j) && decide (j<l.length)) j=true->Wts md l.toArray j i∨∃ p,Wts md l.toArray j p/\Wts md l.toArray p i:=by
 unfold waitsL at h
 simp only [Bool.and_eq_true,decide_eq_true_eq,List.all_eq_true] at h
 refine ⟨by simp only [Bool.and_eq_false_iff,decide_eq_false_iff_not]; left; omega,fun j hj=>?_⟩
 simp only [Bool.and_eq_true,decide_eq_true_eq] at hj
 have h2:=h.2 j (List.mem_range.2 hj.2)
 rw [decide_eq_true hj.1] at h2
 have h3:waits2 md l j i=true:=by simpa using h2
 unfold waits2 at h3
 rw [Bool.or_eq_true] at h3
 rcases h3 with h3 | h3
 ·exact .inl (wts_of h3)
 ·obtain ⟨p,_,hp⟩:=List.any_eq_true.1 h3
  rw [Bool.and_eq_true] at hp
  exact .inr ⟨p,wts_of hp.1,wts_of hp.2⟩
abbrev EndsK (P:Program) (md:Region.Mode) (l:List Oper) (Q:Exit->Act->World->Prop) (S:World->Prop) (k:Nat) (n:Nat) (ls:Array Bool) (a:Act) (w:World):Prop:=EndsL P md l.toArray Q S (fun j=>decide (k<=j) && decide (j<l.length)) n ls a w
theorem lt (i:Nat) {oi:Oper} {v:Value} {fuel:Nat} {listed:Array Bool} {a:Act} {w:World} (hi:l[i]?=some oi:=by rfl) (hs:Region.noSelect l.toArray=true:=by kernel_rfl) (hf:Region.free md l.toArray listed i=true:=by kernel_rfl)
  (hr:(Region.ready md l.toArray listed).contains i=true:=by kernel_rfl) (hk:waitsL md l k i=true:=by kernel_rfl) (hnl:idleL md l listed i=true:=by kernel_rfl) (hQ:∀ c a w,Q (.panic c) (a.put oi.dst v) w->Q (.panic c) a w:=by exact fun _ _ _ h=>h) (hw:Region.wanted oi (yielded l.toArray a.tmps)=true:=by rfl)
  (he:∀ w,S w->(execOp a.eval oi).run P w=.ok (.value v) w:=by (intro w hSw; (try go_frame); (try dsimp only at hSw); go_simp) <;> with_reducible rfl) (hS:S w:=by assumption) (h:EndsK P md l Q S k fuel (listed.setIfInBounds i true) (a.put oi.dst v) w):EndsK P md l Q S k (fuel+1) listed a w :=
 have hi':l.toArray[i]?=some oi:=by simpa using hi
 EndsL.take hi' (Region.noSelect_spec hs) hQ fuel listed a w (Region.free_spec hi' hf) (by simpa using hr) (waitsL_spec hk) (idleL_spec hnl) (.inl ⟨hw,he⟩) hS h
theorem lst (i:Nat) {oi:Oper} {fuel:Nat} {listed:Array Bool} {a:Act} {w:World} (hi:l[i]?=some oi:=by rfl) (hr:Region.ready md l.toArray listed=[i]:=by kernel_rfl)
  (h:∀ K':Act->World->Prop,Shut (∀ a w,S w->(S w->EndsK P md l Q S k fuel (listed.setIfInBounds i true) a w)->K' a w)->if Region.wanted oi (yielded l.toArray a.tmps)=true then Oper.wp P oi a w K' Q else K' (a.put oi.dst undef) w) :
  EndsK P md l Q S k (fuel+1) listed a w:=by
 refine ⟨fun h0=>(by rw [hr] at h0; cases h0),fun j hj=>?_⟩
 rw [hr] at hj
 obtain rfl:=List.mem_singleton.1 hj
 exact wpOp_step (by simpa using hi) (fun K' hK=>h K' (fun a w hS hW=>hK a w ⟨fun _=>hS,hW hS⟩))
theorem ll (i:Nat) {oi:Oper} {fuel:Nat} {listed:Array Bool} {a:Act} {w:World} (hi:l[i]?=some oi:=by rfl) (hr:Region.ready md l.toArray listed=[i]:=by kernel_rfl) (hk:(decide (k<=i) && decide (i<l.length))=true:=by kernel_rfl)
  (h:∀ K':Act->World->Prop,Shut (∀ a w,EndsK P md l Q S k fuel (listed.setIfInBounds i true) a w->K' a w)->if Region.wanted oi (yielded l.toArray a.tmps)=true then Oper.wp P oi a w K' Q else K' (a.put oi.dst undef) w) :
  EndsK P md l Q S k (fuel+1) listed a w:=by
 refine ⟨fun h0=>(by rw [hr] at h0; cases h0),fun j hj=>?_⟩
 rw [hr] at hj
 obtain rfl:=List.mem_singleton.1 hj
 exact wpOp_step (by simpa using hi) (fun K' hK=>h K' (fun a w hW=>hK a w ⟨fun e=>absurd (hk.symm.trans e) (by decide),hW⟩))
theorem ldone {listed:Array Bool} {a:Act} {w:World} (hr:Region.ready md l.toArray listed=[]) (h:Q .normal a w):∀ fuel,EndsK P md l Q S k fuel listed a w
 | 0=>⟨hr,h⟩
 | _+1=>⟨fun _=>h,by rw [hr]; simp⟩
theorem lbegin {id:Nat} {a:Act} {w:World} (k:Nat) (S:World->Prop) (hm:P.follows .mixedOrders=true) (hS:S w.drew)
  (h:S w.drew->EndsK P .any l Q S k l.toArray.size (Array.replicate l.toArray.size false) a w.drew):(Code.region id l.toArray true).wp P Q a w :=
 wp_region_any hm (EndsL.any _ _ _ _ (h hS))
end
theorem reducedN_any (w:World) (v v':Value) (z:Int) (y L:Nat) (h:Rint w v z L) (h':Rint w v' (-(y:Int)) L) (hy:0<y) (hL:L<=33554432) :
  Calls Tryz.prog 119 #[v,v'] w (RatPost w (mkRat (-z) y)):=by
 have HSg:=bH (fun W (hW:XF w W)=>isign_any W v' _ L (h'.keep hW) (by omega))
 rw [show (-(y:Int)).sign = -1 from Int.sign_eq_neg_one_of_neg (by omega)] at HSg
 have HN1:=bH (fun W (hW:XF w W)=>ineg_any W v z L (h.keep hW) (by omega))
 have HN2:=bH (fun W (hW:XF w W)=>ineg_any W v' _ L (h'.keep hW) (by omega))
 rw [Int.neg_neg] at HN2
 obtain ⟨hq1,hq2⟩:=red_num (z:=-z) hy
 have hzl:(dg (-z).natAbs).length<=L:=by rw [Int.natAbs_neg]; exact h.len
 have hyl:(dg y).length<=L:=by have:=h'.len; rwa [Int.natAbs_neg,Int.natAbs_natCast] at this
 have hg:0<Nat.gcd (-z).natAbs y:=Nat.gcd_pos_of_pos_right _ hy
 have hgl:(dg (Nat.gcd (-z).natAbs y)).length<=L:=Nat.le_trans (dg_mono (Nat.gcd_le_right _ hy)) hyl
 have HQ1:=bH (fun W u (hu0:IsInt W u (-z)) ao n c (hu:IsNat W (.slice ao n c) (Nat.gcd (-z).natAbs y))=>quo_any W u (.agg #[.bool false,.slice ao n c]) (-z) ((Nat.gcd (-z).natAbs y:Nat):Int) L (hu0.reads hzl) ⟨false,_,_,rfl,hu,hgl,by rw [vl_dg]; rfl⟩ (by omega) hL)
 have HQ2:=bH (fun W u (hu0:IsInt W u (y:Int)) ao n c (hu:IsNat W (.slice ao n c) (Nat.gcd (-z).natAbs y))=>quo_any W u (.agg #[.bool false,.slice ao n c]) y ((Nat.gcd (-z).natAbs y:Nat):Int) L (hu0.reads (by rw [Int.natAbs_natCast]; exact hyl)) ⟨false,_,_,rfl,hu,hgl,by rw [vl_dg]; rfl⟩ (by omega) hL)
 unfold QuoPost at HQ1 HQ2
 simp only [hq1,hq2] at HQ1 HQ2
 have hdl:(dg (mkRat (-z) y).den).length<=L:=by
  have:(mkRat (-z) y).den<=y:=by
   have e:=hq2
   rw [tdiv_nat] at e
   have:=Nat.div_le_self y (Nat.gcd (-z).natAbs y)
   omega
  exact Nat.le_trans (dg_mono this) hyl
 have HC:=bH (fun W u u' (h1:IsNat W u (mkRat (-z) y).den) (h2:IsNat W u' 1)=>cmp_any W u u' _ _ h1 h2 (by omega) (Nat.le_trans (dg_two (n:=1) (by decide)).1 (by decide)))
 simp only [vl_dg] at HC
 have hF:∀ W,Calls Tryz.prog 160 #[.int .u64 1] W (NatPost W 1):=fun W=>from_any W 1 (by decide)
 have HF:=bH hF
 clear hF
 obtain ⟨neg,ao,m,c,l,rfl,-,-,-⟩:=h.open
 obtain ⟨neg',ao',m',c',l',rfl,-,-,-⟩:=h'.open
 have HG:=bH (fun W u u' (h1:IsNat W u (-z).natAbs) (h2:IsNat W u' y)=>gcd_any W u u' _ _ h1 h2 (by omega) (by omega))
 simp only [vl_dg] at HG
 clear hq1 hq2 hg hgl hdl h h' hzl hyl
 generalize Nat.gcd (-z).natAbs y=g at *
 generalize mkRat (-z) y=q at *
 go_enter Tryz.func119,Tryz.ntmps119
 go_upto_region 0 with fail
 go_cut [2,3,4] (fun v1 v2 v3 wx=>∃ b b' r,v1=.pointer (some ⟨b,0,none⟩)/\v2=.pointer (some ⟨b',0,none⟩)/\v3=.pointer (some ⟨r,0,none⟩)/\BoxI wx b neg (.slice ao m c)/\BoxI wx b' neg' (.slice ao' m' c')/\BoxR wx r false (.slice none 0 0) (.slice none 0 0)/\w.heap.size<=b/\b<b'/\b'<r/\XF w wx)
 case first =>
  go_wp2
  go_meet
  exact ⟨_,_,_,rfl,rfl,rfl,((boxI_new rfl neg ao m c).alloc _).alloc _,(boxI_new (by simp) neg' ao' m' c').alloc _,boxR_new (by simp) false none 0 0 none 0 0,(by omega),(by simp),(by simp),(((Ext.refl _ w).alloc _).alloc _).alloc _⟩
 case rest =>
  obtain ⟨b,b',r,rfl,rfl,rfl,hb,hb',hrb,hlb,hbb,hbr,hx⟩:=hcut
  have hle:w.heap.size<=r:=by omega
  have hne:b≠b'/\b≠r/\b'≠r:=by omega
  obtain ⟨e0,e1,_⟩:=hb'.facts
  have HB:=bH (bI hb (bI hb' (bI hrb hx)))
  clear hb hb' hrb hx
  go_wp2_with fail
  refine (HSg.out _ HB.out.2.2.2).mono ?_
  rintro r1 w1 ⟨rfl,hx1⟩
  obtain ⟨x0,x1,_⟩:=(HB.out.1.ext hx1 id).facts
  obtain ⟨y0,y1,_⟩:=(HB.out.2.1.ext hx1 id).facts
  replace HN1:=bH (fun W (hW:XF w1 W)=>HN1.out W ((HB.out.2.2.2.trans hx1).trans hW))
  replace HN2:=bH (fun W (hW:XF w1 W)=>HN2.out W ((HB.out.2.2.2.trans hx1).trans hW))
  clear e0 e1
  go_upto_region 2 with fail
  replace x0:=cq x0
  replace x1:=cq x1
  replace y0:=cq y0
  replace y1:=cq y1
  refine lbegin 4 (XF w1) (by kernel_rfl) ((Ext.refl _ w1).drew) (fun hHeld=>?_)
  refine lt 0 (h:=(lt 2 (h:=?_)))
  (try go_frame)
  refine lst 1 (h:=fun K hK=>?_)
  (go_simp; go_at_call 120; (with_reducible refine (HN1.out _ hHeld).mono ?_); rintro q1 w11 ⟨v11,rfl,h11,hx11⟩; have hX1:=hHeld.trans hx11; obtain ⟨n11,a11,l11,c11,rfl⟩:=h11.shape)
  refine hK.out _ _ (hX1) (fun hHeld=>?_)
  clear hK K
  (try go_frame)
  refine lst 3 (h:=fun K hK=>?_)
  (go_simp; go_at_call 120; (with_reducible refine (HN2.out _ hX1).mono ?_); rintro q2 w12 ⟨v12,rfl,h12,hx12⟩; have hX2:=hX1.trans hx12; obtain ⟨n12,a12,l12,c12,rfl⟩:=h12.shape)
  refine hK.out _ _ (hX2) (fun hHeld=>?_)
  clear hK K
  (try go_frame)
  have hb2:=HB.out.1.ext (hx1.trans hX2) id
  have hb2':=HB.out.2.1.ext (hx1.trans hX2) id
  obtain ⟨d0,d1,d2,d3⟩:=hb2.facts
  obtain ⟨f0,f1,f2,f3⟩:=hb2'.facts
  refine ll 4 (h:=fun K hK=>?_)
  go_simp
  refine hK.out _ _ ?_
  clear hK K
  (try go_frame)
  refine ll 5 (h:=fun K hK=>?_)
  go_simp
  refine hK.out _ _ ?_
  clear hK K
  (try go_frame)
  refine ldone (by kernel_rfl) ?_ _
  have hp1:=hb2.put (neg:=n11) (no_int a11 l11 c11)
  have hp2:=(hb2'.ext hp1.ext (fun e=>hne.1 e.symm)).put (neg:=n12) (no_int a12 l12 c12)
  have hi1:=hp2.int (hp1.int (h11.keep hx12))
  have hi2:=hp2.int (hp1.int h12)
  have HZ:=bH (bI (hp1.box.ext hp2.ext hne.1) (bI hp2.box (bI (((HB.out.2.2.1.ext (hx1.trans hX2) id).ext hp1.ext (fun e=>hne.2.1 e.symm)).ext hp2.ext (fun e=>hne.2.2 e.symm)) (((HB.out.2.2.2.trans (hx1.trans hX2)).own hp1.ext (fun k e=>by omega)).own hp2.ext (fun k e=>by omega)))))
  have HI:=bH (bI hi1 hi2)
  clear hp1 hp2 hi1 hi2 hb2 hb2' d0 d1 d2 d3 f0 f1 f2 f3 h11 h12 hx11 hx12 hX1 hX2 hx1 x0 x1 y0 y1 hHeld HN1 HN2 HB
  go_upto_region 3 with fail
  generalize (((w12.setCell ⟨b,0,none⟩ (.bool n11)).setCell ⟨b,1,none⟩ (.slice a11 l11 c11)).setCell ⟨b',0,none⟩ (.bool n12)).setCell ⟨b',1,none⟩ (.slice a12 l12 c12)=w1z at *
  have hm1:IsNat w1z (.slice a11 l11 c11) (-z).natAbs:=by
   obtain ⟨m0,h1,h2⟩:=HI.out.1
   cases h1
   exact h2
  have hm2:IsNat w1z (.slice a12 l12 c12) y:=by
   obtain ⟨m0,h1,h2⟩:=HI.out.2
   cases h1
   rw [Int.natAbs_natCast] at h2
   exact h2
  have HX1:=bH (Ext.refl (fun _=>False) w1z)
  obtain ⟨c10,c11',_⟩:=HZ.out.1.facts
  obtain ⟨e10,e11,_⟩:=HZ.out.2.1.facts
  have HG1:=bH (HG.out w1z _ _ hm1 hm2)
  clear hm1 hm2
  go_wp2_with fail
  refine HG1.out.mono ?_
  rintro r2 w2 ⟨vg,rfl,hg2,hx2⟩
  obtain ⟨aog,cg,rfl⟩:=hg2.shape
  generalize (dg g).length=ng at *
  clear c10 c11' e10 e11 HG1
  have hbg:=boxI_new (W:=w2) rfl false aog ng cg
  have hx23:=(Ext.refl (fun _=>False) w2).alloc (.cells #[.bool false,.slice aog ng cg] 29)
  have hX3:=(HX1.out.trans hx2).trans hx23
  go_upto_region 4 with fail
  obtain ⟨bg,hbge⟩:∃ bg,w2.heap.size=bg:=⟨_,rfl⟩
  rw [hbge] at hbg ⊢
  generalize w2.alloc (.cells #[.bool false,.slice aog ng cg] 29)=w3 at *
  obtain ⟨c0,c1,_⟩:=(HZ.out.1.ext hX3 id).facts
  obtain ⟨g0,g1,_⟩:=hbg.facts
  have HQ13:=bH (HQ1.out w3 _ (HI.out.1.keep hX3) aog ng cg (hg2.keep hx23))
  have HX3:=bH (bI hX3 (bI hbg (hg2.keep hx23)))
  clear hg2 hx2 hX3 hbg hx23 hbge HX1
  go_wp2_with fail
  refine HQ13.out.mono ?_
  rintro r4 w4 ⟨vn,vs,rfl,hn4,hs4,hx4⟩
  obtain ⟨nn,aon,mn,cn,rfl⟩:=hn4.shape
  obtain ⟨ns,aos,ms,cs,rfl⟩:=hs4.shape
  have hX4:=HX3.out.1.trans hx4
  clear c0 c1 g0 g1
  go_upto_region 5 with fail
  obtain ⟨bn,hbne⟩:∃ bn,w4.heap.size=bn:=⟨_,rfl⟩
  have hbn:=(boxI_new (W:=w4) rfl nn aon mn cn).alloc (.cells #[.bool ns,.slice aos ms cs] 29)
  have hx45:=((Ext.refl (fun _=>False) w4).alloc (.cells #[.bool nn,.slice aon mn cn] 29)).alloc (.cells #[.bool ns,.slice aos ms cs] 29)
  rw [hbne] at hbn ⊢
  generalize (w4.alloc (.cells #[.bool nn,.slice aon mn cn] 29)).alloc (.cells #[.bool ns,.slice aos ms cs] 29)=w5 at *
  have hX5:=hX4.trans hx45
  obtain ⟨e0,e1,_⟩:=(HZ.out.2.1.ext hX5 id).facts
  obtain ⟨g0,g1,_⟩:=(HX3.out.2.1.ext (hx4.trans hx45) id).facts
  have HQ25:=bH (HQ2.out w5 _ (HI.out.2.keep hX5) aog ng cg (HX3.out.2.2.keep (hx4.trans hx45)))
  have HX5:=bH (bI hX5 (bI (hn4.keep hx45) hbn))
  clear hX4 hx4 hX5 hx45 hbn hn4 hs4 hbne
  go_wp2_with fail
  refine HQ25.out.mono ?_
  rintro r6 w6 ⟨vd,vt,rfl,hd6,ht6,hx6⟩
  obtain ⟨nd,aod,md,cd,rfl⟩:=hd6.shape
  obtain ⟨nt,aot,mt,ct,rfl⟩:=ht6.shape
  have hX6:=HX5.out.1.trans hx6
  clear e0 e1 g0 g1
  go_upto_region 6 with fail
  obtain ⟨bd,hbde⟩:∃ bd,w6.heap.size=bd:=⟨_,rfl⟩
  have hbd:=(boxI_new (W:=w6) rfl nd aod md cd).alloc (.cells #[.bool nt,.slice aot mt ct] 29)
  have hx67:=((Ext.refl (fun _=>False) w6).alloc (.cells #[.bool nd,.slice aod md cd] 29)).alloc (.cells #[.bool nt,.slice aot mt ct] 29)
  rw [hbde] at hbd ⊢
  generalize (w6.alloc (.cells #[.bool nd,.slice aod md cd] 29)).alloc (.cells #[.bool nt,.slice aot mt ct] 29)=w7 at *
  have hX7:=hX6.trans hx67
  have hnd:IsNat w7 (.slice aod md cd) q.den:=by
   obtain ⟨m0,h1,h2⟩:=hd6.keep hx67
   cases h1
   rw [Int.natAbs_natCast] at h2
   exact h2
  have hS:S1 bd (.slice aod md cd) w7:=hbd.facts.2.1
  have HX7:=bH (bI hX7 (bI (HX5.out.2.1.keep (hx6.trans hx67)) (bI (HX5.out.2.2.ext (hx6.trans hx67) id) (bI hbd hnd))))
  clear hX6 hx6 hX7 hx67 hbd hd6 ht6 hbde hnd
  go_region_held3 (S1 bd (.slice aod md cd))
   (repeat (first | (with_reducible assumption) | (with_reducible refine S1.drew ?_)))
   (first
    | (go_at_call 160; (with_reducible refine (HF.out _).mono ?_); rintro r8 w8 ⟨v8,rfl,h8,hx8⟩; have hx78:=(Ext.refl (fun _=>False) w7).drew.trans hx8; have hK8:S1 bd (.slice aod md cd) w8:=(HX7.out.2.2.2.1.ext hx78 id).facts.2.1; have hC8:=HC.out w8 _ _ (HX7.out.2.2.2.2.keep hx78) h8)
    | (go_at_call 162; (with_reducible refine hC8.mono ?_); rintro r9 w' ⟨rfl,hw⟩; obtain rfl:=hw.symm))
  have hX8:=HX7.out.1.trans hx78
  have hr8:=HZ.out.2.2.1.ext hX8 id
  obtain ⟨d0,d1,d2,d3,d4,d5⟩:=hr8.facts
  obtain ⟨c0,c1,_⟩:=(HX7.out.2.2.1.ext hx78 id).facts
  have hn8:=HX7.out.2.1.keep hx78
  have hd8:=HX7.out.2.2.2.2.keep hx78
  have hXw:=HZ.out.2.2.2.trans hX8
  have hc1:=cmpN_one q.den
  generalize cmpN q.den 1=cq at *
  by_cases h1:q.den=1
  ·have hcq:=hc1.2 h1
   subst hcq
   have hp:=hr8.put (neg:=nn) (no_int aon mn cn) (no_int none 0 0)
   have hR0:IsRat w8 (.agg #[.bool nn,.slice aon mn cn,.slice none 0 0]) q:=IsRat.mk hn8 (by rw [h1]; exact IsNat.nil w8)
   have HR:=bH (bI (hp.rat hR0) (bI (hXw.own hp.ext (fun k e=>by omega)) hp.box))
   clear hp hR0 hn8 hd8 hr8 hXw hX8 hx8 hx78 h8 hC8 hK8 hS hc1 h1
   go_wp2
   generalize ((w8.setCell ⟨r,0,none⟩ (.bool nn)).setCell ⟨r,1,none⟩ (.slice aon mn cn)).setCell ⟨r,2,none⟩ (.slice none 0 0)=w9 at *
   obtain ⟨g0,g1,g2,_⟩:=HR.out.2.2.facts
   exact bodyPost_ret (v:=.agg #[.bool nn,.slice aon mn cn,.slice none 0 0]) (by simp [results,Tryz.results119,go_sem,g0,g1,g2]) rfl ⟨_,rfl,HR.out.1,HR.out.2.1⟩
  ·have hcq:¬ cq=0:=fun e=>h1 (hc1.1 e)
   have hp:=hr8.put (neg:=nn) (no_int aon mn cn) (no_int aod md cd)
   have hR0:IsRat w8 (.agg #[.bool nn,.slice aon mn cn,.slice aod md cd]) q:=IsRat.mk hn8 (by unfold dw; rw [if_neg h1]; exact hd8)
   have HR:=bH (bI (hp.rat hR0) (bI (hXw.own hp.ext (fun k e=>by omega)) hp.box))
   clear hp hR0 hn8 hd8 hr8 hXw hX8 hx8 hx78 h8 hC8 hS hc1 h1
   have hcb:(cq == 0)=false:=by simpa using hcq
   go_wp2
   generalize ((w8.setCell ⟨r,0,none⟩ (.bool nn)).setCell ⟨r,1,none⟩ (.slice aon mn cn)).setCell ⟨r,2,none⟩ (.slice aod md cd)=w9 at *
   obtain ⟨g0,g1,g2,_⟩:=HR.out.2.2.facts
   exact bodyPost_ret (v:=.agg #[.bool nn,.slice aon mn cn,.slice aod md cd]) (by simp [results,Tryz.results119,go_sem,g0,g1,g2]) rfl ⟨_,rfl,HR.out.1,HR.out.2.1⟩
theorem reducedQ_any (w:World) (v v':Value) (z y:Int) (L:Nat) (h:Rint w v z L) (h':Rint w v' y L) (hy:y≠0) (hL:L<=33554432) :
  Calls Tryz.prog 119 #[v,v'] w (RatPost w ((z:Rat) / (y:Rat))):=by
 by_cases hp:0<y
 ·obtain ⟨n,rfl⟩:∃ n:Nat,y=n:=⟨y.toNat,by omega⟩
  have:=reduced_any w v v' z n L h h' (by omega) hL
  rw [Rat.mkRat_eq_div] at this
  exact this
 ·obtain ⟨n,rfl⟩:∃ n:Nat,y = -(n:Int):=⟨(-y).toNat,by omega⟩
  have:=reducedN_any w v v' z n L h h' (by omega) hL
  rw [Rat.mkRat_eq_div] at this
  have e:((-z:Int):Rat) / ((n:Nat):Rat)=(z:Rat) / ((-(n:Int):Int):Rat):=by
   rw [Rat.intCast_neg,Rat.intCast_neg,Rat.intCast_natCast]
   grind
  rw [e] at this
  exact this
theorem divf_any (w:World) (p q r s:Value) (zp zq zr zs:Int) (L:Nat) (hp:Rint w p zp L) (hq:Rint w q zq L) (hr:Rint w r zr L) (hs:Rint w s zs L) (hL:L<=4194304) :
  Calls Tryz.prog 199 #[p,q,r,s] w (TwoInt w (zp*zs) (zq*zr)):=by
 have H1:=bH (fun W (hW:XF w W)=>imul_any W p s zp zs L (hp.keep hW) (hs.keep hW) (by omega))
 have H2:=bH (fun W (hW:XF w W)=>imul_any W q r zq zr L (hq.keep hW) (hr.keep hW) (by omega))
 obtain ⟨n1,a1,l1,c1,_,rfl,_,_,_⟩:=hp.open
 obtain ⟨n2,a2,l2,c2,_,rfl,_,_,_⟩:=hq.open
 obtain ⟨n3,a3,l3,c3,_,rfl,_,_,_⟩:=hr.open
 obtain ⟨n4,a4,l4,c4,_,rfl,_,_,_⟩:=hs.open
 clear hp hq hr hs
 unfold TwoInt
 generalize zp*zs=Z at *
 generalize zq*zr=Y at *
 go_enter Tryz.func199,Tryz.ntmps199
 go_upto_region 0 with fail
 go_cut [4,5,6,7,8,9] (fun v1 v2 v3 v4 v5 v6 wx=>∃ b1 b2 b3 b4 r1 r2,v1=.pointer (some ⟨b1,0,none⟩)/\v2=.pointer (some ⟨b2,0,none⟩)/\v3=.pointer (some ⟨b3,0,none⟩)/\v4=.pointer (some ⟨b4,0,none⟩)/\v5=.pointer (some ⟨r1,0,none⟩)/\v6=.pointer (some ⟨r2,0,none⟩)/\Box4 wx b1 b2 b3 b4 n1 n2 n3 n4 (.slice a1 l1 c1) (.slice a2 l2 c2) (.slice a3 l3 c3) (.slice a4 l4 c4)/\BoxI wx r1 false (.slice none 0 0)/\BoxI wx r2 false (.slice none 0 0)/\b1<r1/\b2<r1/\b3<r1/\b4<r1/\r1<r2/\w.heap.size<=r1/\XF w wx)
 case first =>
  go_wp2
  go_meet
  exact ⟨_,_,_,_,_,_,rfl,rfl,rfl,rfl,rfl,rfl,⟨(((((boxI_new rfl n1 a1 l1 c1).alloc _).alloc _).alloc _).alloc _).alloc _,((((boxI_new (by simp) n2 a2 l2 c2).alloc _).alloc _).alloc _).alloc _,(((boxI_new (by simp) n3 a3 l3 c3).alloc _).alloc _).alloc _,((boxI_new (by simp) n4 a4 l4 c4).alloc _).alloc _⟩,(boxI_new (by simp) false none 0 0).alloc _,boxI_new (by simp) false none 0 0,(by omega),(by omega),(by omega),(by omega),(by omega),(by omega),((((((Ext.refl _ w).alloc _).alloc _).alloc _).alloc _).alloc _).alloc _⟩
 case rest =>
  obtain ⟨b1,b2,b3,b4,r1,r2,rfl,rfl,rfl,rfl,rfl,rfl,hb,hr1,hr2,i1,i2,i3,i4,i5,hle,hx⟩:=hcut
  have hS:=hb.s
  have HB:=bH (bI hb (bI hr1 (bI hr2 hx)))
  clear hb hr1 hr2 hx
  go_upto_region 1 with fail
  go_region_held3 (SI4 b1 b2 b3 b4 n1 n2 n3 n4 (.slice a1 l1 c1) (.slice a2 l2 c2) (.slice a3 l3 c3) (.slice a4 l4 c4))
   (repeat (first | (with_reducible assumption) | (with_reducible refine SI4.drew ?_) | (with_reducible refine SI4.set ?_ _ _ ?_ ?_ ?_ ?_) | (dsimp only; omega)))
   (first
    | (go_at_call 101; (with_reducible refine (H1.out _ (HB.out.2.2.2.drew)).mono ?_); rintro q1 w11 ⟨v11,rfl,h11,hx11⟩; have hX1:=(Ext.refl (fun _=>False) wc).drew.trans hx11; have hK1:=(HB.out.1.keep hX1).s; obtain ⟨ng1,ag1,lg1,cg1,rfl⟩:=h11.shape)
    | (go_at_call 101; (with_reducible refine (H2.out _ (HB.out.2.2.2.trans hX1)).mono ?_); rintro q2 w12 ⟨v12,rfl,h12,hx12⟩; have hX2:=hX1.trans hx12; have hK2:=(HB.out.1.keep hX2).s; have hR1:=HB.out.2.1.ext hX2 id; have hR2:=HB.out.2.2.1.ext hX2 id; obtain ⟨d0,d1,d2,d3⟩:=hR1.facts; obtain ⟨f0,f1,f2,f3⟩:=hR2.facts; obtain ⟨ng2,ag2,lg2,cg2,rfl⟩:=h12.shape))
  have hp1:=hR1.put (neg:=ng1) (no_int ag1 lg1 cg1)
  have hp2:=(hR2.ext hp1.ext (fun e=>by omega)).put (neg:=ng2) (no_int ag2 lg2 cg2)
  have HR:=bH (bI (hp2.int (hp1.int (h11.keep hx12))) (bI (hp2.int (hp1.int h12)) (bI (((HB.out.2.2.2.trans hX2).own hp1.ext (fun k e=>by omega)).own hp2.ext (fun k e=>by omega)) (bI (hp1.box.ext hp2.ext (fun e=>by omega)) hp2.box))))
  clear hp1 hp2 hR1 hR2 hS d0 d1 d2 d3 f0 f1 f2 f3 h11 hx11 hX1 hK1 h12 hx12 hX2 hK2
  generalize (((w12.setCell ⟨r1,0,none⟩ (.bool ng1)).setCell ⟨r1,1,none⟩ (.slice ag1 lg1 cg1)).setCell ⟨r2,0,none⟩ (.bool ng2)).setCell ⟨r2,1,none⟩ (.slice ag2 lg2 cg2)=w20 at *
  obtain ⟨g0,g1,_⟩:=HR.out.2.2.2.1.facts
  obtain ⟨g2,g3,_⟩:=HR.out.2.2.2.2.facts
  go_wp2
  exact bodyPost_ret (v:=.tuple #[.agg #[.bool ng1,.slice ag1 lg1 cg1],.agg #[.bool ng2,.slice ag2 lg2 cg2]]) (by simp [results,Tryz.results199,go_sem,g0,g1,g2,g3]) rfl ⟨_,_,rfl,HR.out.1,HR.out.2.1,HR.out.2.2.1⟩
theorem cross_div (w:World) (v v':Value) (q q':Rat) (L:Nat) (h:Rrat w v q L) (h':Rrat w v' q' L) (h0:1<=L) (hL:L<=4194304) (hnz:q'≠0) :
  Calls Tryz.prog 117 #[v,v',.func (.func 199) #[] #[]] w (RatPost w (q / q')):=by
 obtain ⟨n1,a1,l1,c1,x1,y1,k1,l,d,rfl,hr,hd,hm,hdl,hq⟩:=h.open
 clear hm
 obtain ⟨n2,a2,l2,c2,x2,y2,k2,l',d',rfl,hr',hd',hm,hdl',hq'⟩:=h'.open
 clear hm
 have HD1:=bH (fun W (hW:XF w W)=>den_any W _ n1 a1 l1 c1 x1 y1 k1 d L rfl (hd.keep hW) hdl (by omega) h0)
 have HD2:=bH (fun W (hW:XF w W)=>den_any W _ n2 a2 l2 c2 x2 y2 k2 d' L rfl (hd'.keep hW) hdl' (by omega) h0)
 have HF:=bH (fun W (hW:XF w W) u u' hu hu'=>divf_any W _ u _ u' _ (dn (vl d):Nat) _ (dn (vl d'):Nat) L (hr.keep hW) hu (hr'.keep hW) hu' hL)
 have hd2p:=dn_pos (vl d')
 have hd1p:=dn_pos (vl d)
 have hs2:sg n2 (vl l')≠0:=fun e=>hnz (by rw [hq',e]; exact Rat.zero_mkRat _)
 have hdl1:(dg (((dn (vl d):Nat):Int)).natAbs).length<=L:=by rw [Int.natAbs_natCast]; exact dn_len hd hdl h0
 have hdl2:(dg (((dn (vl d'):Nat):Int)).natAbs).length<=L:=by rw [Int.natAbs_natCast]; exact dn_len hd' hdl' h0
 have hZl:(dg (sg n1 (vl l)*((dn (vl d'):Nat):Int)).natAbs).length<=L+L+1:=Nat.le_trans (len_mul hr.len hdl2) (by omega)
 have hYl:(dg (((dn (vl d):Nat):Int)*sg n2 (vl l')).natAbs).length<=L+L+1:=Nat.le_trans (len_mul hdl1 hr'.len) (by omega)
 have hY0:((dn (vl d):Nat):Int)*sg n2 (vl l')≠0:=Int.mul_ne_zero (by omega) hs2
 have HRd:=bH (fun W u u' (hu:IsInt W u (sg n1 (vl l)*((dn (vl d'):Nat):Int))) (hu':IsInt W u' (((dn (vl d):Nat):Int)*sg n2 (vl l')))=>reducedQ_any W u u' _ _ (L+L+1) (hu.reads hZl) (hu'.reads hYl) hY0 (by omega))
 have hres:(((sg n1 (vl l)*((dn (vl d'):Nat):Int):Int)):Rat) / (((((dn (vl d):Nat):Int)*sg n2 (vl l'):Int)):Rat)=q / q':=by
  rw [hq,hq',Rat.mkRat_eq_div,Rat.mkRat_eq_div,Rat.intCast_mul,Rat.intCast_mul,Rat.intCast_natCast,Rat.intCast_natCast]
  have e1:((dn (vl d):Nat):Rat)≠0:=fun e=>by have:=Rat.natCast_inj.1 (e.trans (by rfl:(0:Rat)=((0:Nat):Rat))); omega
  have e2:((dn (vl d'):Nat):Rat)≠0:=fun e=>by have:=Rat.natCast_inj.1 (e.trans (by rfl:(0:Rat)=((0:Nat):Rat))); omega
  have e3:((sg n2 (vl l'):Int):Rat)≠0:=fun e=>hs2 (Rat.intCast_inj.1 (e.trans Rat.intCast_zero.symm))
  have key:∀ (s1 d1 s2 d2:Rat),d1≠0->d2≠0->s2≠0->(s1*d2) / (d1*s2)=(s1 / d1) / (s2 / d2):=by
   intro s1 d1 s2 d2 h1 h2 h3
   grind
  exact key _ _ _ _ e1 e2 e3
 rw [hres] at HRd
 clear hr hr' hd hd' hdl hdl' hq hq' h h' hres hZl hYl hY0 hs2 hd1p hd2p hdl1 hdl2 hnz
 generalize q / q'=Q at *
 unfold TwoInt at HF
 generalize sg n1 (vl l)*((dn (vl d'):Nat):Int)=Z at *
 generalize ((dn (vl d):Nat):Int)*sg n2 (vl l')=Y at *
 generalize ((dn (vl d):Nat):Int)=D1 at *
 generalize ((dn (vl d'):Nat):Int)=D2 at *
 go_enter Tryz.func117,Tryz.ntmps117
 go_upto_region 0 with fail
 go_cut [3,4,6] (fun v1 v2 v3 wx=>∃ b1 b2 r,v1=.pointer (some ⟨b1,0,none⟩)/\v2=.pointer (some ⟨b2,0,none⟩)/\v3=.pointer (some ⟨r,0,none⟩)/\BoxR wx b1 n1 (.slice a1 l1 c1) (.slice x1 y1 k1)/\BoxR wx b2 n2 (.slice a2 l2 c2) (.slice x2 y2 k2)/\BoxR wx r false (.slice none 0 0) (.slice none 0 0)/\b1<r/\b2<r/\w.heap.size<=r/\XF w wx)
 case first =>
  go_wp2
  go_meet
  exact ⟨_,_,_,rfl,rfl,rfl,((boxR_new rfl n1 a1 l1 c1 x1 y1 k1).alloc _).alloc _,(boxR_new (by simp) n2 a2 l2 c2 x2 y2 k2).alloc _,boxR_new (by simp) false none 0 0 none 0 0,(by omega),(by omega),(by omega),(((Ext.refl _ w).alloc _).alloc _).alloc _⟩
 case rest =>
  obtain ⟨b1,b2,r,rfl,rfl,rfl,hb1,hb2,hrb,i1,i2,hle,hx⟩:=hcut
  have hS:=SR2.of hb1 hb2
  have HB:=bH (bI hb1 (bI hb2 (bI hrb hx)))
  clear hb1 hb2 hrb hx
  go_upto_region 1 with fail
  go_region_held3 (SR2 b1 b2 n1 n2 (.slice a1 l1 c1) (.slice x1 y1 k1) (.slice a2 l2 c2) (.slice x2 y2 k2))
   (repeat (first | (with_reducible assumption) | (with_reducible refine SR2.drew ?_) | (with_reducible refine SR2.set ?_ _ _ ?_ ?_) | (dsimp only; omega)))
   (first
    | (go_at_call 102; (with_reducible refine (HD1.out _ HB.out.2.2.2.drew).mono ?_); rintro q1 w11 ⟨v11,rfl,h11,hx11⟩; have hX1:=(Ext.refl (fun _=>False) wc).drew.trans hx11; have hK1:=SR2.of (HB.out.1.ext hX1 id) (HB.out.2.1.ext hX1 id); obtain ⟨ng1,ag1,lg1,cg1,rfl⟩:=h11.shape)
    | (go_at_call 102; (with_reducible refine (HD2.out _ (HB.out.2.2.2.trans hX1)).mono ?_); rintro q2 w12 ⟨v12,rfl,h12,hx12⟩; have hX2:=hX1.trans hx12; have hK2:=SR2.of (HB.out.1.ext hX2 id) (HB.out.2.1.ext hX2 id); have hF:=HF.out w12 (HB.out.2.2.2.trans hX2) _ _ (h11.keep hx12) h12; obtain ⟨ng2,ag2,lg2,cg2,rfl⟩:=h12.shape)
    | (go_at_call 199; (with_reducible refine hF.mono ?_); rintro q3 w13 ⟨va,vb,rfl,ha,hb,hx13⟩; have hX3:=hX2.trans hx13; have hK3:=SR2.of (HB.out.1.ext hX3 id) (HB.out.2.1.ext hX3 id); have hR:=HRd.out w13 _ _ ha hb; obtain ⟨ng3,ag3,lg3,cg3,rfl⟩:=ha.shape; obtain ⟨ng4,ag4,lg4,cg4,rfl⟩:=hb.shape)
    | (go_at_call 119; (with_reducible refine hR.mono ?_); rintro q4 w14 ⟨v14,rfl,h14,hx14⟩; have hX4:=hX3.trans hx14; have hK4:=SR2.of (HB.out.1.ext hX4 id) (HB.out.2.1.ext hX4 id); have hr4:=HB.out.2.2.1.ext hX4 id; obtain ⟨d0,d1,d2,d3,d4,d5⟩:=hr4.facts; obtain ⟨ng,sa,sn,sc,ta,tn,tc,rfl⟩:=h14.shape))
  have hp:=hr4.put (neg:=ng) (no_int sa sn sc) (no_int ta tn tc)
  have HR:=bH (bI (hp.rat h14) (bI ((HB.out.2.2.2.trans hX4).own hp.ext (fun k e=>by omega)) hp.box))
  clear hp hr4 h11 h12 ha hb h14 hx11 hx12 hx13 hx14 hX1 hX2 hX3 hX4 hK1 hK2 hK3 hK4 hS hF hR d0 d1 d2 d3 d4 d5
  generalize ((w14.setCell ⟨r,0,none⟩ (.bool ng)).setCell ⟨r,1,none⟩ (.slice sa sn sc)).setCell ⟨r,2,none⟩ (.slice ta tn tc)=w20 at *
  obtain ⟨g0,g1,g2,_⟩:=HR.out.2.2.facts
  go_wp2
  exact bodyPost_ret (v:=.agg #[.bool ng,.slice sa sn sc,.slice ta tn tc]) (by simp [results,Tryz.results117,go_sem,g0,g1,g2]) rfl ⟨_,rfl,HR.out.1,HR.out.2.1⟩
def QtPost (w:World) (q:Rat) (r:Ending) (w':World):Prop:=∃ v,r=.returned (.tuple #[v,.int .i64 0])/\IsRat w' v q/\XF w w'
theorem rdiv_any (w:World) (v v':Value) (q q':Rat) (L:Nat) (h:Rrat w v q L) (h':Rrat w v' q' L) (h0:1<=L) (hL:L<=4194304) (hnz:q'≠0) :
  Calls Tryz.prog 176 #[v,v'] w (QtPost w (q / q')):=by
 have HC:=bH (fun W (hW:XF w W)=>cross_div W v v' q q' L (h.keep hW) (h'.keep hW) h0 hL hnz)
 have HS:=bH (fun W (hW:XF w W)=>rsign_any W v' q' L (h'.keep hW) (by omega))
 have hsg:q'.num.sign≠0:=fun e=>hnz (Rat.num_eq_zero.1 (Int.sign_eq_zero_iff_zero.1 e))
 obtain ⟨n1,a1,l1,c1,x1,y1,k1,l,d,rfl,-,-,-,-,-⟩:=h.open
 obtain ⟨n2,a2,l2,c2,x2,y2,k2,l',d',rfl,-,-,-,-,-⟩:=h'.open
 clear h h'
 generalize q'.num.sign=sg at *
 generalize q / q'=Q at *
 obtain ⟨b0,b1,b2,hx⟩:=box3 w (.cells #[.bool n1,.slice a1 l1 c1,.slice x1 y1 k1] 31) (.cells #[.bool n2,.slice a2 l2 c2,.slice x2 y2 k2] 31) (.cells #[.bool false,.slice none 0 0,.slice none 0 0] 31)
 have HB:=bH (bI (boxR_of b0) (bI (boxR_of b1) (bI (boxR_of b2) hx)))
 clear b0 b1 b2 hx
 go_enter Tryz.func176,Tryz.ntmps176
 go_upto_region 1 with fail
 generalize ((w.alloc (.cells #[.bool n1,.slice a1 l1 c1,.slice x1 y1 k1] 31)).alloc (.cells #[.bool n2,.slice a2 l2 c2,.slice x2 y2 k2] 31)).alloc (.cells #[.bool false,.slice none 0 0,.slice none 0 0] 31)=w1 at *
 obtain ⟨pb,hpb⟩:∃ pb,w.heap.size=pb:=⟨_,rfl⟩
 have hpw:w.heap.size<=pb:=Nat.le_of_eq hpb
 rw [hpb] at HB ⊢
 clear hpb
 obtain ⟨e0,e1,e2,-⟩:=HB.out.2.1.facts
 go_wp2_with fail
 refine (HS.out _ HB.out.2.2.2).mono ?_
 rintro r2 w2 ⟨rfl,hx2⟩
 have HB2:=bH (bI (HB.out.1.keep hx2) (bI (HB.out.2.1.keep hx2) (bI (HB.out.2.2.1.keep hx2) (HB.out.2.2.2.trans hx2))))
 clear hx2 e0 e1 e2 HB HS
 have hsb:(sg == 0)=false:=by simpa using hsg
 obtain ⟨c0,c1',c2',-⟩:=HB2.out.1.facts
 obtain ⟨e0,e1,e2,-⟩:=HB2.out.2.1.facts
 go_wp2_with fail
 refine (HC.out _ HB2.out.2.2.2).mono ?_
 rintro q4 w14 ⟨v14,rfl,h14,hx14⟩
 obtain ⟨ng,sa,sn,sc,ta,tn,tc,rfl⟩:=h14.shape
 have hr4:=HB2.out.2.2.1.keep hx14
 obtain ⟨d0,d1,d2,d3,d4,d5⟩:=hr4.facts
 have hp:=hr4.put (neg:=ng) (no_int sa sn sc) (no_int ta tn tc)
 have HR:=bH (bI (hp.rat h14) (bI ((HB2.out.2.2.2.trans hx14).own hp.ext (fun k e=>by omega)) hp.box))
 clear hp hr4 h14 hx14
 go_wp2
 generalize ((w14.setCell ⟨pb+1+1,0,none⟩ (.bool ng)).setCell ⟨pb+1+1,1,none⟩ (.slice sa sn sc)).setCell ⟨pb+1+1,2,none⟩ (.slice ta tn tc)=w20 at *
 obtain ⟨g0,g1,g2,_⟩:=HR.out.2.2.facts
 exact bodyPost_ret (v:=.tuple #[.agg #[.bool ng,.slice sa sn sc,.slice ta tn tc],.int .i64 0]) (by simp [results,Tryz.results176,go_sem,g0,g1,g2]) rfl ⟨_,rfl,HR.out.1,HR.out.2.1⟩
section
variable {b0 b1 b2 b3 b4 b5 b6 b7 b8 o0 o1 o2 o3 o4 o5 o6 o7 o8:Nat} {x0 x1 x2 x3 x4 x5 x6 x7 x8:Value} {W:World}
end
theorem sumTo_sz {g:Nat->Rat} {M:Nat}:∀ {n:Nat},(∀ i,i<n->Sz (g i) M)->Sz (sumTo n g) (1+n*(M+1))
 | 0,_=>Sz.zero.mono (by omega)
 | n+1,h=>by
  have e:1+n*(M+1)+M+1=1+(n+1)*(M+1):=by rw [Nat.succ_mul]; omega
  exact ((sumTo_sz (n:=n) (fun i hi=>h i (by omega))).add (h n (by omega))).mono (Nat.le_of_eq e)
def termA (r:RowV) (q:Rat) (j k:Nat):Rat:=if (r.t k).var=(j:Int) then ((r.t k).coef:Rat)*q else 0
def rowA (p:ProgV) (y:List Rat) (j i:Nat):Rat:=sumTo (p.r i).terms.length (termA (p.r i) (atQ y i) j)
theorem combA_eq (p:ProgV) (y:List Rat) (j:Nat):combA p y j=sumTo p.rows.length (rowA p y j):=rfl
theorem termA_sz {r:RowV} {q:Rat} {L:Nat} (hq:Sz q L) {k:Nat} (hk:TermOk (r.t k)) (j:Nat):Sz (termA r q j k) (L+2):=by
 unfold termA
 split
 ·exact ((Sz.int hk.coef).mul hq).mono (by omega)
 ·exact Sz.zero.mono (by omega)
theorem RArr.past {w w':World} {b n:Nat} {f:Nat->Rat} {S:Nat->Prop} (h:RArr w b n f) (hx:Ext S w w') (hb:¬ S b) (hr:∀ v l,Rds w v l->Rds w' v l):RArr w' b n f:=by
 obtain ⟨arr,h1,h2⟩:=h.row
 refine ⟨⟨arr,(hx.blk (blk_lt h1) hb).trans h1,h2⟩,fun i hi=>?_⟩
 obtain ⟨neg,a1,m1,c1,a2,m2,c2,e0,e1,e2,mag,dv',g1,g2,g3⟩:=h.cells i hi
 exact ⟨neg,a1,m1,c1,a2,m2,c2,(hx.cell (p:=⟨b,i*3,none⟩) h.lt hb).trans e0,(hx.cell (p:=⟨b,i*3+1,none⟩) h.lt hb).trans e1,(hx.cell (p:=⟨b,i*3+2,none⟩) h.lt hb).trans e2,mag,dv',g1,hr _ _ g2,hr _ _ g3⟩
def CombPost (w:World) (n:Nat) (f:Nat->Rat) (q:Rat) (r:Ending) (w':World):Prop:=∃ B v,r=.returned (.tuple #[.slice (some ⟨B,0,none⟩) n n,v])/\w.heap.size<=B/\RArr w' B n f/\IsRat w' v q/\XF w w'
def nv (k:Nat):Value:=.int .i64 (k:Int)
theorem nv_one (k:Nat):∀ u ∈ [Value.int .i64 (k:Int)],u.oneCell'=true:=fun u hu=>by
 rw [List.mem_singleton.1 hu]; rfl
def NOwn (w:World) (base:Nat) (v:Value) (l:List Nat):Prop:=w.ownsRow base 3 1 v l.length (l.map nv)
theorem nown_app {w:World} {base j k:Nat} {v:Value} {o:List Nat} (hlen:o.length=j) (h:w.ownsRow base 3 1 v (j+1) (o.map nv++[.int .i64 (k:Int)])):NOwn w base v (o++[k]):=by
 unfold NOwn
 rw [List.length_append,hlen,List.map_append]
 exact h
theorem NOwn.keep {w w':World} {base:Nat} {v:Value} {l:List Nat} (h:NOwn w base v l) (hx:XF w w'):NOwn w' base v l:=ownsRow_ext h hx (fun _ _ h=>h)
theorem NOwn.shape {w:World} {base:Nat} {v:Value} {l:List Nat} (h:NOwn w base v l):∃ ao cap,v=.slice ao l.length cap:=ownsRow_shape h
def NumsPost (w:World) (l:List Nat) (r:Ending) (w':World):Prop:=∃ v,r=.returned v/\NOwn w' w.heap.size v l/\XF w w'
theorem Tryz.infoInt:(Tryz.prog.info? 3).map (fun i=>(i.zero,i.size,i.bytes))=some (some (.int .i64 0),1,8):=by kernel_rfl
theorem Rats.take {w:World} {ao:Option Addr} {n c:Nat} {l:List Rat} {L:Nat} (h:Rats w (.slice ao n c) l L) (k:Nat) (hk:k<=n):Rats w (.slice ao k c) (l.take k) L:=by
 obtain ⟨cs,h0,⟨ao',c',e,h1,h2,h3,h4⟩,h5⟩:=h
 cases e
 refine ⟨cs.take k,by simp [h0],⟨ao,c,by rw [List.length_take,Nat.min_eq_left hk],by rw [List.length_take]; omega,h2,h3,fun hp=>?_⟩,fun i c' q hc hq=>?_⟩
 ·rw [List.length_take] at hp
  obtain ⟨b,off,e,hb,hc⟩:=h4 (by omega)
  refine ⟨b,off,e,hb,fun i r hi j u hu=>hc i r ?_ j u hu⟩
  rw [List.getElem?_take] at hi
  split at hi
  ·exact hi
  ·cases hi
 ·rw [List.getElem?_take] at hc hq
  split at hc
  ·rename_i hik
   rw [if_pos hik] at hq
   exact h5 i c' q hc hq
  ·cases hc
theorem dot_sz {ts:List TermV} {x:List Rat} {L T:Nat} (ht:∀ k,k<ts.length->TermOk (ts.getD k term0)) (hx:∀ i:Int,Sz (atQ x i) L) (hT:ts.length<=T):Sz (dotQ ts x) (1+T*(L+3)) :=
 (sumTo_sz (M:=L+2) (fun k hk=>((Sz.int (ht k hk).coef).mul (hx _)).mono (by omega))).mono (by
  have:=Nat.mul_le_mul_right (L+3) hT
  show 1+ts.length*(L+3)<=_
  omega)
theorem Rws.term_ok {p:ProgV} {w:World} {v:Value} (h:Rws w v p.rows) {i:Nat} (hi:i<p.rows.length):∀ k,k<(p.r i).terms.length->TermOk ((p.r i).t k):=fun k hk=>by
 obtain ⟨ao,c,rfl,_⟩:=h.shape
 obtain ⟨_,_,_,_,_,_,_,_,_,_,_,_,ht⟩:=h.atp i hi
 exact ht.ok k hk
theorem kind_sign {k:Int} {d b:Rat}:kindB k d b=if k=0 then !decide (0<(d - b).num.sign) else if k=1 then !decide ((d - b).num.sign<0) else decide ((d - b).num.sign=0):=by
 have h1:=sign_lt (d - b)
 have h2:=sign_gt (d - b)
 have h3:=sign_zero (d - b)
 unfold kindB
 split
 ·rw [<- decide_not]; exact decide_eq_decide.2 ⟨fun h h'=>by have:=h2.1 h'; grind,fun h=>Rat.not_lt.1 (fun h'=>h (h2.2 (by grind)))⟩
 ·split
  ·rw [<- decide_not]; exact decide_eq_decide.2 ⟨fun h h'=>by have:=h1.1 h'; grind,fun h=>Rat.not_lt.1 (fun h'=>h (h1.2 (by grind)))⟩
  ·exact decide_eq_decide.2 ⟨fun h=>h3.2 (by grind),fun h=>by have:=h3.1 h; grind⟩
end Go.Proofs.YtbgienfcmdgaaaaGreat
namespace Go.Proofs
open Go.Shelf
def Tryz.laysGw17_ren:Go.Shelf.Ren:=⟨fun | 17=>157 | 15=>188 | 20=>204 | n=>n,fun | 9=>9 | 23=>158 | 4=>4 | 3=>3 | 0=>0 | 21=>21 | n=>n,fun | n=>n⟩
theorem Tryz.laysGw17:Go.Proofs.LaysGw.n17 Tryz.prog Tryz.laysGw17_ren:={
 mixed:=by kernel_rfl
 f15:=Tryz.func188.trans (congrArg some (by kernel_rfl))
 f17:=Tryz.func157.trans (congrArg some (by kernel_rfl))
 f20:=Tryz.func204.trans (congrArg some (by kernel_rfl))
 t0:=Tryz.underlying0
 a0:=Tryz.isAgg0
 z0:=Tryz.sizeOf0
 v0:=Tryz.zeroValue0
 i0:=by kernel_rfl
 t3:=Tryz.underlying3
 a3:=Tryz.isAgg3
 z3:=Tryz.sizeOf3
 v3:=Tryz.zeroValue3
 i3:=by kernel_rfl
 t4:=Tryz.underlying4
 a4:=Tryz.isAgg4
 z4:=Tryz.sizeOf4
 v4:=Tryz.zeroValue4
 i4:=by kernel_rfl
 t9:=Tryz.underlying9
 a9:=Tryz.isAgg9
 z9:=Tryz.sizeOf9
 v9:=Tryz.zeroValue9
 i9:=by kernel_rfl
 t21:=Tryz.underlying21
 a21:=Tryz.isAgg21
 z21:=Tryz.sizeOf21
 v21:=Tryz.zeroValue21
 i21:=by kernel_rfl
 t23:=Tryz.underlying158
 a23:=Tryz.isAgg158
 z23:=Tryz.sizeOf158
 v23:=Tryz.zeroValue158
 i23:=by kernel_rfl }
open Go.RowKit Go.Lib in
theorem Tryz.strings_ContainsFunc (g:Nat) (lb:Array Value) (eg:∀ args w,(callFunc g args).run Tryz.prog w=.ok (.enter g args) w) (p:Nat->Bool) (s:ByteArray) (w:World) (hp:PredAt Tryz.prog g lb encR p w) :
  Calls Tryz.prog 157 #[.string s,.func (.func g) #[] lb] w fun e w'=>e=.returned (.bool (decide (0<=Lib.idxFunc p true s)))/\Below w.heap.size w w':=Any.strings_ContainsFunc Tryz.laysGw17 g lb eg p s w hp
def Tryz.laysSlH8_f154_ren:Go.Shelf.Ren:=⟨fun | 8=>154 | 6=>187 | n=>n,fun | 22=>82 | 23=>2 | 25=>98 | 4=>4 | 3=>3 | 0=>0 | n=>n,fun | n=>n⟩
theorem Tryz.laysSlH8_f154:Go.Proofs.SlLaysH.n8 Tryz.prog Tryz.laysSlH8_f154_ren:={
 mixed:=by kernel_rfl
 f6:=⟨Tryz.f187.name,by decide,Tryz.func187.trans (congrArg some (by kernel_rfl))⟩
 f8:=⟨Tryz.f154.name,by decide,Tryz.func154.trans (congrArg some (by kernel_rfl))⟩
 t0:=Tryz.underlying0
 a0:=Tryz.isAgg0
 z0:=Tryz.sizeOf0
 v0:=Tryz.zeroValue0
 t3:=Tryz.underlying3
 a3:=Tryz.isAgg3
 z3:=Tryz.sizeOf3
 v3:=Tryz.zeroValue3
 t4:=Tryz.underlying4
 a4:=Tryz.isAgg4
 z4:=Tryz.sizeOf4
 v4:=Tryz.zeroValue4
 t22:=Tryz.underlying82
 a22:=Tryz.isAgg82
 z22:=Tryz.sizeOf82
 v22:=Tryz.zeroValue82
 a23:=Tryz.isAgg2
 z23:=Tryz.sizeOf2
 t25:=Tryz.underlying98
 a25:=Tryz.isAgg98
 z25:=Tryz.sizeOf98
 v25:=Tryz.zeroValue98 }
open Go.RowKit Go.Lib in
theorem Tryz.slices_ContainsFunc {α:Type} [Inhabited α] (enc:α->Value) (p:α->Bool) (g:Nat) (lb:Array Value) (eg:∀ args w,(callFunc g args).run Tryz.prog w=.ok (.enter g args) w) (b off n c:Nat) (zs:List α) (w:World) (hp:PredAt Tryz.prog g lb enc p w) (hz:n<=zs.length) (hbig:n<=9223372036854775807) (hc:∀ j,j<zs.length->w.cell? ⟨b,off+j,none⟩=some (enc zs[j]!)) :
  Calls Tryz.prog 154 #[.slice (some ⟨b,off,none⟩) n c,.func (.func g) #[] lb] w fun e w'=>e=.returned (.bool ((zs.take n).any p))/\∃ q,w'=w.drewN q:=AnyE.slices_ContainsFunc Tryz.laysSlH8_f154 enc p g lb eg b off n c zs w hp hz hbig hc
def Tryz.laysRow8_ren:Go.Shelf.Ren:=⟨fun | 8=>107 | 6=>156 | n=>n,fun | 22=>23 | 23=>58 | 25=>119 | 4=>4 | 3=>3 | 0=>0 | n=>n,fun | n=>n⟩
theorem Tryz.laysRow8:Go.Proofs.SlLaysH0.n8 Tryz.prog Tryz.laysRow8_ren:={
 mixed:=by kernel_rfl
 f6:=⟨Tryz.f156.name,by decide,Tryz.func156.trans (congrArg some (by kernel_rfl))⟩
 f8:=⟨Tryz.f107.name,by decide,Tryz.func107.trans (congrArg some (by kernel_rfl))⟩
 t0:=Tryz.underlying0
 a0:=Tryz.isAgg0
 z0:=Tryz.sizeOf0
 v0:=Tryz.zeroValue0
 t3:=Tryz.underlying3
 a3:=Tryz.isAgg3
 z3:=Tryz.sizeOf3
 v3:=Tryz.zeroValue3
 t4:=Tryz.underlying4
 a4:=Tryz.isAgg4
 z4:=Tryz.sizeOf4
 v4:=Tryz.zeroValue4
 t22:=Tryz.underlying23
 a22:=Tryz.isAgg23
 z22:=Tryz.sizeOf23
 v22:=Tryz.zeroValue23
 t25:=Tryz.underlying119
 a25:=Tryz.isAgg119
 z25:=Tryz.sizeOf119
 v25:=Tryz.zeroValue119 }
def Tryz.laysVar8_ren:Go.Shelf.Ren:=⟨fun | 8=>83 | 6=>134 | n=>n,fun | 22=>22 | 23=>63 | 25=>101 | 4=>4 | 3=>3 | 0=>0 | n=>n,fun | n=>n⟩
theorem Tryz.laysVar8:Go.Proofs.SlLaysH0.n8 Tryz.prog Tryz.laysVar8_ren:={
 mixed:=by kernel_rfl
 f6:=⟨Tryz.f134.name,by decide,Tryz.func134.trans (congrArg some (by kernel_rfl))⟩
 f8:=⟨Tryz.f83.name,by decide,Tryz.func83.trans (congrArg some (by kernel_rfl))⟩
 t0:=Tryz.underlying0
 a0:=Tryz.isAgg0
 z0:=Tryz.sizeOf0
 v0:=Tryz.zeroValue0
 t3:=Tryz.underlying3
 a3:=Tryz.isAgg3
 z3:=Tryz.sizeOf3
 v3:=Tryz.zeroValue3
 t4:=Tryz.underlying4
 a4:=Tryz.isAgg4
 z4:=Tryz.sizeOf4
 v4:=Tryz.zeroValue4
 t22:=Tryz.underlying22
 a22:=Tryz.isAgg22
 z22:=Tryz.sizeOf22
 v22:=Tryz.zeroValue22
 t25:=Tryz.underlying101
 a25:=Tryz.isAgg101
 z25:=Tryz.sizeOf101
 v25:=Tryz.zeroValue101 }
def Tryz.laysRat8_ren:Go.Shelf.Ren:=⟨fun | 8=>170 | 6=>198 | n=>n,fun | 22=>32 | 23=>31 | 25=>106 | 4=>4 | 3=>3 | 0=>0 | n=>n,fun | n=>n⟩
theorem Tryz.laysRat8:Go.Proofs.SlLaysH0.n8 Tryz.prog Tryz.laysRat8_ren:={
 mixed:=by kernel_rfl
 f6:=⟨Tryz.f198.name,by decide,Tryz.func198.trans (congrArg some (by kernel_rfl))⟩
 f8:=⟨Tryz.f170.name,by decide,Tryz.func170.trans (congrArg some (by kernel_rfl))⟩
 t0:=Tryz.underlying0
 a0:=Tryz.isAgg0
 z0:=Tryz.sizeOf0
 v0:=Tryz.zeroValue0
 t3:=Tryz.underlying3
 a3:=Tryz.isAgg3
 z3:=Tryz.sizeOf3
 v3:=Tryz.zeroValue3
 t4:=Tryz.underlying4
 a4:=Tryz.isAgg4
 z4:=Tryz.sizeOf4
 v4:=Tryz.zeroValue4
 t22:=Tryz.underlying32
 a22:=Tryz.isAgg32
 z22:=Tryz.sizeOf32
 v22:=Tryz.zeroValue32
 t25:=Tryz.underlying106
 a25:=Tryz.isAgg106
 z25:=Tryz.sizeOf106
 v25:=Tryz.zeroValue106 }
end Go.Proofs
namespace Go.Proofs.YtbgienfcmdgaaaaGreat
open Go.RowKit Go.MapKept
open Go.ChangeMaps (setBlock)
open Go.RowKit Go.MapKept Go.Lib
theorem Below.ext {w w':World} (h:Below w.heap.size w w'):XF w w':=⟨h.os,h.tape,h.output,h.size,fun k hk _=>h.block k hk⟩
theorem limited1_pred (w:World):PredAt Tryz.prog 155 #[] (fun z:Int=>Value.int .i64 z) (fun z=>!limB z) w:=fun W z _=>by
 unfold FnGives limB
 by_cases h1:z < -1099511627776
 ·go_enter Tryz.func155,Tryz.ntmps155
  go_wp2
  go_ret
  exact ⟨ret_bool (by first | rfl | (simp; done) | (simp; omega) | omega),0,rfl⟩
 ·by_cases h2:1099511627776<z
  ·go_enter Tryz.func155,Tryz.ntmps155
   go_wp2
   go_ret
   exact ⟨ret_bool (by first | rfl | (simp; done) | (simp; omega) | omega),0,rfl⟩
  ·go_enter Tryz.func155,Tryz.ntmps155
   go_wp2
   go_ret
   exact ⟨ret_bool (by first | rfl | (simp; done) | (simp; omega) | omega),0,rfl⟩
theorem any_not_all {α:Type} (f:α->Bool):∀ l:List α,(!l.any fun z=>!f z)=l.all f
 | []=>rfl
 | a :: l=>by
  rw [List.any_cons,List.all_cons,<- any_not_all f l]
  cases f a <;> cases (l.any fun z=>!f z) <;> rfl
theorem limited_any (w:World) (b off c:Nat) (l:List Int) (hl:l.length<=9223372036854775807) (hc:∀ j z,l[j]?=some z->w.cell? ⟨b,off+j,none⟩=some (.int .i64 z)) :
  Calls Tryz.prog 106 #[.slice (some ⟨b,off,none⟩) l.length c] w (BoolPost w (l.all limB)):=by
 have hq:=Tryz.slices_ContainsFunc (fun z:Int=>Value.int .i64 z) (fun z=>!limB z) 155 #[] (enters_of Tryz.func155 (by kernel_rfl) rfl) b off l.length c l w (limited1_pred w) (Nat.le_refl _) hl (fun j hj=>(by
  rw [getElem!_pos l j hj]
  exact hc j _ (List.getElem?_eq_getElem hj)))
 rw [List.take_length] at hq
 have ha:=any_not_all limB l
 generalize (l.any fun z=>!limB z)=x at *
 have HQ:=bH hq
 have HA:=bH ha
 clear hq ha hc
 generalize l.all limB=y at *
 generalize l.length=n at *
 go_enter Tryz.func106,Tryz.ntmps106
 go_wp2_with (go_at_call 154; refine HQ.out.mono ?_; rintro e w' ⟨rfl,q,rfl⟩)
 go_ret
 exact ⟨ret_bool HA.out,(Ext.refl _ w).drewN q⟩
theorem name1_pred (w:World):PredAt Tryz.prog 158 #[] encR (fun r=>decide (r<32) || decide (126<r)) w:=fun W z _=>by
 unfold FnGives
 show Calls Tryz.prog 158 #[.int .i32 (z:Int)] W _
 by_cases h1:z<32
 ·have h1':(z:Int)<32:=by omega
  go_enter Tryz.func158,Tryz.ntmps158
  go_wp2
  go_ret
  exact ⟨ret_bool (by first | rfl | (simp; done) | (simp; omega) | omega),0,rfl⟩
 ·have h1':¬ (z:Int)<32:=by omega
  by_cases h2:126<z
  ·have h2':(126:Int)<z:=by omega
   go_enter Tryz.func158,Tryz.ntmps158
   go_wp2
   go_ret
   exact ⟨ret_bool (by first | rfl | (simp; done) | (simp; omega) | omega),0,rfl⟩
  ·have h2':¬ (126:Int)<z:=by omega
   go_enter Tryz.func158,Tryz.ntmps158
   go_wp2
   go_ret
   exact ⟨ret_bool (by first | rfl | (simp; done) | (simp; omega) | omega),0,rfl⟩
def badR (r:Nat):Bool:=decide (r<32) || decide (126<r)
theorem idx_bad (s:ByteArray):∀ (f pos:Nat),s.size<=pos+f->(0<=idxFuncFrom badR true s f pos↔∃ i,pos<=i/\∃ h:i<s.size,badR (s[i]'h).toNat=true)
 | 0,pos,h=>by
  unfold idxFuncFrom
  constructor
  ·intro h1; omega
  ·rintro ⟨i,h1,h2,_⟩; omega
 | f+1,pos,h=>by
  unfold idxFuncFrom
  by_cases hp:pos<s.size
  ·rw [if_pos hp]
   by_cases ha:(s[pos]'hp).toNat<128
   ·rw [decode_ascii s pos hp ha]
    by_cases hb:badR (s[pos]'hp).toNat=true
    ·rw [if_pos hb]
     exact ⟨fun _=>⟨pos,Nat.le_refl _,hp,hb⟩,fun _=>by omega⟩
    ·rw [if_neg hb,idx_bad s f (pos+1) (by omega)]
     constructor
     ·rintro ⟨i,h1,h2⟩; exact ⟨i,by omega,h2⟩
     ·rintro ⟨i,h1,h2,h3⟩
      refine ⟨i,?_,h2,h3⟩
      rcases Nat.lt_or_ge pos i with h4 | h4
      ·omega
      ·obtain rfl:i=pos:=by omega
       exact absurd h3 hb
   ·have hd:=(decode_high s pos hp (by omega)).1
    have hb:badR (Utf8.decode s pos).1=true:=by unfold badR; rw [decide_eq_true (p:=(126<_)) (by omega)]; simp
    rw [if_pos hb]
    refine ⟨fun _=>⟨pos,Nat.le_refl _,hp,?_⟩,fun _=>by omega⟩
    unfold badR
    rw [decide_eq_true (p:=(126<(s[pos]'hp).toNat)) (by omega)]; simp
  ·rw [if_neg hp]
   constructor
   ·intro h1; omega
   ·rintro ⟨i,h1,h2,_⟩; omega
theorem name_idx (s:ByteArray):(!decide (0<=idxFunc badR true s))=nameB s:=by
 have h:=idx_bad s s.size 0 (by omega)
 have hl:s.toList=s.data.toList:=ByteArray.toList_eq s
 cases hq:nameB s with
 | true =>
  rw [decide_eq_false]; rfl
  intro h0
  obtain ⟨i,_,hi,hb⟩:=h.1 h0
  unfold nameB at hq
  rw [hl,List.all_eq_true] at hq
  have:=hq (s[i]'hi) (by
   show s.data[i] ∈ s.data.toList
   simp)
  unfold badR at hb
  simp only [Bool.and_eq_true,Bool.or_eq_true,decide_eq_true_eq] at this hb
  omega
 | false =>
  rw [decide_eq_true]; rfl
  refine h.2 ?_
  unfold nameB at hq
  rw [hl,List.all_eq_false] at hq
  obtain ⟨x,hx,hb⟩:=hq
  obtain ⟨i,hi,rfl⟩:=List.getElem_of_mem hx
  have hi':i<s.size:=by rw [Array.length_toList] at hi; exact hi
  refine ⟨i,Nat.zero_le _,hi',?_⟩
  unfold badR
  simp only [Bool.and_eq_true,decide_eq_true_eq,Bool.or_eq_true] at hb ⊢
  have e:s[i]'hi'=s.data.toList[i]:=by
   show s.data[i]=_
   rw [Array.getElem_toList]
  rw [e]
  omega
open Go.RowKit Go.MapKept Go.Lib
theorem limited_one (w:World) (z:Int) (c:Nat):Calls Tryz.prog 106 #[.slice (some ⟨w.heap.size,0,none⟩) 1 c] (w.alloc (.cells #[.int .i64 z] 2)) (BoolPost (w.alloc (.cells #[.int .i64 z] 2)) (limB z)):=by
 have h:=limited_any (w.alloc (.cells #[.int .i64 z] 2)) w.heap.size 0 c [z] (by simp) (fun j u hj=>by
  have:=cells_new (w:=w) [Value.int .i64 z] 2 rfl j (.int .i64 u) (by
   match j,hj with
   | 0,hj=>cases hj; rfl
   | j+1,hj=>simp at hj)
  simpa [Addr.add_lit] using this)
 simpa using h
theorem name_any (w:World) (s:ByteArray):Calls Tryz.prog 157 #[.string s,.func (.func 158) #[] #[]] w fun r w'=>r=.returned (.bool (!nameB s))/\XF w w':=by
 refine (Tryz.strings_ContainsFunc 158 #[] (enters_of Tryz.func158 (by kernel_rfl) rfl) _ s w (name1_pred w)).mono ?_
 rintro r w' ⟨rfl,hb⟩
 refine ⟨ret_bool ?_,Below.ext hb⟩
 have:=name_idx s
 unfold badR at this
 rw [<- this,Bool.not_not]
theorem termsB_cons (n last:Int) (t:TermV) (l:List TermV):termsB n last (t :: l)=(decide (last<t.var) && decide (t.var<n) && !decide (t.coef=0) && limB t.coef && termsB n t.var l):=rfl
theorem validRow_any (w:World) (vars:Nat) (hv:vars<=9223372036854775807) (r:RowV) (ta:Option Addr) (tc:Nat) (hok:RowOk r) (ht:Tms w (.slice ta r.terms.length tc) r.terms) :
  Calls Tryz.prog 109 #[.int .i64 vars,.agg #[.string r.name,.int .i64 r.group,.int .i64 r.kind,.slice ta r.terms.length tc,.int .i64 r.bound]] w (BoolPost w (rowB vars r)):=by
 have hns:r.name.size<=9223372036854775807:=by have:=hok.name; unfold maxLen at this; omega
 have hg:=hok.group
 have hk:=hok.kind
 unfold InR at hg hk
 obtain ⟨-,-,-,-,htn,-⟩:=ht.shape
 have HT:=bH ht
 have HR:=bH (show rowB vars r=(decide (0<=r.kind) && decide (r.kind<=2) && decide (0<=r.group) && decide (r.group<=60) && decide (r.name.size<=80) && limB r.bound && nameB r.name && termsB vars (-1) r.terms) from rfl)
 have hb1:=blk_alloc_at w (.cells #[.string r.name,.int .i64 r.group,.int .i64 r.kind,.slice ta r.terms.length tc,.int .i64 r.bound] 58)
 have hx1:=(Ext.refl (fun _=>False) w).alloc (.cells #[.string r.name,.int .i64 r.group,.int .i64 r.kind,.slice ta r.terms.length tc,.int .i64 r.bound] 58)
 have HB:=bH (bI hb1 hx1)
 clear ht hok hb1 hx1
 obtain ⟨tl,htl⟩:∃ tl,r.terms.length=tl:=⟨_,rfl⟩
 have HTL:=bH htl
 rw [htl] at htn HT HB ⊢
 clear htl
 obtain ⟨gr,hgr⟩:∃ gr,r.group=gr:=⟨_,rfl⟩
 rw [hgr] at hg HR HB ⊢
 clear hgr
 obtain ⟨kd,hkd⟩:∃ kd,r.kind=kd:=⟨_,rfl⟩
 rw [hkd] at hk HR HB ⊢
 clear hkd
 obtain ⟨bd,hbd⟩:∃ bd,r.bound=bd:=⟨_,rfl⟩
 rw [hbd] at HR HB ⊢
 clear hbd
 obtain ⟨nm,hnm⟩:∃ nm,r.name=nm:=⟨_,rfl⟩
 rw [hnm] at hns HR HB ⊢
 clear hnm
 go_enter Tryz.func109,Tryz.ntmps109
 go_upto_region 1 with fail
 generalize hw1:w.alloc (.cells #[.string nm,.int .i64 gr,.int .i64 kd,.slice ta tl tc,.int .i64 bd] 58)=w1 at *
 clear hw1
 obtain ⟨rb,hrb⟩:∃ rb,w.heap.size=rb:=⟨_,rfl⟩
 rw [hrb] at HB ⊢
 clear hrb
 have e0:=cellq HB.out.1 0 rfl
 have e1:=cellq HB.out.1 1 rfl
 have e2:=cellq HB.out.1 2 rfl
 have e3:=cellq HB.out.1 3 rfl
 have e4:=cellq HB.out.1 4 rfl
 by_cases c1:80<nm.size
 ·have c1':(80:Int)<(nm.size:Int):=by omega
  go_wp2
  go_ret
  exact ⟨ret_bool (by rw [HR.out,decide_eq_false (p:=(nm.size<=80)) (by omega)]; simp),HB.out.2⟩
 have c1':¬ (80:Int)<(nm.size:Int):=by omega
 by_cases c2:gr<0
 ·go_wp2
  go_ret
  exact ⟨ret_bool (by rw [HR.out,decide_eq_false (p:=(0<=gr)) (by omega)]; simp),HB.out.2⟩
 by_cases c3:60<gr
 ·go_wp2
  go_ret
  exact ⟨ret_bool (by rw [HR.out,decide_eq_false (p:=(gr<=60)) (by omega)]; simp),HB.out.2⟩
 by_cases c4:kd<0
 ·go_wp2
  go_ret
  exact ⟨ret_bool (by rw [HR.out,decide_eq_false (p:=(0<=kd)) (by omega)]; simp),HB.out.2⟩
 by_cases c5:2<kd
 ·go_wp2
  go_ret
  exact ⟨ret_bool (by rw [HR.out,decide_eq_false (p:=(kd<=2)) (by omega)]; simp),HB.out.2⟩
 have HL:=bH (fun W (z:Int) c=>limited_one W z c)
 have HN:=bH (fun W=>name_any W nm)
 have HR2:Hid (rowB vars r=(limB bd && nameB nm && termsB vars (-1) r.terms)):=bH (by
  rw [HR.out,decide_eq_true (p:=(0<=kd)) (by omega),decide_eq_true (p:=(kd<=2)) (by omega),decide_eq_true (p:=(0<=gr)) (by omega),decide_eq_true (p:=(gr<=60)) (by omega),decide_eq_true (p:=(nm.size<=80)) (by omega)]
  simp)
 clear HR
 go_wp2_with fail
 refine (HL.out w1 bd _).mono ?_
 rintro r2 w2 ⟨rfl,hx2⟩
 have hx12:=((Ext.refl (fun _=>False) w1).alloc (.cells #[.int .i64 bd] 2)).trans hx2
 have HB2:=bH (bI (blk_keep HB.out.1 hx12) (HB.out.2.trans hx12))
 clear hx2 hx12 HB e0 e1 e2 e3 e4
 cases hlb:limB bd with
 | false =>
  rw [hlb] at HR2
  clear hlb
  go_wp2
  go_ret
  exact ⟨ret_bool (by rw [HR2.out]; rfl),HB2.out.2⟩
 | true =>
  rw [hlb] at HR2
  clear hlb
  have e3:=cellq HB2.out.1 3 rfl
  go_wp2_with fail
  go_loopg [42,5] tl (fun gg v42 v5 wr=>∃ (k:Nat) (la:Int),k<=tl/\gg=tl - k/\v42=.int .i64 k/\v5=.int .i64 la∧-9223372036854775808<=la/\la<=9223372036854775807/\termsB vars (-1) r.terms=termsB vars la (r.terms.drop k)/\XF w2 wr)
  case atStart=>exact ⟨0,-1,Nat.zero_le _,rfl,rfl,rfl,by omega,by omega,rfl,Ext.refl _ _⟩
  case round =>
   clear e3
   obtain ⟨k,la,hk,rfl,rfl,rfl,hla0,hla1,heq,hx⟩:=hrel
   have HX:=bH (bI heq hx)
   clear heq hx
   by_cases hin:k<tl
   ·have i0:(k:Int)<(tl:Int):=by omega
    have hkl:k<r.terms.length:=by rw [HTL.out]; exact hin
    have hdr:r.terms.drop k=r.t k :: r.terms.drop (k+1):=by
     rw [List.drop_eq_getElem_cons hkl,r.t_at hkl]
    have HD:=bH (HX.out.1.trans (by rw [hdr,termsB_cons]))
    obtain ⟨b,off,rfl,-,e0,e1,htok⟩:=(HT.out.keep (HB2.out.2.trans HX.out.2)).atr k hkl
    have hva:=htok.var
    have hco:=htok.coef
    unfold InR at hva hco
    clear hdr hkl htok
    obtain ⟨tv,htv⟩:∃ tv,(r.t k).var=tv:=⟨_,rfl⟩
    obtain ⟨co,hco'⟩:∃ co,(r.t k).coef=co:=⟨_,rfl⟩
    rw [htv] at e0 HD hva
    rw [hco'] at e1 HD hco
    clear htv hco'
    have hb3:=blk_alloc_at wr (.cells #[.int .i64 tv,.int .i64 co] 76)
    have hx3:=(Ext.refl (fun _=>False) wr).alloc (.cells #[.int .i64 tv,.int .i64 co] 76)
    have HB3:=bH (bI hb3 hx3)
    clear hb3 hx3
    go_upto_region 7 with fail
    generalize hw3:wr.alloc (.cells #[.int .i64 tv,.int .i64 co] 76)=w3 at *
    clear hw3
    obtain ⟨tb,htb⟩:∃ tb,wr.heap.size=tb:=⟨_,rfl⟩
    rw [htb] at HB3 ⊢
    clear htb e0 e1
    obtain ⟨x0,x1⟩:w3.cell? ⟨tb,0,none⟩=some (.int .i64 tv)/\w3.cell? ⟨tb,1,none⟩=some (.int .i64 co):=⟨cellq HB3.out.1 0 rfl,cellq HB3.out.1 1 rfl⟩
    have HE:=bH ((HB2.out.2.trans HX.out.2).trans HB3.out.2)
    by_cases t1:tv<=la
    ·go_wp2
     go_ret
     exact ⟨ret_bool (by rw [HR2.out,HD.out,decide_eq_false (p:=(la<tv)) (by omega)]; simp),HE.out⟩
    by_cases t2:(vars:Int)<=tv
    ·go_wp2
     go_ret
     exact ⟨ret_bool (by rw [HR2.out,HD.out,decide_eq_false (p:=(tv<(vars:Int))) (by omega)]; simp),HE.out⟩
    by_cases t3:co=0
    ·have t3':(co == 0)=true:=by simpa using t3
     subst t3
     go_wp2
     go_ret
     exact ⟨ret_bool (by rw [HR2.out,HD.out]; simp),HE.out⟩
    have t3':(co == 0)=false:=by simpa using t3
    have HD2:Hid (termsB vars (-1) r.terms=(limB co && termsB vars tv (r.terms.drop (k+1)))):=bH (by
     rw [HD.out,decide_eq_true (p:=(la<tv)) (by omega),decide_eq_true (p:=(tv<(vars:Int))) (by omega),decide_eq_false t3]; simp)
    clear HD
    go_wp2_with fail
    refine (HL.out w3 co _).mono ?_
    rintro r4 w4 ⟨rfl,hx4⟩
    have hx34:=((Ext.refl (fun _=>False) w3).alloc (.cells #[.int .i64 co] 2)).trans hx4
    have HX4:=bH ((HX.out.2.trans HB3.out.2).trans hx34)
    have y0:=cell_keep x0 hx34
    clear hx4 hx34 x0 x1 HE
    cases hlc:limB co with
    | false =>
     rw [hlc] at HD2
     clear hlc
     go_wp2
     go_ret
     exact ⟨ret_bool (by rw [HR2.out,HD2.out]; simp),HB2.out.2.trans HX4.out⟩
    | true =>
     rw [hlc] at HD2
     clear hlc
     go_wp2
     go_roundg (tl - (k+1))
     case measure=>omega
     case rel=>exact ⟨k+1,tv,by omega,rfl,by go_num,rfl,by omega,by omega,by rw [HD2.out]; simp,HX4.out⟩
   ·obtain rfl:k=tl:=by omega
    have HF:Hid (termsB vars (-1) r.terms=true):=bH (by
     rw [HX.out.1,List.drop_of_length_le (by rw [HTL.out]; exact Nat.le_refl _)]; rfl)
    have e0:=cell_keep (cellq HB2.out.1 0 rfl) HX.out.2
    go_wp2_with fail
    refine (HN.out wr).mono ?_
    rintro r4 w4 ⟨rfl,hx4⟩
    have HX4:=bH ((HB2.out.2.trans HX.out.2).trans hx4)
    clear hx4 e0
    go_wp2
    go_ret
    exact ⟨ret_bool (by rw [HR2.out,HF.out]; simp),HX4.out⟩
open Go.RowKit Go.MapKept Go.Lib
theorem rows_empty (w:World) (ao:Option Addr) (c:Nat) (fv:Value):Calls Tryz.prog 107 #[.slice ao 0 c,fv] w fun r w'=>r=.returned (.bool false)/\w'=w:=by
 have h:∀ W,Calls Tryz.prog 156 #[.slice ao 0 c,fv] W fun r w'=>r=.returned (.int .i64 (-1))/\w'=W:=fun W=>by
  go_enter Tryz.func156,Tryz.ntmps156
  go_wp2_with fail
  go_loopg [8] 0 (fun gg s8 wr=>s8=.int .i64 0/\wr=W)
  case atStart=>exact ⟨rfl,rfl⟩
  case round =>
   obtain ⟨rfl,rfl⟩:=hrel
   go_wp2
   go_ret
   exact ⟨rfl,rfl⟩
 have H:=bH h
 clear h
 go_enter Tryz.func107,Tryz.ntmps107
 go_wp2_with (go_at_call 156; refine (H.out _).mono ?_; rintro e w' ⟨rfl,rfl⟩)
 go_ret
 exact ⟨rfl,rfl⟩
def rowC (p:ProgV) (tvs:List Value) (j:Nat):List Value:=cR (p.r j) (tvs.getD j (.slice none 0 0))
theorem valid1_any (w:World) (pb:Nat) (vv rv:Value) (p:ProgV) (hp:blk w pb=some (.cells #[vv,rv] 25 (0,0))) (hv:Vrs w vv p.vars) (r:RowV) (tv:Value) (ht:Tms w tv r.terms) (hok:RowOk r) :
  Calls Tryz.prog 108 #[.agg (cR r tv).toArray,.pointer (some ⟨pb,0,none⟩)] w (BoolPost w (!rowB p.vars.length r)):=by
 obtain ⟨vo,vc,rfl,-,hn,-⟩:=hv.shape
 obtain ⟨ta,tc,rfl,-,-,-⟩:=ht.shape
 have HR:=bH (fun W (hW:XF w W)=>validRow_any W p.vars.length hn r ta tc hok (ht.keep hW))
 have hx:=(Ext.refl (fun _=>False) w).alloc (.cells #[.string r.name,.int .i64 r.group,.int .i64 r.kind,.slice ta r.terms.length tc,.int .i64 r.bound] 58)
 have z0:=cell_keep (cellq hp 0 rfl) hx
 have HX:=bH hx
 clear hv ht hok hp hx
 generalize p.vars.length=n at *
 generalize r.terms.length=tl at *
 generalize rowB n r=b at *
 show Calls Tryz.prog 108 #[.agg #[.string r.name,.int .i64 r.group,.int .i64 r.kind,.slice ta tl tc,.int .i64 r.bound],.pointer (some ⟨pb,0,none⟩)] w _
 go_enter Tryz.func108,Tryz.ntmps108
 go_wp2_with (go_at_call 109; refine (HR.out _ HX.out).mono ?_; rintro e w' ⟨rfl,hx'⟩)
 go_ret
 exact ⟨rfl,HX.out.trans hx'⟩
theorem all_range {α:Type} (f:α->Bool) (l:List α) (d:α):(!(List.range l.length).any fun j=>!f (l.getD j d))=l.all f:=by
 rw [any_not_all]
 have h:(List.range l.length).map (fun j=>l.getD j d)=l:=by
  refine List.ext_getElem (by simp) (fun i h1 h2=>?_)
  simp [List.getElem?_eq_getElem h2]
 conv=>rhs; rw [<- h]
 rw [List.all_map]; rfl
theorem rows_any (w:World) (pb:Nat) (vv rv:Value) (p:ProgV) (hp:blk w pb=some (.cells #[vv,rv] 25 (0,0))) (hv:Vrs w vv p.vars) (hr:Rws w rv p.rows) :
  Calls Tryz.prog 107 #[rv,.func (.func 108) #[] #[.pointer (some ⟨pb,0,none⟩)]] w fun r w'=>r=.returned (.bool (!p.rows.all (rowB p.vars.length)))/\XF w w':=by
 obtain ⟨ro,rc,rfl,-,hn,-⟩:=hr.shape
 by_cases h0:p.rows.length=0
 ·rw [h0]
  refine (rows_empty w ro rc _).mono ?_
  rintro r w' ⟨rfl,rfl⟩
  refine ⟨ret_bool ?_,Ext.refl _ _⟩
  rw [List.eq_nil_of_length_eq_zero h0]; rfl
 obtain ⟨tvs,hl,⟨ao,c,e,h1,h2,h3,h4⟩,h5⟩:=hr
 rw [List.length_zipWith,hl,Nat.min_self] at e h1 h4
 cases e
 obtain ⟨b,off,rfl,hlt,hc⟩:=h4 (by omega)
 have hall:∀ j,Tms w (tvs.getD j (.slice none 0 0)) (p.r j).terms/\RowOk (p.r j):=fun j=>by
  by_cases hj:j<p.rows.length
  ·have hj':j<tvs.length:=by omega
   have:=h5 j _ _ (List.getElem?_eq_getElem hj) (List.getElem?_eq_getElem hj')
   rw [p.r_at hj] at this
   rw [getD_lt hj']
   exact this
  ·have e1:p.r j=row0:=by
    unfold ProgV.r
    rw [List.getD_eq_getElem?_getD,List.getElem?_eq_none (by omega)]; rfl
   rw [List.getD_eq_getElem?_getD,List.getElem?_eq_none (by omega),e1]
   refine ⟨⟨Sl.nil w 2,fun t ht=>(by cases ht)⟩,⟨?_,?_,?_,?_⟩⟩
   ·show (0:Nat)<=maxLen; exact Nat.zero_le _
   all_goals (constructor <;> (show (_:Int)<=_) <;> decide)
 have hq:=AnyQ.slices_ContainsFunc Tryz.laysRow8 5 Tryz.isAgg58 Tryz.sizeOf58 (rowC p tvs) (fun _=>rfl) (fun j=>!rowB p.vars.length (p.r j)) 108 #[.pointer (some ⟨pb,0,none⟩)] (enters_of Tryz.func108 (by kernel_rfl) rfl) b off p.rows.length rc (List.range p.rows.length) w
  (fun W j hW=>by
   have hx:=Below.ext hW
   refine (valid1_any W pb vv _ p (blk_keep hp hx) (hv.keep hx) (p.r j) _ ((hall j).1.keep hx) (hall j).2).mono ?_
   rintro e w' ⟨rfl,hx'⟩
   exact ⟨rfl,(hx.trans hx').below⟩)
  (by simp) hn hlt (fun j hj i v hi=>by
   rw [List.length_range] at hj
   rw [getElem!_pos _ j (by simpa using hj),List.getElem_range] at hi
   refine hc j _ ?_ i v hi
   have hj':j<tvs.length:=by omega
   rw [List.getElem?_zipWith,List.getElem?_eq_getElem hj,List.getElem?_eq_getElem hj',p.r_at hj]
   show some (cR (p.r j) tvs[j])=some (cR (p.r j) (tvs.getD j _))
   rw [getD_lt hj'])
 refine hq.mono ?_
 rintro r w' ⟨rfl,hb⟩
 refine ⟨ret_bool ?_,Below.ext hb⟩
 have ht:List.take p.rows.length (List.range p.rows.length)=List.range p.rows.length:=by
  rw [List.take_of_length_le (by simp)]
 rw [ht,<- all_range (rowB p.vars.length) p.rows row0,Bool.not_not]
 rfl
theorem varB_eq (v:VarV):varB v=([v.lo,v.up,v.co].all limB && !(v.op && !decide (v.up=0))):=by
 unfold varB
 simp [Bool.and_assoc]
theorem all_next {α:Type} {f:α->Bool} {l:List α} {d:α} {i:Nat} (hi:i<l.length) (h:(l.take i).all f=true) (hf:f (l.getD i d)=true):(l.take (i+1)).all f=true:=by
 rw [List.take_succ_eq_append_getElem hi,List.all_append,h,Bool.true_and,List.all_cons,List.all_nil,Bool.and_true,<- getD_lt hi d]
 exact hf
theorem all_fails {α:Type} {f:α->Bool} {l:List α} {d:α} {i:Nat} (hi:i<l.length) (hf:f (l.getD i d)=false):l.all f=false:=by
 rw [List.all_eq_false]
 exact ⟨_,List.getElem_mem hi,by rw [<- getD_lt hi d,hf]; simp⟩
theorem Valid_any (w:World) (pv:Value) (p:ProgV) (hp:IsPrg w pv p):Calls Tryz.prog 57 #[pv] w (BoolPost w (validB p)):=by
 obtain ⟨vv,rv,rfl,hv,hr⟩:=hp
 obtain ⟨vo,vc,rfl,-,hn,-⟩:=hv.shape
 obtain ⟨ro,rc,rfl,-,hrn,-⟩:=hr.shape
 have HV:=bH (bI hv hr)
 have HR:=bH (show validB p=(decide (p.vars.length<=400) && decide (p.rows.length<=4000) && p.vars.all varB && p.rows.all (rowB p.vars.length)) from rfl)
 have hb:=blk_alloc_at w (.cells #[.slice vo p.vars.length vc,.slice ro p.rows.length rc] 25)
 have hx:=(Ext.refl (fun _=>False) w).alloc (.cells #[.slice vo p.vars.length vc,.slice ro p.rows.length rc] 25)
 have HB:=bH (bI hb hx)
 have HW:=bH (fun W (hW:XF w W) pb hpb=>rows_any W pb _ _ p hpb (hv.keep hW) (hr.keep hW))
 clear hv hr hb hx
 obtain ⟨n,hn'⟩:∃ n,p.vars.length=n:=⟨_,rfl⟩
 have HN:=bH hn'
 rw [hn'] at hn HV HR HB HW ⊢
 clear hn'
 obtain ⟨m,hm'⟩:∃ m,p.rows.length=m:=⟨_,rfl⟩
 rw [hm'] at hrn HV HR HB HW ⊢
 clear hm'
 generalize p.rows.all (rowB n)=rb at *
 go_enter Tryz.func57,Tryz.ntmps57
 go_upto_region 1 with fail
 generalize hw1:w.alloc (.cells #[.slice vo n vc,.slice ro m rc] 25)=w1 at *
 clear hw1
 obtain ⟨pb,hpb⟩:∃ pb,w.heap.size=pb:=⟨_,rfl⟩
 rw [hpb] at HB ⊢
 clear hpb
 have z0:=cellq HB.out.1 0 rfl
 have z1:=cellq HB.out.1 1 rfl
 by_cases c1:400<n
 ·have c1':(400:Int)<(n:Int):=by omega
  go_wp2
  go_ret
  exact ⟨ret_bool (by rw [HR.out,decide_eq_false (p:=(n<=400)) (by omega)]; simp),HB.out.2⟩
 have c1':¬ (400:Int)<(n:Int):=by omega
 by_cases c2:4000<m
 ·have c2':(4000:Int)<(m:Int):=by omega
  go_wp2
  go_ret
  exact ⟨ret_bool (by rw [HR.out,decide_eq_false (p:=(m<=4000)) (by omega)]; simp),HB.out.2⟩
 have c2':¬ (4000:Int)<(m:Int):=by omega
 have HR2:Hid (validB p=(p.vars.all varB && rb)):=bH (by rw [HR.out,decide_eq_true (p:=(n<=400)) (by omega),decide_eq_true (p:=(m<=4000)) (by omega)]; simp)
 clear HR
 go_wp2_with fail
 go_loopg [18] n (fun gg v18 wr=>∃ i:Nat,i<=n/\gg=n - i/\v18=.int .i64 i/\(p.vars.take i).all varB=true/\XF w1 wr)
 case atStart=>exact ⟨0,Nat.zero_le _,rfl,rfl,rfl,Ext.refl _ _⟩
 case round =>
  clear z0 z1
  obtain ⟨i,hi,rfl,rfl,hall,hx⟩:=hrel
  have HX:=bH (bI hall hx)
  clear hall hx
  by_cases hin:i<n
  ·have i0:(i:Int)<(n:Int):=by omega
   have HI:Hid (i<p.vars.length):=bH (by rw [HN.out]; exact hin)
   obtain ⟨b,off,rfl,-,e0,e1,e2,e3,e4,-⟩:=(HV.out.1.keep (HB.out.2.trans HX.out.2)).atp i HI.out
   have hb1:=BoxV.new wr (p.v i)
   have hx1:=(Ext.refl (fun _=>False) wr).alloc (.cells #[.int .i64 (p.v i).lo,.int .i64 (p.v i).up,.bool (p.v i).op,.bool (p.v i).ig,.int .i64 (p.v i).co] 63)
   have HB1:=bH (bI hb1 hx1)
   have HVB:=bH (varB_eq (p.v i))
   clear hb1 hx1
   go_upto_region 6 with fail
   generalize hw2:wr.alloc (.cells #[.int .i64 (p.v i).lo,.int .i64 (p.v i).up,.bool (p.v i).op,.bool (p.v i).ig,.int .i64 (p.v i).co] 63)=w2 at *
   clear hw2 e0 e1 e2 e3 e4
   obtain ⟨vb,hvb⟩:∃ vb,wr.heap.size=vb:=⟨_,rfl⟩
   rw [hvb] at HB1 ⊢
   clear hvb
   obtain ⟨f0,f1,f2,-,f4⟩:=HB1.out.1.facts
   have HL:=bH (limited_any (w2.alloc (.cells #[.int .i64 (p.v i).lo,.int .i64 (p.v i).up,.int .i64 (p.v i).co] 2)) w2.heap.size 0 3 [(p.v i).lo,(p.v i).up,(p.v i).co] (by simp) (fun j u hj=>(by
    have:=cells_new (w:=w2) [Value.int .i64 (p.v i).lo,.int .i64 (p.v i).up,.int .i64 (p.v i).co] 2 rfl j (.int .i64 u) (by
     match j,hj with
     | 0,hj=>cases hj; rfl
     | 1,hj=>cases hj; rfl
     | 2,hj=>cases hj; rfl
     | j+3,hj=>simp at hj)
    simpa [Addr.add_lit] using this)))
   simp only [List.length_cons,List.length_nil,Nat.zero_add] at HL
   obtain ⟨lb,hlb⟩:∃ lb,[(p.v i).lo,(p.v i).up,(p.v i).co].all limB=lb:=⟨_,rfl⟩
   rw [hlb] at HL HVB
   clear hlb
   generalize (p.v i).lo=lo at *
   generalize (p.v i).up=up at *
   generalize (p.v i).op=o at *
   generalize (p.v i).ig=ig at *
   generalize (p.v i).co=co at *
   go_wp2_with fail
   refine HL.out.mono ?_
   rintro r3 w3 ⟨rfl,hx3⟩
   have hx23:=((Ext.refl (fun _=>False) w2).alloc (.cells #[.int .i64 lo,.int .i64 up,.int .i64 co] 2)).trans hx3
   have HX3:=bH ((HX.out.2.trans HB1.out.2).trans hx23)
   have g1:=cell_keep f1 hx23
   have g2:=cell_keep f2 hx23
   clear f0 f1 f2 f4 hx3 hx23 HL HB1
   cases lb with
   | false =>
    go_wp2
    go_ret
    exact ⟨ret_bool (by rw [HR2.out,all_fails (d:=var0) HI.out (HVB.out.trans rfl)]; rfl),HB.out.2.trans HX3.out⟩
   | true =>
    cases o with
    | false =>
     go_wp2
     go_roundg (n - (i+1))
     case measure=>omega
     case rel=>exact ⟨i+1,by omega,rfl,by go_num,all_next (d:=var0) HI.out HX.out.1 (HVB.out.trans rfl),HX3.out⟩
    | true =>
     by_cases hu:up=0
     ·have hu':(up == 0)=true:=by simpa using hu
      have HVB':=bH (HVB.out.trans (show _=true by rw [decide_eq_true hu]; rfl))
      clear HVB
      subst hu
      go_wp2
      go_roundg (n - (i+1))
      case measure=>omega
      case rel=>exact ⟨i+1,by omega,rfl,by go_num,all_next (d:=var0) HI.out HX.out.1 HVB'.out,HX3.out⟩
     ·have hu':(up == 0)=false:=by simpa using hu
      have hu2:(up != 0)=true:=by simpa using hu
      have HVB':=bH (HVB.out.trans (show _=false by rw [decide_eq_false hu]; rfl))
      clear HVB
      go_wp2
      go_ret
      exact ⟨ret_bool (by rw [HR2.out,all_fails (d:=var0) HI.out HVB'.out]; rfl),HB.out.2.trans HX3.out⟩
  ·obtain rfl:i=n:=by omega
   have HF:Hid (p.vars.all varB=true):=bH (by
    have:=HX.out.1
    rw [List.take_of_length_le (by rw [HN.out]; exact Nat.le_refl _)] at this
    exact this)
   have z1:=cell_keep (cellq HB.out.1 1 rfl) HX.out.2
   have HW2:=bH (HW.out wr (HB.out.2.trans HX.out.2) pb (blk_keep HB.out.1 HX.out.2))
   go_wp2_with fail
   refine HW2.out.mono ?_
   rintro r3 w3 ⟨rfl,hx3⟩
   have HX3:=bH ((HB.out.2.trans HX.out.2).trans hx3)
   clear hx3 z1 HW2
   go_wp2
   go_ret
   exact ⟨ret_bool (by rw [HR2.out,HF.out]; simp),HX3.out⟩
structure Room (n m T L:Nat):Prop where
 one:1<=L
 sum:(n+1)*(m*(T*(L+3)+2)+7)+T*(L+3)+m*(L+3)+n*(L+3)+L<=1000000
def sizeA (m T L:Nat):Nat:=1+m*(T*(L+3)+2)
theorem Room.all {n m T L:Nat} (h:Room n m T L):1+m*(T*(L+3)+2)+(1+T*(L+3))+(L+3)<=4000000/\1+m*(L+3)+(L+3)<=4000000/\n<=1000000/\sizeA m T L+3<=1000000 /\
  1+n*(sizeA m T L+3+3)+(sizeA m T L+3+3)<=2000000/\1+T*(L+3)+(L+3)<=4000000/\1+n*(L+3)+(L+3)<=4000000/\L<=1000000/\1+m*(L+3)<=1000000:=by
 have h1:=h.sum
 unfold sizeA
 generalize m*(T*(L+3)+2)=X at *
 generalize T*(L+3)=Y at *
 have e:n*(1+X+3+3)=n*(X+7):=by rw [show 1+X+3+3=X+7 from by omega]
 rw [Nat.succ_mul] at h1
 rw [e]
 have h2:n<=n*(X+7):=Nat.le_mul_of_pos_right n (by omega)
 generalize n*(X+7)=Z at *
 generalize m*(L+3)=U at *
 generalize n*(L+3)=V at *
 omega
theorem combA_sz {p:ProgV} {y:List Rat} {w:World} {v:Value} {L T:Nat} (hr:Rws w v p.rows) (hy:∀ i:Int,Sz (atQ y i) L) (hT:∀ i,i<p.rows.length->(p.r i).terms.length<=T) (j:Nat):Sz (combA p y j) (sizeA p.rows.length T L):=by
 rw [combA_eq]
 refine (sumTo_sz (M:=1+T*(L+3)) (fun i hi=>?_)).mono (by
  unfold sizeA
  rw [show 1+T*(L+3)+1=T*(L+3)+2 from by omega]
  exact Nat.le_refl _)
 refine (sumTo_sz (M:=L+2) (fun k hk=>termA_sz (hy i) (hr.term_ok hi k hk) j)).mono ?_
 have:=Nat.mul_le_mul_right (L+3) (hT i hi)
 show 1+(p.r i).terms.length*(L+3)<=_
 omega
theorem combB_sz {p:ProgV} {y:List Rat} {w:World} {v:Value} {L:Nat} (hr:Rws w v p.rows) (hy:∀ i:Int,Sz (atQ y i) L):Sz (combB p y) (1+p.rows.length*(L+3)) :=
 sumTo_sz (M:=L+2) (fun i hi=>((Sz.int (hr.ok i hi).bound).mul (hy i)).mono (by omega))
theorem leastS_sz {p:ProgV} {c:List Rat} {w:World} {v:Value} {L:Nat} (hv:Vrs w v p.vars) (hc:∀ i:Int,Sz (atQ c i) L):Sz (leastS p c) (1+p.vars.length*(L+3)) :=
 sumTo_sz (M:=L+2) (fun i hi=>((Sz.int (pick_in hv c i hi)).mul (hc i)).mono (by omega))
theorem OptPost.open {w w':World} {q:Option Rat} {r:Ending} (h:OptPost w q r w'):∃ neg a1 m1 c1 a2 m2 c2,r=.returned (.tuple #[.agg #[.bool neg,.slice a1 m1 c1,.slice a2 m2 c2],.bool q.isSome])/\IsRat w' (.agg #[.bool neg,.slice a1 m1 c1,.slice a2 m2 c2]) (q.getD 0)/\XF w w':=by
 obtain ⟨hx,h⟩:=h
 cases q with
 | none =>
  obtain ⟨v,rfl,hv⟩:=h
  obtain ⟨neg,a1,m1,c1,a2,m2,c2,rfl⟩:=hv.shape
  exact ⟨neg,a1,m1,c1,a2,m2,c2,rfl,hv,hx⟩
 | some q =>
  obtain ⟨v,rfl,hv⟩:=h
  obtain ⟨neg,a1,m1,c1,a2,m2,c2,rfl⟩:=hv.shape
  exact ⟨neg,a1,m1,c1,a2,m2,c2,rfl,hv,hx⟩
theorem atQ_listTo_sz {n:Nat} {f:Nat->Rat} {L:Nat} (h:∀ i,i<n->Sz (f i) L) (h1:1<=L) (i:Int):Sz (atQ (listTo n f) i) L:=by
 by_cases h0:i<0
 ·rw [atQ_neg _ h0]; exact Sz.zero.mono h1
 by_cases h2:((listTo n f).length:Int)<=i
 ·rw [atQ_out _ h2]; exact Sz.zero.mono h1
 obtain ⟨j,rfl⟩:∃ j:Nat,i=j:=⟨i.toNat,by omega⟩
 rw [listTo_length] at h2
 rw [atQ_listTo _ (by omega)]
 exact h j (by omega)
structure Small (p:ProgV) (T L:Nat):Prop where
 room:Room p.vars.length p.rows.length T L
 terms:∀ i,i<p.rows.length->(p.r i).terms.length<=T
def insB (p:ProgV) (x:List Rat) (i:Nat):Bool:=decide (((p.v i).lo:Rat)<=atQ x i) && ((p.v i).op || decide (atQ x i<=((p.v i).up:Rat)))
theorem insideB_eq (p:ProgV) (x:List Rat):insideB p x=allTo p.vars.length (insB p x):=rfl
theorem insB_sign (p:ProgV) (x:List Rat) (i:Nat):insB p x i=(!decide ((atQ x i - ((p.v i).lo:Rat)).num.sign<0) && ((p.v i).op || !decide (0<(atQ x i - ((p.v i).up:Rat)).num.sign))):=by
 have hr1:=sign_lt (atQ x i - ((p.v i).lo:Rat))
 have hr2:=sign_gt (atQ x i - ((p.v i).up:Rat))
 unfold insB
 congr 1
 ·rw [<- decide_not]; exact decide_eq_decide.2 ⟨fun h h2=>by have:=hr1.1 h2; grind,fun h=>Rat.not_lt.1 (fun h2=>h (hr1.2 (by grind)))⟩
 ·congr 1
  rw [<- decide_not]; exact decide_eq_decide.2 ⟨fun h h2=>by have:=hr2.1 h2; grind,fun h=>Rat.not_lt.1 (fun h2=>h (hr2.2 (by grind)))⟩
theorem costQ_sz {p:ProgV} {w:World} {v:Value} {x:List Rat} {L:Nat} (hv:Vrs w v p.vars) (hx:∀ i:Int,Sz (atQ x i) L):Sz (costQ p x) (1+p.vars.length*(L+3)) :=
 sumTo_sz (M:=L+2) (fun i hi=>((Sz.int (hv.ok i hi).co).mul (hx i)).mono (by omega))
def rayI (p:ProgV) (z:List Rat) (i:Nat):Bool:=!decide (atQ z i<0) && (!decide (0<atQ z i) || (p.v i).op)
def zeroI (p:ProgV) (z:List Rat) (i:Nat):Bool:=kindB (p.r i).kind (dotQ (p.r i).terms (clipQ p z)) 0
theorem rayI_sign (p:ProgV) (z:List Rat) (i:Nat):rayI p z i=(!decide ((atQ z i).num.sign<0) && (!decide (0<(atQ z i).num.sign) || (p.v i).op)):=by
 unfold rayI
 rw [show decide (atQ z i<0)=decide ((atQ z i).num.sign<0) from decide_eq_decide.2 (sign_lt _).symm,show decide (0<atQ z i)=decide (0<(atQ z i).num.sign) from decide_eq_decide.2 (sign_gt _).symm]
section
variable {b0 b1 b2 b3 b4 b5 b6 b7 b8 b9 o0 o1 o2 o3 o4 o5 o6 o7 o8 o9:Nat} {x0 x1 x2 x3 x4 x5 x6 x7 x8 x9:Value} {W:World}
end
structure OutV where
 kind:Int
 val:Rat
 pt:List Rat
 mu:List Rat
 ray:List Rat
def chk1 (p:ProgV) (o:OutV):Bool:=decide (o.pt.length=p.vars.length) && decide (o.mu.length=p.rows.length) && decide (o.ray.length=0) && optB p o.pt o.mu && decide (o.val=costQ p o.pt)
def chk2 (p:ProgV) (o:OutV):Bool:=decide (o.val=0) && decide (o.pt.length+o.ray.length=0) && decide (o.mu.length=p.rows.length) && infB p o.mu
def chk3 (p:ProgV) (o:OutV):Bool:=decide (o.val=0) && decide (o.mu.length=0) && decide (o.pt.length=p.vars.length) && decide (o.ray.length=p.vars.length) && unbB p o.pt o.ray
def chkB (p:ProgV) (o:OutV):Bool:=if o.kind=0 then chk1 p o else if o.kind=1 then chk2 p o else chk3 p o
structure RatV where
 neg:Bool
 mag:List Nat
 den:List Nat
def ratV0:RatV:=⟨false,[],[]⟩
def RatV.q (r:RatV):Rat:=mkRat (sg r.neg (vl r.mag)) (dn (vl r.den))
def IsRaw (w:World) (v:Value) (r:RatV):Prop:=∃ mv dv',v=.agg #[.bool r.neg,mv,dv']/\Rds w mv r.mag/\Rds w dv' r.den
theorem IsRaw.keep {w w':World} {v:Value} {r:RatV} (h:IsRaw w v r) (hx:XF w w'):IsRaw w' v r:=by
 obtain ⟨mv,dv',e,h1,h2⟩:=h
 exact ⟨mv,dv',e,h1.keep hx,h2.keep hx⟩
theorem IsRaw.reads {w:World} {v:Value} {r:RatV} (h:IsRaw w v r) {L:Nat} (h1:r.mag.length<=L) (h2:r.den.length<=L):Rrat w v r.q L:=by
 obtain ⟨mv,dv',e,h3,h4⟩:=h
 exact ⟨r.neg,mv,dv',r.mag,r.den,e,h3,h1,h4,h2,rfl⟩
def Raws (w:World) (v:Value) (rs:List RatV):Prop:=∃ cs:List (List Value),cs.length=rs.length/\Sl w v 3 cs/\∀ (i:Nat) c r,cs[i]?=some c->rs[i]?=some r->IsRaw w (.agg c.toArray) r
theorem Raws.keep {w w':World} {v:Value} {rs:List RatV} (h:Raws w v rs) (hx:XF w w'):Raws w' v rs:=by
 obtain ⟨cs,h1,h2,h3⟩:=h
 exact ⟨cs,h1,h2.keep hx,fun i c q hc hq=>(h3 i c q hc hq).keep hx⟩
theorem Raws.shape {w:World} {v:Value} {rs:List RatV} (h:Raws w v rs):∃ ao c,v=.slice ao rs.length c/\(ao=none->c=0)/\rs.length<=9223372036854775807/\rs.length<=c:=by
 obtain ⟨cs,h0,h1,_⟩:=h
 obtain ⟨ao,c,h1,h2⟩:=h1.shape
 rw [h0] at h1 h2
 exact ⟨ao,c,h1,h2⟩
def fewR (d:Nat) (r:RatV):Bool:=decide (r.mag.length<=d) && decide (r.den.length<=d)
def fewL (d:Nat) (rs:List RatV):Bool:=rs.all (fewR d)
def valL (rs:List RatV):List Rat:=rs.map RatV.q
theorem Raws.rats {w:World} {v:Value} {rs:List RatV} (h:Raws w v rs) {L:Nat} (hf:fewL L rs=true):Rats w v (valL rs) L:=by
 obtain ⟨cs,h1,h2,h3⟩:=h
 refine ⟨cs,by unfold valL; rw [List.length_map,h1],h2,fun i c q hc hq=>?_⟩
 unfold valL at hq
 rw [List.getElem?_map] at hq
 obtain ⟨r,hr,rfl⟩:=Option.map_eq_some_iff.1 hq
 unfold fewL at hf
 have:=List.all_eq_true.1 hf r (List.mem_of_getElem? hr)
 unfold fewR at this
 simp only [Bool.and_eq_true,decide_eq_true_eq] at this
 exact (h3 i c r hc hr).reads this.1 this.2
theorem Raws.at {w:World} {ao:Option Addr} {n c:Nat} {rs:List RatV} (h:Raws w (.slice ao n c) rs) (i:Nat) (hi:i<rs.length):∃ b off a1 m1 c1 a2 m2 c2,ao=some ⟨b,off,none⟩/\b<w.heap.size /\
  w.cell? ⟨b,off+i*3,none⟩=some (.bool (rs.getD i ratV0).neg)/\w.cell? ⟨b,off+i*3+1,none⟩=some (.slice a1 m1 c1)/\w.cell? ⟨b,off+i*3+2,none⟩=some (.slice a2 m2 c2)/\m1=(rs.getD i ratV0).mag.length/\m2=(rs.getD i ratV0).den.length/\IsRaw w (.agg #[.bool (rs.getD i ratV0).neg,.slice a1 m1 c1,.slice a2 m2 c2]) (rs.getD i ratV0):=by
 rw [getD_lt hi]
 obtain ⟨cs,h0,h1,h2⟩:=h
 have hi':i<cs.length:=by omega
 obtain ⟨b,off,g1,g2,g3⟩:=h1.at (i:=i) (List.getElem?_eq_getElem hi')
 have k1:=h2 i _ _ (List.getElem?_eq_getElem hi') (List.getElem?_eq_getElem hi)
 obtain ⟨mv,dv',e,k2,k3⟩:=id k1
 obtain ⟨a1,c1,rfl⟩:∃ a c,mv=.slice a rs[i].mag.length c:=by obtain ⟨_,a,c,e,_⟩:=k2; exact ⟨a,c,e⟩
 obtain ⟨a2,c2,rfl⟩:∃ a c,dv'=.slice a rs[i].den.length c:=by obtain ⟨_,a,c,e,_⟩:=k3; exact ⟨a,c,e⟩
 rw [e] at k1
 have ec:cs[i]=[.bool rs[i].neg,.slice a1 rs[i].mag.length c1,.slice a2 rs[i].den.length c2]:=by
  injection e with e
  have:=congrArg Array.toList e
  simpa using this
 rw [ec] at g3
 exact ⟨b,off,a1,_,c1,a2,_,c2,g1,g2,g3 0 _ rfl,g3 1 _ rfl,g3 2 _ rfl,rfl,rfl,k1⟩
theorem Rds.len63 {w:World} {v:Value} {l:List Nat} (h:Rds w v l):l.length<=9223372036854775807:=by
 obtain ⟨_,_,c,_,h1,h2,_⟩:=h
 unfold maxLen at h2
 omega
theorem Few_any (w:World) (v:Value) (rs:List RatV) (d:Nat) (hd:d<=1000000) (h:Raws w v rs):Calls Tryz.prog 18 #[.int .i64 d,v] w (BoolPost w (fewL d rs)):=by
 obtain ⟨ao,c,rfl,-,hn,-⟩:=h.shape
 have HR:=bH h
 obtain ⟨n,hn'⟩:∃ n,rs.length=n:=⟨_,rfl⟩
 have HN:=bH hn'
 rw [hn'] at hn HR ⊢
 clear hn' h
 go_enter Tryz.func18,Tryz.ntmps18
 go_wp2_with fail
 go_loopg [5] n (fun gg v5 wr=>∃ i:Nat,i<=n/\gg=n - i/\v5=.int .i64 i/\(rs.take i).all (fewR d)=true/\XF w wr)
 case atStart=>exact ⟨0,Nat.zero_le _,rfl,rfl,rfl,Ext.refl _ _⟩
 case round =>
  obtain ⟨i,hi,rfl,rfl,hall,hx⟩:=hrel
  have HX:=bH (bI hall hx)
  clear hall hx
  by_cases hin:i<n
  ·have i0:(i:Int)<(n:Int):=by omega
   have i1:(0:Int)<=(i:Int):=by omega
   have HI:Hid (i<rs.length):=bH (by rw [HN.out]; exact hin)
   obtain ⟨b,off,a1,m1,c1,a2,m2,c2,rfl,-,e0,e1,e2,hm1,hm2,hraw⟩:=(HR.out.keep HX.out.2).at i HI.out
   have hl1:m1<=9223372036854775807:=by
    obtain ⟨mv,dv',e,k2,k3⟩:=hraw
    rw [hm1]; exact k2.len63
   have hl2:m2<=9223372036854775807:=by
    obtain ⟨mv,dv',e,k2,k3⟩:=hraw
    rw [hm2]; exact k3.len63
   have HF:=bH (show fewR d (rs.getD i ratV0)=(decide (m1<=d) && decide (m2<=d)) from by unfold fewR; rw [hm1,hm2])
   clear hraw hm1 hm2
   generalize (rs.getD i ratV0).neg=ng at *
   by_cases q1:d<m1
   ·have q1':(d:Int)<(m1:Int):=by omega
    go_wp2
    go_ret
    exact ⟨ret_bool (all_fails (d:=ratV0) HI.out (by rw [HF.out,decide_eq_false (p:=m1<=d) (by omega)]; rfl)).symm,HX.out.2⟩
   ·have q1':¬ (d:Int)<(m1:Int):=by omega
    by_cases q2:d<m2
    ·have q2':(d:Int)<(m2:Int):=by omega
     go_wp2
     go_ret
     exact ⟨ret_bool (all_fails (d:=ratV0) HI.out (by rw [HF.out,decide_eq_false (p:=m2<=d) (by omega)]; simp)).symm,HX.out.2⟩
    ·have q2':¬ (d:Int)<(m2:Int):=by omega
     go_wp2
     go_roundg (n - (i+1))
     case measure=>omega
     case rel=>exact ⟨i+1,by omega,rfl,by go_num,all_next (d:=ratV0) HI.out HX.out.1 (by rw [HF.out,decide_eq_true (p:=m1<=d) (by omega),decide_eq_true (p:=m2<=d) (by omega)]; rfl),HX.out.2⟩
  ·obtain rfl:i=n:=by omega
   have HT:Hid (fewL d rs=true):=bH (by
    have:=HX.out.1
    rw [List.take_of_length_le (by rw [HN.out]; exact Nat.le_refl _)] at this
    exact this)
   go_wp2
   go_ret
   exact ⟨ret_bool HT.out.symm,HX.out.2⟩
def shortB (rs:List RatV) (k:Nat):Bool:=decide (rs.length<=k) && fewL 4 rs
theorem Short_any (w:World) (v:Value) (rs:List RatV) (k:Nat) (hk:k<=1000000) (h:Raws w v rs):Calls Tryz.prog 46 #[v,.int .i64 k] w (BoolPost w (shortB rs k)):=by
 obtain ⟨ao,c,rfl,-,hn,-⟩:=h.shape
 have HF:=bH (Few_any w _ rs 4 (by omega) h)
 have HS:=bH (show shortB rs k=(decide (rs.length<=k) && fewL 4 rs) from rfl)
 clear h
 generalize rs.length=n at *
 generalize fewL 4 rs=fb at *
 by_cases q:n<=k
 ·have q':(n:Int)<=(k:Int):=by omega
  go_enter Tryz.func46,Tryz.ntmps46
  go_wp2_with fail
  refine HF.out.mono ?_
  rintro r w' ⟨rfl,hx⟩
  have HX:=bH hx
  clear hx
  go_wp2
  go_ret
  exact ⟨ret_bool (by rw [HS.out,decide_eq_true q]; rfl),HX.out⟩
 ·have q':¬ (n:Int)<=(k:Int):=by omega
  go_enter Tryz.func46,Tryz.ntmps46
  go_wp2
  go_ret
  exact ⟨ret_bool (by rw [HS.out,decide_eq_false q]; rfl),Ext.refl _ w⟩
def fewRow (k:Nat) (r:RowV):Bool:=decide (r.terms.length<=2*k) && decide (r.name.size<=100)
def fewP (p:ProgV) (k m:Nat):Bool:=p.rows.all (fewRow k) && decide (p.vars.length<=k) && decide (p.rows.length<=m)
theorem FewP_any (w:World) (pv:Value) (p:ProgV) (k m:Nat) (hk:k<=1000000) (hm:m<=1000000) (hp:IsPrg w pv p):Calls Tryz.prog 39 #[pv,.int .i64 k,.int .i64 m] w (BoolPost w (fewP p k m)):=by
 obtain ⟨vv,rv,rfl,hv,hr⟩:=hp
 obtain ⟨vo,vc,rfl,-,hvn,-⟩:=hv.shape
 obtain ⟨ro,rc,rfl,-,hrn,-⟩:=hr.shape
 have HV:=bH hr
 have HF:=bH (show fewP p k m=(p.rows.all (fewRow k) && decide (p.vars.length<=k) && decide (p.rows.length<=m)) from rfl)
 clear hv hr
 generalize p.vars.length=vn at *
 obtain ⟨n,hn'⟩:∃ n,p.rows.length=n:=⟨_,rfl⟩
 have HN:=bH hn'
 rw [hn'] at hrn HV HF ⊢
 clear hn'
 have HB:=bH (bI (blk_alloc_at w (.cells #[.slice vo vn vc,.slice ro n rc] 25)) ((Ext.refl (fun _=>False) w).alloc (.cells #[.slice vo vn vc,.slice ro n rc] 25)))
 go_enter Tryz.func39,Tryz.ntmps39
 go_upto_region 1 with fail
 generalize hw1:w.alloc (.cells #[.slice vo vn vc,.slice ro n rc] 25)=w1 at *
 clear hw1
 obtain ⟨pb,hpb⟩:∃ pb,w.heap.size=pb:=⟨_,rfl⟩
 rw [hpb] at HB ⊢
 clear hpb
 go_wp2_with fail
 go_loopg [7] n (fun gg v7 wr=>∃ i:Nat,i<=n/\gg=n - i/\v7=.int .i64 i/\(p.rows.take i).all (fewRow k)=true/\XF w1 wr)
 case atStart=>exact ⟨0,Nat.zero_le _,rfl,rfl,rfl,Ext.refl _ _⟩
 case round =>
  obtain ⟨i,hi,rfl,rfl,hall,hx⟩:=hrel
  have HX:=bH (bI hall hx)
  clear hall hx
  have z0:=cell_keep (cellq HB.out.1 0 rfl) HX.out.2
  have z1:=cell_keep (cellq HB.out.1 1 rfl) HX.out.2
  by_cases hin:i<n
  ·have i0:(i:Int)<(n:Int):=by omega
   have i1:(0:Int)<=(i:Int):=by omega
   have HI:Hid (i<p.rows.length):=bH (by rw [HN.out]; exact hin)
   obtain ⟨b,off,ta,tc,rfl,-,e0,e1,e2,e3,e4,hok,htm⟩:=(HV.out.keep (HB.out.2.trans HX.out.2)).atp i HI.out
   have hns:(p.r i).name.size<=9223372036854775807:=by have:=hok.name; unfold maxLen at this; omega
   obtain ⟨-,-,-,-,htn,-⟩:=htm.shape
   have HR:=bH (show fewRow k (p.rows.getD i row0)=(decide ((p.r i).terms.length<=2*k) && decide ((p.r i).name.size<=100)) from rfl)
   clear hok htm
   generalize (p.r i).terms.length=tl at *
   generalize (p.r i).name=nm at *
   obtain ⟨kk,hkk⟩:∃ kk,2*k=kk:=⟨_,rfl⟩
   have hk2:(2:Int)*(k:Int)=(kk:Int):=by omega
   rw [hkk] at HR
   have hkk63:kk<=9223372036854775807:=by omega
   clear hkk
   by_cases q1:kk<tl
   ·have q1':(kk:Int)<(tl:Int):=by omega
    go_wp2
    go_ret
    exact ⟨ret_bool (by rw [HF.out,all_fails (d:=row0) HI.out (by rw [HR.out,decide_eq_false (p:=tl<=kk) (by omega)]; rfl)]; rfl),HB.out.2.trans HX.out.2⟩
   ·have q1':¬ (kk:Int)<(tl:Int):=by omega
    by_cases q2:100<nm.size
    ·have q2':(100:Int)<(nm.size:Int):=by omega
     go_wp2
     go_ret
     exact ⟨ret_bool (by rw [HF.out,all_fails (d:=row0) HI.out (by rw [HR.out,decide_eq_false (p:=nm.size<=100) (by omega)]; simp)]; rfl),HB.out.2.trans HX.out.2⟩
    ·have q2':¬ (100:Int)<(nm.size:Int):=by omega
     go_wp2
     go_roundg (n - (i+1))
     case measure=>omega
     case rel=>exact ⟨i+1,by omega,rfl,by go_num,all_next (d:=row0) HI.out HX.out.1 (by rw [HR.out,decide_eq_true (p:=tl<=kk) (by omega),decide_eq_true (p:=nm.size<=100) (by omega)]; rfl),HX.out.2⟩
  ·obtain rfl:i=n:=by omega
   have HF2:Hid (fewP p k m=(decide (vn<=k) && decide (i<=m))):=bH (by
    have:=HX.out.1
    rw [List.take_of_length_le (by rw [HN.out]; exact Nat.le_refl _)] at this
    rw [HF.out,this]; rfl)
   by_cases q1:vn<=k
   ·have q1':(vn:Int)<=(k:Int):=by omega
    by_cases q2:i<=m
    ·have q2':(i:Int)<=(m:Int):=by omega
     go_wp2
     go_ret
     exact ⟨ret_bool (by rw [HF2.out,decide_eq_true q1,decide_eq_true q2]; rfl),HB.out.2.trans HX.out.2⟩
    ·have q2':¬ (i:Int)<=(m:Int):=by omega
     go_wp2
     go_ret
     exact ⟨ret_bool (by rw [HF2.out,decide_eq_true q1,decide_eq_false q2]; rfl),HB.out.2.trans HX.out.2⟩
   ·have q1':¬ (vn:Int)<=(k:Int):=by omega
    go_wp2
    go_ret
    exact ⟨ret_bool (by rw [HF2.out,decide_eq_false q1]; rfl),HB.out.2.trans HX.out.2⟩
def NoD (xs:List Value):Prop:=∀ u ∈ xs,∀ d,u≠.int .u32 d
theorem noDig_cells {w:World} {g:Nat} {cur:Array Value} {t:TypeId} {fr:Nat × Nat} (h:blk w g=some (.cells cur t fr)) (hn:NoD cur.toList):NoDig w g:=fun i d hc=>by
 rw [cell_of_cells h] at hc
 exact hn _ (by rw [<- Array.getElem?_toList] at hc; exact List.mem_of_getElem? hc) d rfl
theorem NoDig.cells {w:World} {g:Nat} {cur:Array Value} {t:TypeId} {fr:Nat × Nat} (hn:NoDig w g) (h:blk w g=some (.cells cur t fr)):NoD cur.toList:=fun u hu d e=>by
 obtain ⟨i,hi,rfl⟩:=List.getElem_of_mem hu
 refine hn i d ?_
 rw [cell_of_cells h,<- Array.getElem?_toList,List.getElem?_eq_getElem hi,e]
theorem NoD.append {xs ys:List Value} (h:NoD xs) (k:NoD ys):NoD (xs++ys):=fun u hu=>(List.mem_append.1 hu).elim (h u) (k u)
theorem NoD.take {xs:List Value} (h:NoD xs) (n:Nat):NoD (xs.take n):=fun u hu=>h u (List.mem_of_mem_take hu)
theorem NoD.drop {xs:List Value} (h:NoD xs) (n:Nat):NoD (xs.drop n):=fun u hu=>h u (List.mem_of_mem_drop hu)
theorem noD_zero {z:Array Value} (h:NoD z.toList) (n:Nat):NoD (Builtin.zeroCells z n).toList:=fun u hu=>by
 unfold Builtin.zeroCells at hu
 rw [Array.toList_map] at hu
 obtain ⟨i,hi,rfl⟩:=List.mem_map.1 hu
 have hi':i<n*z.size:=by simpa using hi
 have hz:0<z.size:=Nat.pos_of_ne_zero (fun e=>by rw [e] at hi'; simp at hi')
 have hm:i % z.size<z.size:=Nat.mod_lt _ hz
 rw [getElem!_pos z _ hm]
 exact h _ (by rw [<- Array.getElem_toList]; exact List.getElem_mem _)
section
variable {P:Program}
theorem append_noDig (w:World) (base:Nat) (t ty e:TypeId) (i:TypeInfo) (z:Value) (ht:P.underlying t=some (.slice e)) (hi:P.info? e=some i) (hz:i.zero=some z)
  (hzs:z.cells.size=i.size) (hzn:NoD z.cells.toList)
  (v:Value) (n:Nat) (xs:List Value) (hown:w.ownsRow base e i.size v n xs) (hnd:∀ g,v.ownBlock=some g->NoDig w g) (hxs:NoD xs)
  (a:Addr) (m c:Nat) (news:List Value) (hl:news.length=m*i.size) (hnews:∀ j u,news[j]?=some u->w.cell? (a.add j)=some u) (h1:∀ u ∈ news,u.oneCell'=true) (hnn:NoD news) (hm:0<m)
  (h63:n+m<=maxLen) (hbytes:(n+m)*i.bytes<=140737488355328) :
  ∀ v' w',(Builtin.append_ #[t,t] ty #[v,.slice (some a) m c]).run P w=.ok v' w'->∀ g,v'.ownBlock=some g->NoDig w' g:=by
 intro v' w' hrun g' hg'
 have hsmall:n+m<=9223372036854775807:=by simp only [maxLen] at h63; omega
 rcases hown.2 with ⟨rfl,rfl⟩ | ⟨g,cap,cur,rfl,hbg,hg,hnc,hcm,hcs,htake⟩
 ·have hr:=run_append_nil (P:=P) w t ty e i z ht hi hz a m c news hl hnews hm (by omega) (by have hb:=hbytes; simp only [Nat.zero_add] at hb; omega)
  rw [hr] at hrun
  injection hrun with h2 h3
  subst h2 h3
  cases hg'
  refine noDig_cells (show blk (w.drew.alloc _) w.heap.size=some _ from blk_alloc_at w.drew _) ?_
  rw [Array.toList_append]
  exact (by simpa using hnn:NoD news.toArray.toList).append (noD_zero hzn _)
 ·by_cases hroom:n+m<=cap
  ·have hfit:n*i.size+news.length<=cur.size:=by rw [hl,hcs,<- Nat.add_mul]; exact Nat.mul_le_mul_right _ hroom
   have hr:=run_append_room (P:=P) w t ty e i ht hi g n cap cur hg a m c news hl hnews h1 hroom hfit
   rw [hr] at hrun
   injection hrun with h2 h3
   subst h2 h3
   cases hg'
   have hc:=(hnd g rfl).cells (show blk w g=some _ from hg)
   refine noDig_cells (show blk (w.setRow g _) g=some _ from setRow_heap w g cur _ e _ hg) ?_
   exact ((hc.take _).append hnn).append (hc.drop _)
  ·have holds:∀ j u,xs[j]?=some u->w.cell? ((⟨g,0,none⟩:Addr).add j)=some u:=hown.cells (g:=g) rfl
   have hr:=run_append_grow (P:=P) w t ty e i z ht hi hz ⟨g,0,none⟩ n cap xs hown.1 holds a m c news hl hnews (by omega) (by omega) (growslice_fits (by omega) hbytes)
   rw [hr] at hrun
   injection hrun with h2 h3
   subst h2 h3
   cases hg'
   refine noDig_cells (show blk (w.drew.alloc _) w.heap.size=some _ from blk_alloc_at w.drew _) ?_
   rw [Array.toList_append,Array.toList_append]
   exact (hxs.append (by simpa using hnn:NoD news.toArray.toList)).append (noD_zero hzn _)
end
structure RatC where
 ng:Bool
 a1:Option Addr
 m1:Nat
 c1:Nat
 a2:Option Addr
 m2:Nat
 c2:Nat
def RatC.cells (x:RatC):List Value:=[.bool x.ng,.slice x.a1 x.m1 x.c1,.slice x.a2 x.m2 x.c2]
def RatC.v (x:RatC):Value:=.agg #[.bool x.ng,.slice x.a1 x.m1 x.c1,.slice x.a2 x.m2 x.c2]
theorem ratC_noD (x:RatC):NoD x.cells:=fun u hu d e=>by
 subst e
 simp [RatC.cells] at hu
theorem ratC_one (x:RatC):∀ u ∈ x.cells,u.oneCell'=true:=fun u hu=>by
 simp [RatC.cells] at hu
 rcases hu with rfl | rfl | rfl <;> rfl
theorem ratsC_noD (cs:List RatC):NoD (cs.flatMap RatC.cells):=fun u hu=>by
 obtain ⟨x,hx,hu⟩:=List.mem_flatMap.1 hu
 exact ratC_noD x u hu
def ROwn (w:World) (base:Nat) (v:Value) (l:List Rat) (L:Nat):Prop :=
 ∃ cs:List RatC,cs.length=l.length/\w.ownsRow base 31 3 v l.length (cs.flatMap RatC.cells)/\(∀ g,v.ownBlock=some g->NoDig w g)/\∀ (i:Nat) c q,cs[i]?=some c->l[i]?=some q->Rrat w c.v q L
theorem ROwn.shape {w:World} {base:Nat} {v:Value} {l:List Rat} {L:Nat} (h:ROwn w base v l L):∃ ao cap,v=.slice ao l.length cap:=by
 obtain ⟨cs,_,h1,_⟩:=h
 exact ownsRow_shape h1
theorem ROwn.lt {w:World} {base:Nat} {v:Value} {l:List Rat} {L:Nat} (h:ROwn w base v l L):∀ g,v.ownBlock=some g->base<=g/\g<w.heap.size:=by
 obtain ⟨cs,_,h1,_⟩:=h
 exact h1.lt
theorem ROwn.past {S:Nat->Prop} {w w':World} {base:Nat} {v:Value} {l:List Rat} {L:Nat} (h:ROwn w base v l L) (hx:Ext S w w') (hn:∀ g,v.ownBlock=some g->¬ S g) (hr:∀ u d,Rds w u d->Rds w' u d):ROwn w' base v l L:=by
 have hlt:=h.lt
 obtain ⟨cs,h1,h2,h3,h4⟩:=h
 refine ⟨cs,h1,ownsRow_ext h2 hx hn,fun g hg i d hc=>h3 g hg i d ?_,fun i c q hc hq=>?_⟩
 ·rw [<- hx.cell (p:=⟨g,i,none⟩) (hlt g hg).2 (hn g hg)]; exact hc
 ·obtain ⟨n,m,d,l,k,g1,g2,g3,g4,g5⟩:=h4 i c q hc hq
  exact ⟨n,m,d,l,k,g1,hr _ _ g2,g3,hr _ _ g4,g5⟩
theorem ROwn.keep {w w':World} {base:Nat} {v:Value} {l:List Rat} {L:Nat} (h:ROwn w base v l L) (hx:XF w w'):ROwn w' base v l L:=h.past hx (fun _ _ h=>h) (fun _ _ hr=>hr.keep hx)
theorem ROwn.rats {w:World} {base:Nat} {v:Value} {l:List Rat} {L:Nat} (h:ROwn w base v l L):Rats w v l L:=by
 obtain ⟨cs,h1,h2,h3,h4⟩:=h
 rcases h2.2 with ⟨rfl,h0⟩ | ⟨g,cap,cur,rfl,hb,hg,hnc,hcm,hcs,htake⟩
 ·have hl:=List.eq_nil_of_length_eq_zero h0
  subst hl
  exact Rats.nil w L
 ·refine ⟨cs.map RatC.cells,by rw [List.length_map,h1],⟨some ⟨g,0,none⟩,cap,by rw [List.length_map,h1],by rw [List.length_map,h1]; exact hnc,hcm,(fun e=>by cases e),fun hp=>⟨g,0,rfl,(Array.getElem?_eq_some_iff.1 hg).1,fun i r hi j u hu=>?_⟩⟩,fun i c q hc hq=>?_⟩
  ·rw [List.getElem?_map] at hi
   obtain ⟨x,hx,rfl⟩:=Option.map_eq_some_iff.1 hi
   have hil:i<cs.length:=(List.getElem?_eq_some_iff.1 hx).1
   have hj:j<3:=(List.getElem?_eq_some_iff.1 hu).1
   have hget:=fm_get (f:=RatC.cells) (m:=3) (fun _=>rfl) cs i hx j hj
   rw [<- htake] at hget
   rw [Nat.zero_add,cell_of_cells (show blk w g=some _ from hg),<- Array.getElem?_toList,<- hu,<- hget,List.getElem?_take,if_pos (by
    have:i<l.length:=by omega
    omega)]
  ·rw [List.getElem?_map] at hc
   obtain ⟨x,hx,rfl⟩:=Option.map_eq_some_iff.1 hc
   exact h4 i x q hx hq
theorem run_append_rat (w:World) (base:Nat) (v:Value) (l:List Rat) (L:Nat) (x:RatC) (q:Rat) (ad:Addr) (c:Nat) (ty:TypeId) (h:ROwn w base v l L) (hq:Rrat w x.v q L) (hsrc:∀ j u,x.cells[j]?=some u->w.cell? (ad.add j)=some u) (hl:l.length<=1000000) (hbase:base<=w.heap.size) :
  ∃ v' w',(Builtin.append_ #[32,32] ty #[v,.slice (some ad) 1 c]).run Tryz.prog w=.ok v' w'/\ROwn w' base v' (l++[q]) L/\Ext (fun k=>v.ownBlock=some k) w w'/\(∀ u d,Rds w u d->Rds w' u d):=by
 obtain ⟨i0,hi,hz0,hz1,hz2⟩:=info_parts Tryz.infoRat
 obtain ⟨cs,h1,h2,h3,h4⟩:=h
 have h2':w.ownsRow base 31 i0.size v l.length (cs.flatMap RatC.cells):=by rw [hz1]; exact h2
 have hsz:(Value.agg #[.bool false,.slice none 0 0,.slice none 0 0]).cells.size=i0.size:=by rw [hz1]; rfl
 have hzn:NoD (Value.agg #[.bool false,.slice none 0 0,.slice none 0 0]).cells.toList:=ratC_noD ⟨false,none,0,0,none,0,0⟩
 have hbt:(l.length+1)*i0.bytes<=140737488355328:=by rw [hz2]; omega
 have h63:l.length+1<=maxLen:=by unfold maxLen; omega
 obtain ⟨v',w',hr,g1,g2,_,g5⟩:=run_append_own_at (P:=Tryz.prog) w base 32 ty 31 i0 _ i0.size i0.bytes Tryz.underlying32 hi hz0 rfl rfl hsz (by rw [hz1]; decide) v l.length _ h2' ad 1 c x.cells (by rw [hz1]; rfl) hsrc (ratC_one x) h63 hbt hbase
 have hx:Ext (fun k=>v.ownBlock=some k) w w':=(Ext.refl (fun k=>v.ownBlock=some k) w).grown g2 (fun k hk _=>hk)
 have hrd:∀ u d,Rds w u d->Rds w' u d:=fun u d hu=>hu.past hx (fun k _ hk=>h3 k hk)
 have hnd:=append_noDig (P:=Tryz.prog) w base 32 ty 31 i0 _ Tryz.underlying32 hi hz0 hsz hzn v l.length _ h2' h3 (ratsC_noD cs) ad 1 c x.cells (by rw [hz1]; rfl) hsrc (ratC_one x) (ratC_noD x) (by omega) h63 hbt v' w' hr
 refine ⟨v',w',hr,⟨cs++[x],by rw [List.length_append,List.length_append,h1]; rfl,?_,hnd,fun i c' q' hc' hq'=>?_⟩,hx,hrd⟩
 ·rw [List.length_append,List.flatMap_append,List.flatMap_cons,List.flatMap_nil,List.append_nil]
  rw [hz1] at g1
  exact g1
 ·have hkeep:∀ {c:RatC} {q:Rat},Rrat w c.v q L->Rrat w' c.v q L:=fun hh=>by
   obtain ⟨n,m,d,l,k,e1,e2,e3,e4,e5⟩:=hh
   exact ⟨n,m,d,l,k,e1,hrd _ _ e2,e3,hrd _ _ e4,e5⟩
  by_cases hi':i<cs.length
  ·rw [List.getElem?_append_left hi'] at hc'
   rw [List.getElem?_append_left (by omega)] at hq'
   exact hkeep (h4 i c' q' hc' hq')
  ·rw [List.getElem?_append_right (by omega)] at hc' hq'
   have e:i - cs.length=0:=by
    have:=(List.getElem?_eq_some_iff.1 hc').1
    simp at this
    omega
   rw [e] at hc'
   rw [show i - l.length=0 from by omega] at hq'
   cases hc'; cases hq'
   exact hkeep hq
theorem wpList_append_rat {w:World} {ops:Array Oper} {rest:List Oper} {o:Oper} {a:Act} {Q:Exit->Act->World->Prop} (hgd:o.guard=none) (s x:Operand)
  (ho:o.op=.call { callee:=.builtin .append,args:=#[s,x],argTypes:=#[32,32] })
  (base:Nat) (v:Value) (l:List Rat) (L:Nat) (hs:a.eval s=v) (hown:ROwn w base v l L) (e:RatC) (q:Rat) (hq:Rrat w e.v q L) (ad:Addr) (c:Nat) (hx:a.eval x=.slice (some ad) 1 c) (hsrc:∀ j u,e.cells[j]?=some u->w.cell? (ad.add j)=some u) (hl:l.length<=1000000) (hbase:base<=w.heap.size)
  (h:∀ v' w',ROwn w' base v' (l++[q]) L->Ext (fun k=>v.ownBlock=some k) w w'->(∀ u d,Rds w u d->Rds w' u d)->wpList Tryz.prog ops Q rest (a.put o.dst v') w') :
  wpList Tryz.prog ops Q (o :: rest) a w:=by
 refine wpList_plain hgd fun K hK=>?_
 obtain ⟨v',w',hr,h2,h3,h5⟩:=run_append_rat w base v l L e q ad c o.type hown hq hsrc hl hbase
 unfold Oper.wp execOp
 simp only [ho,resolve,invoke,builtin,Sem.run_bind,Sem.run_pure,Result.andThen_ok,List.map_toArray,List.map_cons,List.map_nil,hs,hx,hr]
 exact hK _ _ (h v' w' h2 h3 h5)
theorem step_append_rat {w:World} {ops:Array Oper} {o:Oper} {a:Act} {K:Act->World->Prop} {Q:Exit->Act->World->Prop} {E:Prop} (hgd:o.guard=none) (s x:Operand)
  (ho:o.op=.call { callee:=.builtin .append,args:=#[s,x],argTypes:=#[32,32] })
  (base:Nat) (v:Value) (l:List Rat) (L:Nat) (hs:a.eval s=v) (hown:ROwn w base v l L) (e:RatC) (q:Rat) (hq:Rrat w e.v q L) (ad:Addr) (c:Nat) (hx:a.eval x=.slice (some ad) 1 c) (hsrc:∀ j u,e.cells[j]?=some u->w.cell? (ad.add j)=some u) (hl:l.length<=1000000) (hbase:base<=w.heap.size)
  (h:∀ v' w',ROwn w' base v' (l++[q]) L->Ext (fun k=>v.ownBlock=some k) w w'->(∀ u d,Rds w u d->Rds w' u d)->K (a.put o.dst v') w') :
  if Region.wanted o (yielded ops a.tmps)=true then Oper.wp Tryz.prog o a w K Q else E:=by
 have hw:Region.wanted o (yielded ops a.tmps)=true:=by simp [Region.wanted,hgd]
 rw [if_pos hw]
 obtain ⟨v',w',hr,h2,h3,h5⟩:=run_append_rat w base v l L e q ad c o.type hown hq hsrc hl hbase
 unfold Oper.wp execOp
 simp only [ho,resolve,invoke,builtin,Sem.run_bind,Sem.run_pure,Result.andThen_ok,List.map_toArray,List.map_cons,List.map_nil,hs,hx,hr]
 exact h v' w' h2 h3 h5
theorem times_any (w:World) (k:Int) (v:Value) (q:Rat) (L:Nat) (hk:InR k) (h:Rrat w v q L) (hL:L<=1000000):Calls Tryz.prog 71 #[.int .i64 k,v] w (RatPost w ((k:Rat)*q)):=by
 obtain ⟨ng,a1,m1,c1,a2,m2,c2,rfl⟩:=h.shape
 have HF:=bH (fun W=>Rrfrom_any W k hk.1 hk.2)
 have hx:=((Ext.refl (fun _=>False) w).alloc (.cells #[.bool ng,.slice a1 m1 c1,.slice a2 m2 c2] 31)).alloc (.cells #[.bool false,.slice none 0 0,.slice none 0 0] 31)
 have hb0:=(boxR_new (W:=w) rfl ng a1 m1 c1 a2 m2 c2).alloc (.cells #[.bool false,.slice none 0 0,.slice none 0 0] 31)
 have hb1:=boxR_new (W:=w.alloc (.cells #[.bool ng,.slice a1 m1 c1,.slice a2 m2 c2] 31)) rfl false none 0 0 none 0 0
 rw [World.size_alloc] at hb1
 have HM:=bH (fun W u (hW:XF ((w.alloc (.cells #[.bool ng,.slice a1 m1 c1,.slice a2 m2 c2] 31)).alloc (.cells #[.bool false,.slice none 0 0,.slice none 0 0] 31)) W) (hu:IsRat W u (k:Rat))=>Rrmul_any W u _ _ q (L+2) (hu.reads ((Sz.int hk).mono (by omega))) ((h.keep (hx.trans hW)).mono (by omega)) (by omega) (by omega))
 have HB:=bH (bI hb1 hx)
 clear h hk
 obtain ⟨Q,hQ⟩:∃ Q,(k:Rat)*q=Q:=⟨_,rfl⟩
 rw [hQ] at HM ⊢
 clear hQ
 generalize (k:Rat)=kq at *
 go_enter Tryz.func71,Tryz.ntmps71
 go_upto_region 1 with fail
 generalize hw1:(w.alloc (.cells #[.bool ng,.slice a1 m1 c1,.slice a2 m2 c2] 31)).alloc (.cells #[.bool false,.slice none 0 0,.slice none 0 0] 31)=w1 at *
 clear hw1 hb1 hx
 obtain ⟨xb,hxb⟩:∃ xb,w.heap.size=xb:=⟨_,rfl⟩
 have hxw:w.heap.size<=xb:=Nat.le_of_eq hxb
 rw [hxb] at HB hb0 ⊢
 clear hxb
 obtain ⟨f0,f1,f2,-⟩:=hb0.facts
 have hS:S3 xb xb xb 0 1 2 (.bool ng) (.slice a1 m1 c1) (.slice a2 m2 c2) w1:=⟨f0,f1,f2⟩
 clear f0 f1 f2 hb0
 refine ends_begin 4 (S3 xb xb xb 0 1 2 (.bool ng) (.slice a1 m1 c1) (.slice a2 m2 c2)) (by kernel_rfl) (hS.drew) (fun hHeld=>?_)
 refine ends_take 0 (v:=?_) rfl (by kernel_rfl) (by kernel_rfl) (by kernel_rfl) (by kernel_rfl) (fun _ _ _ h=>h) (by rfl) ?_ (by assumption) ?_
 rotate_left
 ·((intro w hSw; (try dsimp only at hSw); go_simp) <;> with_reducible rfl)
 (try go_frame)
 refine ends_take 2 (v:=?_) rfl (by kernel_rfl) (by kernel_rfl) (by kernel_rfl) (by kernel_rfl) (fun _ _ _ h=>h) (by rfl) ?_ (by assumption) ?_
 rotate_left
 ·((intro w hSw; (try dsimp only at hSw); go_simp) <;> with_reducible rfl)
 (try go_frame)
 refine ends_step 1 rfl (by kernel_rfl) (fun K hK=>?_)
 (go_simp; go_at_call 32; (with_reducible refine (HF.out _).mono ?_); rintro q1 w11 ⟨v11,rfl,h11,hx11⟩; have hX1:=(Ext.refl (fun _=>False) w1).drew.trans hx11; have hK1:=hS.keep hX1; have hM:=HM.out w11 _ hX1 h11; obtain ⟨n11,a11,l11,c11,a11',l11',c11',rfl⟩:=h11.shape)
 refine hK.out _ _ (hK1) (fun hHeld=>?_)
 clear hK K
 (try go_frame)
 refine ends_step 3 rfl (by kernel_rfl) (fun K hK=>?_)
 (go_simp; go_at_call 31; (with_reducible refine hM.mono ?_); rintro q2 w12 ⟨v12,rfl,h12,hx12⟩; have hX2:=hX1.trans hx12; have hK2:=hS.keep hX2; obtain ⟨n12,a12,l12,c12,a12',l12',c12',rfl⟩:=h12.shape; have hbr:=HB.out.1.keep hX2)
 refine hK.out _ _ (hK2) (fun hHeld=>?_)
 clear hK K
 (try go_frame)
 obtain ⟨d0,d1,d2,d3,d4,d5⟩:=hbr.facts
 refine ends_last rfl (by kernel_rfl) (fun K hK=>?_)
 go_simp
 refine hK.out _ _ ?_
 clear hK K
 (try go_frame)
 refine ends_done (by kernel_rfl) ?_ _
 have HP:=bH (rat_put (w:=w) hbr (by omega) (HB.out.2.trans hX2) h12)
 clear hX1 hX2 hK1 hK2 h11 h12 hx11 hx12 hM hS hbr d0 d1 d2 d3 d4 d5 hHeld HF HM
 go_wp2
 generalize ((w12.setCell ⟨xb+1,0,none⟩ (.bool n12)).setCell ⟨xb+1,1,none⟩ (.slice a12 l12 c12)).setCell ⟨xb+1,2,none⟩ (.slice a12' l12' c12')=w9 at *
 obtain ⟨g0,g1,g2,_⟩:=HP.out.1.facts
 exact bodyPost_ret (v:=.agg #[.bool n12,.slice a12 l12 c12,.slice a12' l12' c12']) (by simp [results,Tryz.results71,go_sem,g0,g1,g2]) rfl HP.out.2
theorem Dot4_any (w:World) (tv xv:Value) (ts:List TermV) (x:List Rat) (L:Nat) (hv:Tms w tv ts) (hl:Rats w xv x L) (h1:1<=L) (hL:1+ts.length*(L+3)+(L+3)<=1000000) :
  Calls Tryz.prog 110 #[tv,xv] w (RatPost w (dotQ ts x)):=by
 obtain ⟨vo,vc,rfl,-,hn,-⟩:=hv.shape
 have HT:=bH (bI hv hl)
 have hbr:=(boxR_new (W:=w) rfl false none 0 0 none 0 0).alloc (.cells #[.bool false,.slice none 0 0,.slice none 0 0] 31)
 have hbs:=boxR_new (W:=w.alloc (.cells #[.bool false,.slice none 0 0,.slice none 0 0] 31)) rfl false none 0 0 none 0 0
 rw [World.size_alloc] at hbs
 have HB:=bH (bI hbr (bI hbs (((Ext.refl (fun _=>False) w).alloc (.cells #[.bool false,.slice none 0 0,.slice none 0 0] 31)).alloc (.cells #[.bool false,.slice none 0 0,.slice none 0 0] 31))))
 have Hsz:=bH (fun i hi=>sum_size (f:=fun k=>(ts.getD k term0).coef) (g:=fun k=>atQ x (ts.getD k term0).var) (L:=L) (n:=ts.length) (fun k hk=>(hv.ok k hk).coef) (fun k _=>hl.sz h1 _) i hi)
 have Hx:=bH (fun i:Int=>hl.sz h1 i)
 have HA0:=bH (fun W (hW:XF w W) (i:Int)=>At_any W _ x L (hl.keep hW) i)
 clear hv hl hbr hbs
 unfold dotQ
 obtain ⟨n,hn'⟩:∃ n,ts.length=n:=⟨_,rfl⟩
 have HN:=bH hn'
 rw [hn'] at hn hL HT Hsz ⊢
 clear hn'
 go_enter Tryz.func110,Tryz.ntmps110
 go_upto_region 2 with fail
 generalize hw1:(w.alloc (.cells #[.bool false,.slice none 0 0,.slice none 0 0] 31)).alloc (.cells #[.bool false,.slice none 0 0,.slice none 0 0] 31)=w1 at *
 clear hw1
 obtain ⟨rb,hrb0⟩:∃ rb,w.heap.size=rb:=⟨_,rfl⟩
 have hrw:w.heap.size<=rb:=Nat.le_of_eq hrb0
 rw [hrb0] at HB ⊢
 clear hrb0
 obtain ⟨sb,hsb0⟩:∃ sb,rb+1=sb:=⟨_,rfl⟩
 have hsr:rb<sb:=by omega
 rw [hsb0] at HB ⊢
 clear hsb0
 go_wp2_with fail
 go_loopg [6] n (fun gg v6 wr=>∃ i:Nat,i<=n/\gg=n - i/\v6=.int .i64 i/\(∃ sn s1 sm1 sc1 s2 sm2 sc2,BoxR wr sb sn (.slice s1 sm1 sc1) (.slice s2 sm2 sc2)/\IsRat wr (.agg #[.bool sn,.slice s1 sm1 sc1,.slice s2 sm2 sc2]) (sumTo i fun k=>((ts.getD k term0).coef:Rat)*atQ x (ts.getD k term0).var))/\BoxR wr rb false (.slice none 0 0) (.slice none 0 0)/\XF w wr)
 case atStart=>exact ⟨0,Nat.zero_le _,rfl,rfl,⟨_,_,_,_,_,_,_,HB.out.2.1,IsRat.zero _⟩,HB.out.1,HB.out.2.2⟩
 case round =>
  obtain ⟨i,hi,rfl,rfl,hst,hrb,hx⟩:=hrel
  by_cases hin:i<n
  ·have i0:(i:Int)<(n:Int):=by omega
   have i1:(0:Int)<=(i:Int):=by omega
   obtain ⟨sn,s1,sm1,sc1,s2,sm2,sc2,hsb,hsq⟩:=hst
   obtain ⟨b,off,rfl,-,e0,e1,hok⟩:=(HT.out.1.keep hx).at i (by rw [HN.out]; exact hin)
   have hszi:=Hsz.out i hi
   have hle:=Nat.mul_le_mul_right (L+3) hi
   have HStep:=bH (show sumTo (i+1) (fun k=>((ts.getD k term0).coef:Rat)*atQ x (ts.getD k term0).var)=sumTo i (fun k=>((ts.getD k term0).coef:Rat)*atQ x (ts.getD k term0).var)+((ts.getD i term0).coef:Rat)*atQ x (ts.getD i term0).var from rfl)
   have HAt:=bH (fun W (hW:XF w W)=>HA0.out W hW (ts.getD i term0).var)
   have HTm:=bH (fun W u (hu:Rrat W u (atQ x (ts.getD i term0).var) L)=>times_any W (ts.getD i term0).coef u _ L hok.coef hu (by omega))
   have hpr:=(Sz.int hok.coef).mul (Hx.out (ts.getD i term0).var)
   have HAd:=bH (fun W u (hW:XF wr W) (hu:IsRat W u (((ts.getD i term0).coef:Rat)*atQ x (ts.getD i term0).var))=>Rradd_any W _ u _ _ 1000000 ((hsq.keep hW).reads (hszi.mono (by omega))) (hu.reads (hpr.mono (by omega))) (by omega) (by omega))
   rw [<- HStep.out] at HAd
   obtain ⟨t0,t1,t2,-⟩:=hsb.facts
   have hS:S5 sb sb sb b b 0 1 2 (off+i*2) (off+i*2+1) (.bool sn) (.slice s1 sm1 sc1) (.slice s2 sm2 sc2) (.int .i64 (ts.getD i term0).var) (.int .i64 (ts.getD i term0).coef) wr:=⟨t0,t1,t2,e0,e1⟩
   have HSB:=bH (bI hsb hrb)
   have hx6:=hx
   clear hsb hrb hsq hx e0 e1 t0 t1 t2 hok hszi hpr hle HStep
   generalize (((ts.getD i term0).coef:Int):Rat)*atQ x (ts.getD i term0).var=PR at *
   generalize atQ x (ts.getD i term0).var=AQ at *
   generalize (ts.getD i term0).var=tvr at *
   generalize (ts.getD i term0).coef=co at *
   go_upto_region 5 with fail
   refine ends_begin 15 (S5 sb sb sb b b 0 1 2 (off+i*2) (off+i*2+1) (.bool sn) (.slice s1 sm1 sc1) (.slice s2 sm2 sc2) (.int .i64 tvr) (.int .i64 co)) (by kernel_rfl) (hS.drew) (fun hHeld=>?_)
   refine ends_take 0 (v:=?_) rfl (by kernel_rfl) (by kernel_rfl) (by kernel_rfl) (by kernel_rfl) (fun _ _ _ h=>h) (by rfl) ?_ (by assumption) ?_
   rotate_left
   ·((intro w hSw; (try dsimp only at hSw); go_simp) <;> with_reducible rfl)
   (try go_frame)
   refine ends_take 1 (v:=?_) rfl (by kernel_rfl) (by kernel_rfl) (by kernel_rfl) (by kernel_rfl) (fun _ _ _ h=>h) (by rfl) ?_ (by assumption) ?_
   rotate_left
   ·((intro w hSw; (try dsimp only at hSw); go_simp) <;> with_reducible rfl)
   (try go_frame)
   refine ends_take 2 (v:=?_) rfl (by kernel_rfl) (by kernel_rfl) (by kernel_rfl) (by kernel_rfl) (fun _ _ _ h=>h) (by rfl) ?_ (by assumption) ?_
   rotate_left
   ·((intro w hSw; (try dsimp only at hSw); go_simp) <;> with_reducible rfl)
   (try go_frame)
   refine ends_take 3 (v:=?_) rfl (by kernel_rfl) (by kernel_rfl) (by kernel_rfl) (by kernel_rfl) (fun _ _ _ h=>h) (by rfl) ?_ (by assumption) ?_
   rotate_left
   ·((intro w hSw; (try dsimp only at hSw); go_simp) <;> with_reducible rfl)
   (try go_frame)
   refine ends_take 4 (v:=?_) rfl (by kernel_rfl) (by kernel_rfl) (by kernel_rfl) (by kernel_rfl) (fun _ _ _ h=>h) (by rfl) ?_ (by assumption) ?_
   rotate_left
   ·((intro w hSw; (try dsimp only at hSw); go_simp) <;> with_reducible rfl)
   (try go_frame)
   refine ends_take 5 (v:=?_) rfl (by kernel_rfl) (by kernel_rfl) (by kernel_rfl) (by kernel_rfl) (fun _ _ _ h=>h) (by rfl) ?_ (by assumption) ?_
   rotate_left
   ·((intro w hSw; (try dsimp only at hSw); go_simp) <;> with_reducible rfl)
   (try go_frame)
   refine ends_take 6 (v:=?_) rfl (by kernel_rfl) (by kernel_rfl) (by kernel_rfl) (by kernel_rfl) (fun _ _ _ h=>h) (by rfl) ?_ (by assumption) ?_
   rotate_left
   ·((intro w hSw; (try dsimp only at hSw); go_simp) <;> with_reducible rfl)
   (try go_frame)
   refine ends_take 7 (v:=?_) rfl (by kernel_rfl) (by kernel_rfl) (by kernel_rfl) (by kernel_rfl) (fun _ _ _ h=>h) (by rfl) ?_ (by assumption) ?_
   rotate_left
   ·((intro w hSw; (try dsimp only at hSw); go_simp) <;> with_reducible rfl)
   (try go_frame)
   refine ends_take 8 (v:=?_) rfl (by kernel_rfl) (by kernel_rfl) (by kernel_rfl) (by kernel_rfl) (fun _ _ _ h=>h) (by rfl) ?_ (by assumption) ?_
   rotate_left
   ·((intro w hSw; (try dsimp only at hSw); go_simp) <;> with_reducible rfl)
   (try go_frame)
   refine ends_take 9 (v:=?_) rfl (by kernel_rfl) (by kernel_rfl) (by kernel_rfl) (by kernel_rfl) (fun _ _ _ h=>h) (by rfl) ?_ (by assumption) ?_
   rotate_left
   ·((intro w hSw; (try dsimp only at hSw); go_simp) <;> with_reducible rfl)
   (try go_frame)
   refine ends_take 10 (v:=?_) rfl (by kernel_rfl) (by kernel_rfl) (by kernel_rfl) (by kernel_rfl) (fun _ _ _ h=>h) (by rfl) ?_ (by assumption) ?_
   rotate_left
   ·((intro w hSw; (try dsimp only at hSw); go_simp) <;> with_reducible rfl)
   (try go_frame)
   refine ends_take 11 (v:=?_) rfl (by kernel_rfl) (by kernel_rfl) (by kernel_rfl) (by kernel_rfl) (fun _ _ _ h=>h) (by rfl) ?_ (by assumption) ?_
   rotate_left
   ·((intro w hSw; (try dsimp only at hSw); go_simp) <;> with_reducible rfl)
   (try go_frame)
   refine ends_step 12 rfl (by kernel_rfl) (fun K hK=>?_)
   (go_simp; go_at_call 30; (with_reducible refine (HAt.out _ (hx6.drew)).mono ?_); rintro q1 w11 ⟨v11,rfl,h11,hx11⟩; have hX1:=(Ext.refl (fun _=>False) wr).drew.trans hx11; have hK1:=hS.keep hX1; have hT:=HTm.out w11 _ h11; obtain ⟨n11,a11,l11,c11,a11',l11',c11',rfl⟩:=h11.shape)
   refine hK.out _ _ (hK1) (fun hHeld=>?_)
   clear hK K
   (try go_frame)
   refine ends_step 13 rfl (by kernel_rfl) (fun K hK=>?_)
   (go_simp; go_at_call 71; (with_reducible refine hT.mono ?_); rintro q2 w12 ⟨v12,rfl,h12,hx12⟩; have hX2:=hX1.trans hx12; have hK2:=hS.keep hX2; have hA:=HAd.out w12 _ hX2 h12; obtain ⟨n12,a12,l12,c12,a12',l12',c12',rfl⟩:=h12.shape)
   refine hK.out _ _ (hK2) (fun hHeld=>?_)
   clear hK K
   (try go_frame)
   refine ends_step 14 rfl (by kernel_rfl) (fun K hK=>?_)
   (go_simp; go_at_call 29; (with_reducible refine hA.mono ?_); rintro q3 w13 ⟨v13,rfl,h13,hx13⟩; have hX3:=hX2.trans hx13; have hK3:=hS.keep hX3; obtain ⟨n13,a13,l13,c13,a13',l13',c13',rfl⟩:=h13.shape; have hbr:=HSB.out.1.keep hX3)
   refine hK.out _ _ (hK3) (fun hHeld=>?_)
   clear hK K
   (try go_frame)
   obtain ⟨d0,d1,d2,d3,d4,d5⟩:=hbr.facts
   refine ends_last rfl (by kernel_rfl) (fun K hK=>?_)
   go_simp
   refine hK.out _ _ ?_
   clear hK K
   (try go_frame)
   refine ends_done (by kernel_rfl) ?_ _
   have HX:=bH (hx6.trans hX3)
   have hp:=hbr.put (neg:=n13) (no_int a13 l13 c13) (no_int a13' l13' c13')
   have HP:=bH (bI hp.box (bI (hp.rat h13) (bI (HX.out.own hp.ext (fun k e=>by omega)) ((HSB.out.2.keep hX3).ext hp.ext (fun e=>by omega)))))
   clear hp hbr hX1 hX2 hX3 hK1 hK2 hK3 h11 h12 h13 hx11 hx12 hx13 hT hA hS hHeld d0 d1 d2 d3 d4 d5 HAd HTm HSB
   generalize ((w13.setCell ⟨sb,0,none⟩ (.bool n13)).setCell ⟨sb,1,none⟩ (.slice a13 l13 c13)).setCell ⟨sb,2,none⟩ (.slice a13' l13' c13')=w9 at *
   go_wp2
   go_roundg (n - (i+1))
   case measure=>omega
   case rel=>exact ⟨i+1,by omega,rfl,by go_num,⟨_,_,_,_,_,_,_,HP.out.1,HP.out.2.1⟩,HP.out.2.2.2,HP.out.2.2.1⟩
  ·obtain rfl:i=n:=by omega
   obtain ⟨sn,s1,sm1,sc1,s2,sm2,sc2,hsb,hsq⟩:=hst
   obtain ⟨e0,e1,e2,_⟩:=hsb.facts
   obtain ⟨d0,d1,d2,d3,d4,d5⟩:=hrb.facts
   have hp:=hrb.put (neg:=sn) (no_int s1 sm1 sc1) (no_int s2 sm2 sc2)
   have HR:=bH (bI (hp.rat hsq) (bI (hx.own hp.ext (fun k e=>by omega)) hp.box))
   clear hp hsb hsq hrb hx
   go_wp2
   generalize ((wr.setCell ⟨rb,0,none⟩ (.bool sn)).setCell ⟨rb,1,none⟩ (.slice s1 sm1 sc1)).setCell ⟨rb,2,none⟩ (.slice s2 sm2 sc2)=w9 at *
   obtain ⟨g0,g1,g2,_⟩:=HR.out.2.2.facts
   exact bodyPost_ret (v:=.agg #[.bool sn,.slice s1 sm1 sc1,.slice s2 sm2 sc2]) (by simp [results,Tryz.results110,go_sem,g0,g1,g2]) rfl ⟨_,rfl,HR.out.1,HR.out.2.1⟩
theorem Cost4_any (w:World) (pv xv:Value) (p:ProgV) (x:List Rat) (L:Nat) (hp:IsPrg w pv p) (hl:Rats w xv x L) (h1:1<=L) (hL:1+p.vars.length*(L+3)+(L+3)<=1000000) :
  Calls Tryz.prog 26 #[pv,xv] w (RatPost w (costQ p x)):=by
 obtain ⟨vv,rv,rfl,hv,-⟩:=hp
 obtain ⟨vo,vc,rfl,-,hn,-⟩:=hv.shape
 have HT:=bH (bI hv hl)
 have Hsz:=bH (fun i hi=>sum_size (f:=fun k=>(p.v k).co) (g:=fun k=>atQ x k) (L:=L) (n:=p.vars.length) (fun k hk=>(hv.ok k hk).co) (fun k _=>hl.sz h1 _) i hi)
 have Hx:=bH (fun i:Int=>hl.sz h1 i)
 have HA0:=bH (fun W (hW:XF w W) (i:Int)=>At_any W _ x L (hl.keep hW) i)
 clear hv hl
 unfold costQ
 obtain ⟨n,hn'⟩:∃ n,p.vars.length=n:=⟨_,rfl⟩
 have HN:=bH hn'
 rw [hn'] at hn hL HT Hsz ⊢
 clear hn'
 obtain ⟨b0,b1,b2,hx⟩:=box3 w (.cells #[.slice vo n vc,rv] 25) (.cells #[.bool false,.slice none 0 0,.slice none 0 0] 31) (.cells #[.bool false,.slice none 0 0,.slice none 0 0] 31)
 have HB:=bH (bI b0 (bI (boxR_of b1) (bI (boxR_of b2) hx)))
 clear b0 b1 b2 hx
 go_enter Tryz.func26,Tryz.ntmps26
 go_upto_region 2 with fail
 generalize hw1:((w.alloc (.cells #[.slice vo n vc,rv] 25)).alloc (.cells #[.bool false,.slice none 0 0,.slice none 0 0] 31)).alloc (.cells #[.bool false,.slice none 0 0,.slice none 0 0] 31)=w1 at *
 clear hw1
 obtain ⟨pb,hpb0⟩:∃ pb,w.heap.size=pb:=⟨_,rfl⟩
 have hpw:w.heap.size<=pb:=Nat.le_of_eq hpb0
 rw [hpb0] at HB ⊢
 clear hpb0
 obtain ⟨rb,hrb0⟩:∃ rb,pb+1=rb:=⟨_,rfl⟩
 obtain ⟨sb,hsb0⟩:∃ sb,rb+1=sb:=⟨_,rfl⟩
 have hpr0:pb<rb:=by omega
 have hsr:rb<sb:=by omega
 rw [hrb0,hsb0] at HB ⊢
 clear hsb0 hrb0
 have z0:=cellq HB.out.1 0 rfl
 go_wp2_with fail
 go_loopg [6] n (fun gg v6 wr=>∃ i:Nat,i<=n/\gg=n - i/\v6=.int .i64 i/\(∃ sn s1 sm1 sc1 s2 sm2 sc2,BoxR wr sb sn (.slice s1 sm1 sc1) (.slice s2 sm2 sc2)/\IsRat wr (.agg #[.bool sn,.slice s1 sm1 sc1,.slice s2 sm2 sc2]) (sumTo i fun k=>((p.v k).co:Rat)*atQ x k))/\(BoxR wr rb false (.slice none 0 0) (.slice none 0 0)/\wr.cell? ⟨pb,0,none⟩=some (.slice vo n vc))/\XF w wr)
 case atStart=>exact ⟨0,Nat.zero_le _,rfl,rfl,⟨_,_,_,_,_,_,_,HB.out.2.2.1,IsRat.zero _⟩,⟨HB.out.2.1,z0⟩,HB.out.2.2.2⟩
 case round =>
  clear z0
  obtain ⟨i,hi,rfl,rfl,hst,⟨hrb,z0⟩,hx⟩:=hrel
  by_cases hin:i<n
  ·have i0:(i:Int)<(n:Int):=by omega
   have i1:(0:Int)<=(i:Int):=by omega
   obtain ⟨sn,s1,sm1,sc1,s2,sm2,sc2,hsb,hsq⟩:=hst
   obtain ⟨b,off,rfl,-,-,-,-,-,e4,hok⟩:=(HT.out.1.keep hx).atp i (by rw [HN.out]; exact hin)
   have hszi:=Hsz.out i hi
   have hle:=Nat.mul_le_mul_right (L+3) hi
   have HStep:=bH (show sumTo (i+1) (fun k=>((p.v k).co:Rat)*atQ x k)=sumTo i (fun k=>((p.v k).co:Rat)*atQ x k)+((p.v i).co:Rat)*atQ x i from rfl)
   have HAt:=bH (fun W (hW:XF w W)=>HA0.out W hW i)
   have HTm:=bH (fun W u (hu:Rrat W u (atQ x i) L)=>times_any W (p.v i).co u _ L hok.co hu (by omega))
   have hpr:=(Sz.int hok.co).mul (Hx.out i)
   have HAd:=bH (fun W u (hW:XF wr W) (hu:IsRat W u (((p.v i).co:Rat)*atQ x i))=>Rradd_any W _ u _ _ 1000000 ((hsq.keep hW).reads (hszi.mono (by omega))) (hu.reads (hpr.mono (by omega))) (by omega) (by omega))
   rw [<- HStep.out] at HAd
   obtain ⟨t0,t1,t2,-⟩:=hsb.facts
   have hS:S5 sb sb sb pb b 0 1 2 0 (off+i*5+4) (.bool sn) (.slice s1 sm1 sc1) (.slice s2 sm2 sc2) (.slice (some ⟨b,off,none⟩) n vc) (.int .i64 (p.v i).co) wr:=⟨t0,t1,t2,z0,e4⟩
   have HSB:=bH (bI hsb hrb)
   have hx6:=hx
   clear hsb hrb hsq hx e4 t0 t1 t2 z0 hok hszi hpr hle HStep
   generalize (((p.v i).co:Int):Rat)*atQ x i=PR at *
   generalize atQ x i=AQ at *
   generalize (p.v i).co=co at *
   go_upto_region 5 with fail
   refine ends_begin 12 (S5 sb sb sb pb b 0 1 2 0 (off+i*5+4) (.bool sn) (.slice s1 sm1 sc1) (.slice s2 sm2 sc2) (.slice (some ⟨b,off,none⟩) n vc) (.int .i64 co)) (by kernel_rfl) (hS.drew) (fun hHeld=>?_)
   refine ends_take 0 (v:=?_) rfl (by kernel_rfl) (by kernel_rfl) (by kernel_rfl) (by kernel_rfl) (fun _ _ _ h=>h) (by rfl) ?_ (by assumption) ?_
   rotate_left
   ·((intro w hSw; (try dsimp only at hSw); go_simp) <;> with_reducible rfl)
   (try go_frame)
   refine ends_take 1 (v:=?_) rfl (by kernel_rfl) (by kernel_rfl) (by kernel_rfl) (by kernel_rfl) (fun _ _ _ h=>h) (by rfl) ?_ (by assumption) ?_
   rotate_left
   ·((intro w hSw; (try dsimp only at hSw); go_simp) <;> with_reducible rfl)
   (try go_frame)
   refine ends_take 2 (v:=?_) rfl (by kernel_rfl) (by kernel_rfl) (by kernel_rfl) (by kernel_rfl) (fun _ _ _ h=>h) (by rfl) ?_ (by assumption) ?_
   rotate_left
   ·((intro w hSw; (try dsimp only at hSw); go_simp) <;> with_reducible rfl)
   (try go_frame)
   refine ends_take 3 (v:=?_) rfl (by kernel_rfl) (by kernel_rfl) (by kernel_rfl) (by kernel_rfl) (fun _ _ _ h=>h) (by rfl) ?_ (by assumption) ?_
   rotate_left
   ·((intro w hSw; (try dsimp only at hSw); go_simp) <;> with_reducible rfl)
   (try go_frame)
   refine ends_take 4 (v:=?_) rfl (by kernel_rfl) (by kernel_rfl) (by kernel_rfl) (by kernel_rfl) (fun _ _ _ h=>h) (by rfl) ?_ (by assumption) ?_
   rotate_left
   ·((intro w hSw; (try dsimp only at hSw); go_simp) <;> with_reducible rfl)
   (try go_frame)
   refine ends_take 5 (v:=?_) rfl (by kernel_rfl) (by kernel_rfl) (by kernel_rfl) (by kernel_rfl) (fun _ _ _ h=>h) (by rfl) ?_ (by assumption) ?_
   rotate_left
   ·((intro w hSw; (try dsimp only at hSw); go_simp) <;> with_reducible rfl)
   (try go_frame)
   refine ends_take 6 (v:=?_) rfl (by kernel_rfl) (by kernel_rfl) (by kernel_rfl) (by kernel_rfl) (fun _ _ _ h=>h) (by rfl) ?_ (by assumption) ?_
   rotate_left
   ·((intro w hSw; (try dsimp only at hSw); go_simp) <;> with_reducible rfl)
   (try go_frame)
   refine ends_take 7 (v:=?_) rfl (by kernel_rfl) (by kernel_rfl) (by kernel_rfl) (by kernel_rfl) (fun _ _ _ h=>h) (by rfl) ?_ (by assumption) ?_
   rotate_left
   ·((intro w hSw; (try dsimp only at hSw); go_simp) <;> with_reducible rfl)
   (try go_frame)
   refine ends_take 8 (v:=?_) rfl (by kernel_rfl) (by kernel_rfl) (by kernel_rfl) (by kernel_rfl) (fun _ _ _ h=>h) (by rfl) ?_ (by assumption) ?_
   rotate_left
   ·((intro w hSw; (try dsimp only at hSw); go_simp) <;> with_reducible rfl)
   (try go_frame)
   refine ends_step 9 rfl (by kernel_rfl) (fun K hK=>?_)
   (go_simp; go_at_call 30; (with_reducible refine (HAt.out _ (hx6.drew)).mono ?_); rintro q1 w11 ⟨v11,rfl,h11,hx11⟩; have hX1:=(Ext.refl (fun _=>False) wr).drew.trans hx11; have hK1:=hS.keep hX1; have hT:=HTm.out w11 _ h11; obtain ⟨n11,a11,l11,c11,a11',l11',c11',rfl⟩:=h11.shape)
   refine hK.out _ _ (hK1) (fun hHeld=>?_)
   clear hK K
   (try go_frame)
   refine ends_step 10 rfl (by kernel_rfl) (fun K hK=>?_)
   (go_simp; go_at_call 71; (with_reducible refine hT.mono ?_); rintro q2 w12 ⟨v12,rfl,h12,hx12⟩; have hX2:=hX1.trans hx12; have hK2:=hS.keep hX2; have hA:=HAd.out w12 _ hX2 h12; obtain ⟨n12,a12,l12,c12,a12',l12',c12',rfl⟩:=h12.shape)
   refine hK.out _ _ (hK2) (fun hHeld=>?_)
   clear hK K
   (try go_frame)
   refine ends_step 11 rfl (by kernel_rfl) (fun K hK=>?_)
   (go_simp; go_at_call 29; (with_reducible refine hA.mono ?_); rintro q3 w13 ⟨v13,rfl,h13,hx13⟩; have hX3:=hX2.trans hx13; have hK3:=hS.keep hX3; obtain ⟨n13,a13,l13,c13,a13',l13',c13',rfl⟩:=h13.shape; have hbr:=HSB.out.1.keep hX3)
   refine hK.out _ _ (hK3) (fun hHeld=>?_)
   clear hK K
   (try go_frame)
   obtain ⟨d0,d1,d2,d3,d4,d5⟩:=hbr.facts
   refine ends_last rfl (by kernel_rfl) (fun K hK=>?_)
   go_simp
   refine hK.out _ _ ?_
   clear hK K
   (try go_frame)
   refine ends_done (by kernel_rfl) ?_ _
   have HX:=bH (hx6.trans hX3)
   have hp:=hbr.put (neg:=n13) (no_int a13 l13 c13) (no_int a13' l13' c13')
   have HP:=bH (bI hp.box (bI (hp.rat h13) (bI (HX.out.own hp.ext (fun k e=>by omega)) ((HSB.out.2.keep hX3).ext hp.ext (fun e=>by omega)))))
   have np:¬ pb=sb:=by omega
   have HPc:Hid ((((w13.setCell ⟨sb,0,none⟩ (.bool n13)).setCell ⟨sb,1,none⟩ (.slice a13 l13 c13)).setCell ⟨sb,2,none⟩ (.slice a13' l13' c13')).cell? ⟨pb,0,none⟩=some (.slice (some ⟨b,off,none⟩) n vc)):=bH (cell_other (cell_other (cell_other hK3.2.2.2.1 np) np) np)
   clear hp hbr hX1 hX2 hX3 hK1 hK2 hK3 h11 h12 h13 hx11 hx12 hx13 hT hA hS hHeld d0 d1 d2 d3 d4 d5 HAd HTm HSB
   generalize ((w13.setCell ⟨sb,0,none⟩ (.bool n13)).setCell ⟨sb,1,none⟩ (.slice a13 l13 c13)).setCell ⟨sb,2,none⟩ (.slice a13' l13' c13')=w9 at *
   go_wp2
   go_roundg (n - (i+1))
   case measure=>omega
   case rel=>exact ⟨i+1,by omega,rfl,by go_num,⟨_,_,_,_,_,_,_,HP.out.1,HP.out.2.1⟩,⟨HP.out.2.2.2,HPc.out⟩,HP.out.2.2.1⟩
  ·obtain rfl:i=n:=by omega
   obtain ⟨sn,s1,sm1,sc1,s2,sm2,sc2,hsb,hsq⟩:=hst
   obtain ⟨e0,e1,e2,_⟩:=hsb.facts
   obtain ⟨d0,d1,d2,d3,d4,d5⟩:=hrb.facts
   have hp:=hrb.put (neg:=sn) (no_int s1 sm1 sc1) (no_int s2 sm2 sc2)
   have HR:=bH (bI (hp.rat hsq) (bI (hx.own hp.ext (fun k e=>by omega)) hp.box))
   clear hp hsb hsq hrb hx
   go_wp2
   generalize ((wr.setCell ⟨rb,0,none⟩ (.bool sn)).setCell ⟨rb,1,none⟩ (.slice s1 sm1 sc1)).setCell ⟨rb,2,none⟩ (.slice s2 sm2 sc2)=w9 at *
   obtain ⟨g0,g1,g2,_⟩:=HR.out.2.2.facts
   exact bodyPost_ret (v:=.agg #[.bool sn,.slice s1 sm1 sc1,.slice s2 sm2 sc2]) (by simp [results,Tryz.results26,go_sem,g0,g1,g2]) rfl ⟨_,rfl,HR.out.1,HR.out.2.1⟩
theorem ROwn.empty {w:World} {g base:Nat} (L:Nat) (h:blk w g=some (.cells #[] 31 (0,0))) (hb:base<=g):ROwn w base (.slice (some ⟨g,0,none⟩) 0 0) [] L :=
 ⟨[],rfl,ownsRow_empty 3 hb h,(fun g' e=>by cases e; exact noDig_cells h (fun u hu=>by cases hu)),(fun i c q h=>by simp at h)⟩
def RatsPost (w:World) (l:List Rat) (L:Nat) (r:Ending) (w':World):Prop:=∃ v,r=.returned v/\Rats w' v l L/\XF w w'
theorem ext_own {w0 w w':World} {v:Value} (h:XF w0 w) (hx:Ext (fun k=>v.ownBlock=some k) w w') (hb:∀ g,v.ownBlock=some g->w0.heap.size<=g):XF w0 w' :=
 h.own hx (fun k hk=>hb k hk)
theorem Point_any (w:World) (pv xv:Value) (p:ProgV) (x:List Rat) (L:Nat) (hp:IsPrg w pv p) (hl:Rats w xv x L) (hn0:p.vars.length<=1000000) :
  Calls Tryz.prog 111 #[pv,xv] w (RatsPost w (listTo p.vars.length fun i=>atQ x i) L):=by
 obtain ⟨vv,rv,rfl,hv,-⟩:=hp
 obtain ⟨vo,vc,rfl,-,hn,-⟩:=hv.shape
 have HA:=bH (fun W (hW:XF w W) (i:Int)=>At_any W _ x L (hl.keep hW) i)
 clear hv hl
 obtain ⟨n,hn'⟩:∃ n,p.vars.length=n:=⟨_,rfl⟩
 rw [hn'] at hn hn0 ⊢
 clear hn'
 have hb1:blk ((w.alloc (.cells #[.slice vo n vc,rv] 25)).alloc (.cells #[] 31)) w.heap.size=some (.cells #[.slice vo n vc,rv] 25 (0,0)):=(blk_alloc_past _ _ _ (by simp)).trans (blk_alloc_at _ _)
 have hb2:=blk_alloc_at (w.alloc (.cells #[.slice vo n vc,rv] 25)) (.cells #[] 31)
 rw [World.size_alloc] at hb2
 have HB:=bH (bI hb1 (bI (ROwn.empty (base:=w.heap.size+1) L hb2 (Nat.le_refl _)) (((Ext.refl (fun _=>False) w).alloc (.cells #[.slice vo n vc,rv] 25)).alloc (.cells #[] 31))))
 clear hb1 hb2
 go_enter Tryz.func111,Tryz.ntmps111
 go_upto_region 2 with fail
 generalize hw1:(w.alloc (.cells #[.slice vo n vc,rv] 25)).alloc (.cells #[] 31)=w1 at *
 clear hw1
 have z0:=cellq HB.out.1 0 rfl
 obtain ⟨bs,hbs⟩:∃ bs,w.heap.size=bs:=⟨_,rfl⟩
 have HBs:=bH hbs
 rw [hbs] at HB z0 ⊢
 clear hbs
 go_wp2_with fail
 go_loopg [6,5] n (fun gg v6 v5 wr=>∃ (i:Nat) (v:Value),i<=n/\gg=n - i/\v6=.int .i64 i/\v5=v/\ROwn wr (bs+1) v (listTo i fun k=>atQ x k) L/\wr.cell? ⟨bs,0,none⟩=some (.slice vo n vc)/\XF w wr)
 case atStart=>exact ⟨0,_,Nat.zero_le _,rfl,rfl,rfl,HB.out.2.1,z0,HB.out.2.2⟩
 case round =>
  clear z0
  obtain ⟨i,v,hi,rfl,rfl,rfl,ho,z0,hx⟩:=hrel
  obtain ⟨ao,cap,rfl⟩:=ho.shape
  have hll:(listTo i fun k=>atQ x k).length=i:=listTo_length _ _
  rw [hll] at ho ⊢
  by_cases hin:i<n
  ·have i0:(i:Int)<(n:Int):=by omega
   have HA1:=bH (HA.out wr hx i)
   have HO:=bH (bI ho (bI hx z0))
   have HLl:=bH hll
   clear ho hx hll
   go_wp2_with fail
   refine HA1.out.mono ?_
   rintro r2 w2 ⟨v2,rfl,h2,hx2⟩
   obtain ⟨n2,a2,l2,c2,a2',l2',c2',rfl⟩:=h2.shape
   have hxa:=(Ext.refl (fun _=>False) w2).alloc (.cells #[.bool n2,.slice a2 l2 c2,.slice a2' l2' c2'] 31)
   have HO2:=bH (bI (HO.out.1.keep (hx2.trans hxa)) (bI (h2.keep hxa) ((HO.out.2.1.trans hx2).trans hxa)))
   have HZ2:=bH (cell_keep (cell_keep HO.out.2.2 hx2) hxa)
   have HSz:=bH (show bs+1<=(w2.alloc (.cells #[.bool n2,.slice a2 l2 c2,.slice a2' l2' c2'] 31)).heap.size from (by have:=World.block_lt_of_cell? _ _ HZ2.out; exact this))
   have HG:=bH (fun g e=>(HO2.out.1.lt g e).1)
   clear h2 hx2 hxa HA1 z0
   go_wp2_with (at_builtin; refine wpList_append_rat rfl (.tmp 15) (.tmp 19) rfl (bs+1) _ _ L rfl HO2.out.1 ⟨n2,a2,l2,c2,a2',l2',c2'⟩ (atQ x i) HO2.out.2.1 ⟨w2.heap.size,0,none⟩ 1 rfl (cells_new (RatC.cells ⟨n2,a2,l2,c2,a2',l2',c2'⟩) _ rfl) (by rw [HLl.out]; omega) HSz.out ?_; intro v5 w5 hown5 hx5 hrd5; have HN:Hid (ROwn w5 (bs+1) v5 (listTo (i+1) fun k=>atQ x k) L):=bH (by rw [listTo_succ]; exact hown5); have HX5:Hid (XF w w5):=bH (ext_own HO2.out.2.2 hx5 (fun g e=>by have:=HG.out g e; have:=HBs.out; omega)); have HZ5:Hid (w5.cell? ⟨bs,0,none⟩=some (.slice vo n vc)):=bH ((hx5.cell (p:=⟨bs,0,none⟩) (World.block_lt_of_cell? _ _ HZ2.out) (fun e=>absurd (HG.out bs e) (by omega))).trans HZ2.out); clear hown5 hx5 hrd5)
   go_roundg (n - (i+1))
   case measure=>omega
   case rel=>exact ⟨i+1,_,by omega,rfl,by go_num,rfl,HN.out,HZ5.out,HX5.out⟩
  ·obtain rfl:i=n:=by omega
   have HO:=bH (bI ho hx)
   clear ho hx
   go_wp2
   go_ret
   exact ⟨_,rfl,by have:=HO.out.1.rats; exact this,HO.out.2⟩
theorem dot_point (p:ProgV) (ts:List TermV) (x:List Rat):dotQ ts (listTo p.vars.length fun i=>atQ x i)=dotQ ts (clipQ p x):=by
 refine sumTo_congr fun k _=>?_
 congr 1
 generalize (ts.getD k term0).var=i
 by_cases h0:i<0
 ·rw [atQ_neg _ h0,atQ_neg _ h0]
 obtain ⟨j,rfl⟩:∃ j:Nat,i=j:=⟨i.toNat,by omega⟩
 by_cases hj:j<p.vars.length
 ·rw [atQ_listTo _ hj,atQ_clip p x (by omega)]
 ·rw [atQ_out _ (by rw [listTo_length]; omega),atQ_out (clipQ p x) (by unfold clipQ; rw [List.length_take]; omega)]
theorem Holds_any (w:World) (pv xv:Value) (p:ProgV) (r:RowV) (x:List Rat) (L T:Nat) (ta:Option Addr) (tc:Nat) (hp:IsPrg w pv p) (hok:RowOk r) (ht:Tms w (.slice ta r.terms.length tc) r.terms) (hl:Rats w xv x L) (h1:1<=L) (hT:r.terms.length<=T) (hL:1+T*(L+3)+(L+3)<=1000000) (hn0:p.vars.length<=1000000) :
  Calls Tryz.prog 59 #[pv,.agg #[.string r.name,.int .i64 r.group,.int .i64 r.kind,.slice ta r.terms.length tc,.int .i64 r.bound],xv] w (BoolPost w (holdsB r (clipQ p x))):=by
 have HPt:=bH (fun W (hW:XF w W)=>Point_any W _ _ p x L (hp.keep hW) (hl.keep hW) hn0)
 obtain ⟨vv,rv,rfl,-,-⟩:=hp
 have hx:=((Ext.refl (fun _=>False) w).alloc (.cells #[vv,rv] 25)).alloc (.cells #[.string r.name,.int .i64 r.group,.int .i64 r.kind,.slice ta r.terms.length tc,.int .i64 r.bound] 58)
 have hle:=Nat.mul_le_mul_right (L+3) hT
 have HDo:=bH (fun W u (hW:XF w W) (hu:Rats W u (listTo p.vars.length fun i=>atQ x i) L)=>Dot4_any W _ u r.terms _ L (ht.keep hW) hu h1 (by omega))
 rw [dot_point] at HDo
 have hpz:∀ i:Int,Sz (atQ (clipQ p x) i) L:=fun i=>by
  obtain ⟨yo,yc,e,_⟩:=hl.shape
  rw [e] at hl
  unfold clipQ
  by_cases h:p.vars.length<=x.length
  ·exact (hl.take p.vars.length h).sz h1 i
  ·rw [List.take_of_length_le (by omega)]; exact hl.sz h1 i
 have hdz:=dot_sz (x:=clipQ p x) (L:=L) (T:=T) (fun k hk=>ht.ok k hk) hpz hT
 have HF:=bH (fun W=>Rrfrom_any W r.bound hok.bound.1 hok.bound.2)
 have HC:=bH (fun W u u' (hu:IsRat W u (dotQ r.terms (clipQ p x))) (hu':IsRat W u' ((r.bound:Int):Rat))=>Rrcmp_any W u u' _ _ 1000002 (hu.reads (hdz.mono (by omega))) (hu'.reads ((Sz.int hok.bound).mono (by omega))) (by omega) (by omega))
 have HR0:=bH (show holdsB r (clipQ p x)=_ from kind_sign)
 have hk0:=hok.kind
 clear hl ht hok hdz hpz hle
 generalize listTo p.vars.length (fun i=>atQ x i)=pt at *
 generalize dotQ r.terms (clipQ p x)=D at *
 generalize hZ:(D - (r.bound:Rat)).num.sign=sg at *
 have HR:=HR0
 clear hZ HR0
 generalize r.terms.length=tl at *
 generalize r.name=nm at *
 generalize r.group=gr at *
 generalize ((r.bound:Int):Rat)=bq at *
 generalize r.bound=bd at *
 obtain ⟨k,hk⟩:∃ k,r.kind=k:=⟨_,rfl⟩
 rw [hk] at HR hk0 hx ⊢
 clear hk
 have hb0:blk ((w.alloc (.cells #[vv,rv] 25)).alloc (.cells #[.string nm,.int .i64 gr,.int .i64 k,.slice ta tl tc,.int .i64 bd] 58)) w.heap.size=some (.cells #[vv,rv] 25 (0,0)):=(blk_alloc_past _ _ _ (by simp)).trans (blk_alloc_at _ _)
 have hb1:=blk_alloc_at (w.alloc (.cells #[vv,rv] 25)) (.cells #[.string nm,.int .i64 gr,.int .i64 k,.slice ta tl tc,.int .i64 bd] 58)
 rw [World.size_alloc] at hb1
 have HB:=bH (bI hb0 (bI hb1 hx))
 clear hb0 hb1 hx
 go_enter Tryz.func59,Tryz.ntmps59
 go_upto_region 1 with fail
 generalize hw1:(w.alloc (.cells #[vv,rv] 25)).alloc (.cells #[.string nm,.int .i64 gr,.int .i64 k,.slice ta tl tc,.int .i64 bd] 58)=w1 at *
 clear hw1
 obtain ⟨pb,hpb⟩:∃ pb,w.heap.size=pb:=⟨_,rfl⟩
 obtain ⟨rb,hrb⟩:∃ rb,pb+1=rb:=⟨_,rfl⟩
 rw [hpb,hrb] at HB ⊢
 clear hpb hrb
 have hS:S4 pb pb rb rb 0 1 3 4 vv rv (.slice ta tl tc) (.int .i64 bd) w1:=⟨cellq HB.out.1 0 rfl,cellq HB.out.1 1 rfl,cellq HB.out.2.1 3 rfl,cellq HB.out.2.1 4 rfl⟩
 have hxw:=HB.out.2.2
 have HD:=bH (fun W u (hW:XF w1 W) hu=>HDo.out W u (HB.out.2.2.trans hW) hu)
 refine wp_region_held_drew (S:=(S4 pb pb rb rb 0 1 3 4 vv rv (.slice ta tl tc) (.int .i64 bd))) (by kernel_rfl) (hS.drew) (fun hHeld=>?_)
 refine ht 0 (h:=?_)
 (try go_frame)
 refine ht 1 (h:=?_)
 (try go_frame)
 refine ht 2 (h:=?_)
 (try go_frame)
 refine ht 3 (h:=?_)
 (try go_frame)
 refine ht 6 (h:=?_)
 (try go_frame)
 refine ht 7 (h:=?_)
 (try go_frame)
 refine held_step 4 rfl (by kernel_rfl) (fun K hK=>?_)
 (go_simp; go_at_call 111; (with_reducible refine (HPt.out _ (hxw.drew)).mono ?_); rintro q0 w10 ⟨v10,rfl,h10,hx10⟩; have hX0:=(Ext.refl (fun _=>False) w1).drew.trans hx10; have hK0:=hS.keep hX0; have hD:=HD.out w10 _ hX0 h10; obtain ⟨zo10,zc10,rfl,-,-,-⟩:=h10.shape)
 refine hK.out _ _ (hK0) (fun hHeld=>?_)
 clear hK K
 (try go_frame)
 refine held_step 5 rfl (by kernel_rfl) (fun K hK=>?_)
 (go_simp; go_at_call 110; (with_reducible refine hD.mono ?_); rintro q1 w11 ⟨v11,rfl,h11,hx11⟩; have hX1:=hX0.trans hx11; have hK1:=hS.keep hX1; obtain ⟨n11,a11,l11,c11,a11',l11',c11',rfl⟩:=h11.shape)
 refine hK.out _ _ (hK1) (fun hHeld=>?_)
 clear hK K
 (try go_frame)
 refine held_step 8 rfl (by kernel_rfl) (fun K hK=>?_)
 (go_simp; go_at_call 32; (with_reducible refine (HF.out _).mono ?_); rintro q2 w12 ⟨v12,rfl,h12,hx12⟩; have hX2:=hX1.trans hx12; have hK2:=hS.keep hX2; have hC2:=HC.out w12 _ _ (h11.keep hx12) h12; obtain ⟨n12,a12,l12,c12,a12',l12',c12',rfl⟩:=h12.shape)
 refine hK.out _ _ (hK2) (fun hHeld=>?_)
 clear hK K
 (try go_frame)
 refine held_step 9 rfl (by kernel_rfl) (fun K hK=>?_)
 (go_simp; go_at_call 25; (with_reducible refine hC2.mono ?_); rintro q3 w13 ⟨rfl,hx13⟩; have hX3:=hX2.trans hx13; have hK3:=hS.keep hX3)
 refine hK.out _ _ (hK3) (fun hHeld=>?_)
 clear hK K
 (try go_frame)
 refine ht 10 (h:=?_)
 (try go_frame)
 refine wpAnyH_done (by kernel_rfl) ?_ _
 have e2:=cell_keep (cellq HB.out.2.1 2 rfl) hX3
 have HX:=bH (hxw.trans hX3)
 clear hX0 hX1 hX2 hX3 hK0 hK1 hK2 hK3 hS h10 h11 h12 hx10 hx11 hx12 hx13 hD hC2 hxw HB HD HF HC HPt HDo hHeld
 have hcase:(k=0/\0<sg)∨(k=0/\¬ 0<sg)∨(k=1/\sg<0)∨(k=1/\¬ sg<0)∨(¬ k=0/\¬ k=1/\¬ sg=0)∨(¬ k=0/\¬ k=1/\sg=0):=by omega
 rcases hcase with ⟨rfl,hs⟩ | ⟨rfl,hs⟩ | ⟨rfl,hs⟩ | ⟨rfl,hs⟩ | ⟨hk0',hk1,hs⟩ | ⟨hk0',hk1,hs⟩
 ·have s1:¬ sg<=0:=by omega
  go_wp2
  go_ret
  exact ⟨ret_bool (by rw [HR.out]; simp [hs]),HX.out⟩
 ·have s1:sg<=0:=by omega
  go_wp2
  go_ret
  exact ⟨ret_bool (by rw [HR.out]; simp [hs]),HX.out⟩
 ·have s1:¬ 0<=sg:=by omega
  go_wp2
  go_ret
  exact ⟨ret_bool (by rw [HR.out]; simp [hs]),HX.out⟩
 ·have s1:0<=sg:=by omega
  go_wp2
  go_ret
  exact ⟨ret_bool (by rw [HR.out]; simp [hs]),HX.out⟩
 ·have k1:(k == 1)=false:=by simpa using hk1
  have k2:(k == 0)=false:=by simpa using hk0'
  have s1:(sg == 0)=false:=by simpa using hs
  go_wp2
  go_ret
  exact ⟨ret_bool (by rw [HR.out]; simp [hk0',hk1,hs]),HX.out⟩
 ·have k1:(k == 1)=false:=by simpa using hk1
  have k2:(k == 0)=false:=by simpa using hk0'
  subst hs
  go_wp2
  go_ret
  exact ⟨ret_bool (by rw [HR.out]; simp [hk0',hk1]),HX.out⟩
end Go.Proofs.YtbgienfcmdgaaaaGreat
