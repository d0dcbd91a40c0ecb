/-
  Texts of the proof, part 9. Conditions: each lemma names its own.
-/
import Derived.Test.YtbgienfcmdgaaaaGreatY5
import Derived.Test.YtbgienfcmdgaaaaGreatY7
import Derived.Test.YtbgienfcmdgaaaaGreatY8
import Derived.Maps.RangeWalk
set_option linter.unusedVariables false
set_option linter.unusedSimpArgs false
set_option maxRecDepth 100000
set_option maxHeartbeats 16000000
namespace Go.Proofs.YtbgienfcmdgaaaaGreat
open Go.RowKit Go.MapKept
open Go.ChangeMaps (setBlock)
theorem gco_sz {T:TabF} {s:Nat} (h1:2<=s) (h:∀ k j,k<T.m->j<T.n->Sz (T.al k j) s) (v:Nat) {c:Nat} (hc:c<T.n):Sz (gco T v c) s:=by
 unfold gco
 cases hf:idxN T.fr v T.n with
 | some c' =>
  dsimp only
  split
  ·exact (Sz.int (k:=1) ⟨by omega,by omega⟩).mono h1
  ·exact Sz.zero.mono (by omega)
 | none =>
  dsimp only
  cases hb:idxN T.ba v T.m with
  | some r=>exact (h r c (idxN_some hb).1 hc).neg
  | none=>exact Sz.zero.mono (by omega)
def kco (p:ProgV) (l:LimV) (i:Nat):Int:=((limTs p l).getD i term0).coef*limSg l
theorem rowP_next (p:ProgV) (T:TabF) (l:LimV) (i c:Nat):rowP p T l (i+1) c=rowP p T l i c+(kco p l i:Rat)*gco T ((limTs p l).getD i term0).var.toNat c:=rfl
theorem rowP_sz {p:ProgV} {T:TabF} {l:LimV} {s:Nat} (h1:2<=s) (h:∀ k j,k<T.m->j<T.n->Sz (T.al k j) s) (hk:∀ i,i<(limTs p l).length->InR (kco p l i)) {c:Nat} (hc:c<T.n):∀ {i:Nat},i<=(limTs p l).length->Sz (rowP p T l i c) (1+i*(s+3))
 | 0,_=>by rw [Nat.zero_mul]; exact Sz.zero
 | i+1,hi=>by
  rw [rowP_next]
  exact ((rowP_sz h1 h hk hc (i:=i) (by omega)).add ((Sz.int (hk i (by omega))).mul (gco_sz h1 h _ hc))).mono (by rw [Nat.add_mul i 1]; omega)
theorem terms_coef {n:Int}:∀ {l:List TermV} {last:Int},termsB n last l=true->∀ k,k<l.length->limB (l.getD k term0).coef=true
 | [],_,_,k,hk=>by simp at hk
 | t :: l,last,h,k,hk=>by
  unfold termsB at h
  simp only [Bool.and_eq_true] at h
  cases k with
  | zero=>exact h.1.2
  | succ k=>exact terms_coef h.2 k (by simpa using hk)
theorem kco_in {p:ProgV} {l:LimV} (hv:validB p=true) (hl:LimOk p l) (i:Nat) (hi:i<(limTs p l).length):-1099511627776<=kco p l i/\kco p l i<=1099511627776:=by
 have hc:-1099511627776<=((limTs p l).getD i term0).coef/\((limTs p l).getD i term0).coef<=1099511627776:=by
  rcases hl with ⟨g1,_⟩ | ⟨g1,g2,_⟩
  ·have e:limTs p l=[⟨l.var,1⟩]:=if_pos (by omega)
   rw [e] at hi ⊢
   have:i=0:=by simp at hi; omega
   subst this
   exact ⟨by show (-1099511627776:Int)<=1; omega,by show (1:Int)<=1099511627776; omega⟩
  ·have e:limTs p l=(p.r l.row.toNat).terms:=if_neg (by omega)
   rw [e] at hi ⊢
   have h2:=valid_row hv g2
   unfold rowB at h2
   simp only [Bool.and_eq_true] at h2
   exact limB_in (terms_coef h2.2 i hi)
 unfold kco limSg
 split
 ·omega
 ·split <;> omega
theorem alloc_src (w:World) (T:TypeId) (cells:List Value):∀ (j:Nat) (u:Value),cells[j]?=some u->((w.alloc (.cells cells.toArray T)).drew).cell? ((⟨w.heap.size,0,none⟩:Addr).add j)=some u:=fun j u hu=>by
 have hb:blk ((w.alloc (.cells cells.toArray T)).drew) w.heap.size=some (.cells cells.toArray T (0,0)):=blk_alloc_at w _
 rw [Addr.add_lit,Nat.zero_add,cell_of_cells hb]
 simpa using hu
theorem int_noD (x:Int):NoD [.int .i64 x]:=fun u hu d e=>by simp at hu; rw [hu] at e; cases e
theorem int_one (x:Int):∀ u ∈ [Value.int .i64 x],u.oneCell'=true:=fun u hu=>by simp at hu; rw [hu]; rfl
theorem slice_noD (ao:Option Addr) (n c:Nat):NoD [.slice ao n c]:=fun u hu d e=>by simp at hu; rw [hu] at e; cases e
theorem slice_one (ao:Option Addr) (n c:Nat):∀ u ∈ [Value.slice ao n c],u.oneCell'=true:=fun u hu=>by simp at hu; rw [hu]; rfl
theorem alloc_src0 (w:World) (T:TypeId) (cells:List Value):∀ (j:Nat) (u:Value),cells[j]?=some u->(w.alloc (.cells cells.toArray T)).cell? ((⟨w.heap.size,0,none⟩:Addr).add j)=some u:=alloc_src w T cells
theorem src_past {w w':World} {cells:List Value} {b:Nat} {S:Nat->Prop} (h:∀ (j:Nat) (u:Value),cells[j]?=some u->w.cell? ((⟨b,0,none⟩:Addr).add j)=some u) (hx:Ext S w w') (hn:¬ S b):∀ (j:Nat) (u:Value),cells[j]?=some u->w'.cell? ((⟨b,0,none⟩:Addr).add j)=some u:=fun j u hu=>by
 have h1:=h j u hu
 rw [Addr.add_lit] at h1 ⊢
 rw [hx.cell (p:=⟨b,0+j,none⟩) (World.block_lt_of_cell? _ _ h1) hn]; exact h1
theorem src_keep {w w':World} {cells:List Value} {b:Nat} (h:∀ (j:Nat) (u:Value),cells[j]?=some u->w.cell? ((⟨b,0,none⟩:Addr).add j)=some u) (hx:XF w w'):∀ (j:Nat) (u:Value),cells[j]?=some u->w'.cell? ((⟨b,0,none⟩:Addr).add j)=some u:=src_past h hx id
theorem slices_noD (m n:Nat) (rb:Nat->Nat) (c:Nat):NoD (valL' m (fun i=>.slice (some ⟨rb i,0,none⟩) n c)):=fun u hu d e=>by
 obtain ⟨i,_,rfl⟩:=List.mem_map.1 hu
 cases e
theorem blk_setBlock {w:World} {b:Nat} (h:b<w.heap.size) (o:Obj):blk (setBlock w b o) b=some o:=by
 unfold blk setBlock
 simp [h]
theorem slice_ni {v:Value} {P:Option Addr->Nat->Prop} {n:Nat} (h:∃ ao c,v=.slice ao n c/\P ao c):NotInt v:=by
 obtain ⟨ao,c,e,_⟩:=h
 exact slice_notInt e
def UsePost (w0 w:World) (tb:Nat) (V:TabV) (T:TabF) (p:ProgV) (us ls:List LimV) (l:LimV) (r:Ending) (w':World):Prop :=
 ∃ V',r=.returned (.tuple #[])/\TabS w0 w' tb V' (useF p T us l) p (us++[l]) ls/\Ext (V.Big tb T.m) w w'/\(∀ u d,Rds w u d->Rds w' u d)/\(∀ k,V'.Big tb (T.m+1) k->V.Big tb T.m k∨w.heap.size<=k)/\V'.l=V.l
theorem use_end {w0 w wr W:World} {tb:Nat} {V V':TabV} {T:TabF} {p:ProgV} {us ls:List LimV} {l:LimV} (h:TabS w0 w tb V T p us ls) (hr:TabS w0 wr tb V T p us ls) (hx:XF w wr)
  (hM:MidS w.heap.size w0 wr W tb V V' V' T.m T.n (T.m+1) (T.m+1) (T.m+1) { n:=T.n,m:=T.m,ba:=fun i=>if i=T.m then p.vars.length+us.length else T.ba i,fr:=T.fr,be:=fun i=>if i=T.m then slackQ p l (listTo p.vars.length (distN T.ba T.be T.m)) false else T.be i,d:=T.d,al:=fun i=>if i=T.m then rowP p T l (limTs p l).length else T.al i } (us++[l]) ls (us++[l])) (e1:V'.pv=V.pv) (e2:V'.pr=V.pr) (e3:V'.l=V.l) (hl:LimOk p l) (hm9:T.m<1000):UsePost w0 w tb V T p us ls l (.returned (.tuple #[])) W:=by
 refine ⟨V',rfl,⟨hM.rest.cast rfl rfl rfl rfl rfl,hM.box,h.tbl,by rw [e1]; exact h.vars,by rw [e2]; exact h.rows,h.valid,hr.old.own hM.ext (fun k hk=>hr.low hk),⟨h.small.1,by show T.m+1<=1000; omega⟩,?_,h.hn,fun j hj=>?_⟩,hx.none.trans hM.ext,fun u d k=>hM.rds u d (k.keep hx),fun k hk=>?_,e3⟩
 ·show T.m+1=(us++[l]).length
  rw [List.length_append,h.hm]; rfl
 ·rw [List.length_append] at hj
  by_cases e:j<us.length
  ·rw [List.getD_eq_getElem?_getD,List.getElem?_append_left e,<- List.getD_eq_getElem?_getD]; exact h.oks j e
  ·have:j=us.length:=by simp at hj; omega
   subst this
   simpa [List.getD_eq_getElem?_getD] using hl
 ·rcases hk with e | e
  ·exact .inl (.inl e)
  ·rcases hM.lies k e with e4 | e4
   ·exact .inl e4
   ·exact .inr e4
theorem use_any (w0 w:World) (tb s:Nat) (V:TabV) (T:TabF) (p:ProgV) (us ls:List LimV) (l:LimV) (h:TabS w0 w tb V T p us ls) (hl:LimOk p l) (hnew:memL us l=false) (hal:∀ k j,k<T.m->j<T.n->Sz (T.al k j) s) (hbe:∀ k,k<T.m->Sz (T.be k) s) (h2s:2<=s) (hs:s<=200000) (hL:(limTs p l).length*(s+8)+s+20<=2000000)
  (hbas:∀ v,v<p.vars.length->idxN T.fr v T.n=none->∃ r,idxN T.ba v T.m=some r) (hm9:T.m<1000) :
  Calls Tryz.prog 180 #[.pointer (some ⟨tb,0,none⟩),.agg #[.int .i64 l.row,.int .i64 l.var,.bool l.tur]] w (UsePost w0 w tb V T p us ls l):=by
 obtain ⟨hsn,hsm⟩:=h.small
 have hnn:=h.hn
 have HH:=bH h
 have hin:=hl.terms h.valid
 have HIn:=bH (bI h.valid (bI hin hl))
 have HP:=bH (fun W (hW:XF w W)=>parts_any W tb p l (h.prg.keep hW) hl)
 have hdz:∀ v,Sz (distN T.ba T.be T.m v) s:=fun v=>distN_sz (by omega) hbe v
 have HDi:=bH (fun W (hW:XF w W)=>distances_any W w0.heap.size tb V T p (h.at.keep hW) (h.prg.keep hW) (by omega))
 have HSl:=bH (fun W Z (hW:XF w W) (hZ:RArr W Z p.vars.length (distN T.ba T.be T.m))=>slackAt_any W tb p l (some ⟨Z,0,none⟩) p.vars.length p.vars.length (listTo p.vars.length (distN T.ba T.be T.m)) s false (h.prg.keep hW) hl (hZ.rats (fun i _=>hdz i) (Nat.le_refl _) (by unfold maxLen; omega)) h2s hL)
 have HIf:=bH (fun W (hW:XF w W) (v:Nat)=>index_any W V.fr T.n T.fr v ((h.at.keep hW).fr.nrow (by omega)))
 have HIb:=bH (fun W (hW:XF w W) (v:Nat)=>index_any W V.ba T.m T.ba v ((h.at.keep hW).ba.nrow (by omega)))
 have HZ:=bH (bI hal (bI hbe (bI hdz hbas)))
 have hsg:limSg l=1∨limSg l = -1:=by
  unfold limSg; split
  ·exact .inl rfl
  ·split
   ·exact .inr rfl
   ·exact .inl rfl
 have HSgn:=bH hsg
 have HL:=bH hL
 have HNew:=bH hnew
 have HNn:=bH hnn
 clear hnn
 clear hin hdz hal hbe hbas hL hsg hnew
 have hxa:=(Ext.refl (fun _=>False) w).alloc (.cells #[.int .i64 l.row,.int .i64 l.var,.bool l.tur] 142)
 have hb0:blk (w.alloc (.cells #[.int .i64 l.row,.int .i64 l.var,.bool l.tur] 142)) w.heap.size=some (.cells #[.int .i64 l.row,.int .i64 l.var,.bool l.tur] 142 (0,0)):=blk_alloc_at _ _
 have HB0:=bH (bI hxa hb0)
 have l0:=cellq hb0 0 rfl
 have l1:=cellq hb0 1 rfl
 have l2:=cellq hb0 2 rfl
 have HP1:=bH (HP.out _ hxa)
 clear hxa hb0 HP h
 go_enter Tryz.func180,Tryz.ntmps180
 go_upto_region 1 with fail
 generalize w.alloc (.cells #[.int .i64 l.row,.int .i64 l.var,.bool l.tur] 142)=w1 at *
 obtain ⟨lb,hlb⟩:∃ lb,w.heap.size=lb:=⟨_,rfl⟩
 have hwl:w.heap.size<=lb:=Nat.le_of_eq hlb
 rw [hlb] at HB0 l0 l1 l2 ⊢
 clear hlb
 go_upto_region 2 with (go_at_call 201; refine HP1.out.mono ?_; rintro r2 w2 ⟨tso,tsc,rfl,htm,hx2⟩)
 have hX2:=HB0.out.1.trans hx2
 have hb2:=blk_keep HB0.out.2 hx2
 obtain ⟨w3,hmk,hA,hxA⟩:=run_make_rats w2 T.n (by omega)
 obtain ⟨B,hB⟩:∃ B,w2.heap.size=B:=⟨_,rfl⟩
 have hBw:w2.heap.size<=B:=Nat.le_of_eq hB
 have hlB:lb<w2.heap.size:=blk_lt hb2
 rw [hB] at hmk hA
 obtain ⟨fo,fc,hfv,-,-⟩:=(HH.out.at).fr.nrow (by omega)
 have hbox:=(HH.out.keep hX2).box
 rw [hfv] at hbox
 have c5:=cellq hbox 5 rfl
 have HTm:=bH htm
 have HX23:=bH hxA
 have HW20:=bH hX2
 have HW2:=bH (bI (hX2.trans hxA) (bI (blk_keep hb2 hxA) (bI hA (htm.keep hxA))))
 clear hbox hX2 hb2 hA hxA htm HB0 HP1 hx2 l0 l1 l2
 go_upto_region 3 with fail
 clear hmk c5
 obtain ⟨rr0,rr1,hA2,htm2⟩:=HW2.out
 have HW:=bH (bI rr0 (bI rr1 (bI hA2 htm2)))
 clear rr0 rr1 hA2 htm2 HW2 hB
 have hBlt:B<w3.heap.size:=HW.out.2.2.1.lt
 have HDi3:=bH (fun W (hW:XF w3 W)=>HDi.out W (HW.out.1.trans hW))
 have HSl3:=bH (fun W Z (hW:XF w3 W) (hZ:RArr W Z p.vars.length (distN T.ba T.be T.m))=>HSl.out W Z (HW.out.1.trans hW) hZ)
 clear HDi HSl
 go_cut [8] (fun v8 wx=>∃ ib n12 a12 l12 c12 a12' l12' c12',v8=.pointer (some ⟨ib,0,none⟩)/\w3.heap.size<=ib/\BoxR wx ib n12 (.slice a12 l12 c12) (.slice a12' l12' c12')/\IsRat wx (.agg #[.bool n12,.slice a12 l12 c12,.slice a12' l12' c12']) (slackQ p l (listTo p.vars.length (distN T.ba T.be T.m)) false)/\XF w3 wx)
 case first =>
  have l0:=cq (cellq HW.out.2.1 0 rfl)
  have l1:=cq (cellq HW.out.2.1 1 rfl)
  have l2:=cq (cellq HW.out.2.1 2 rfl)
  refine wp_region_held_drew (S:=(XF w3)) (by kernel_rfl) ((Ext.refl _ w3).drew) (fun hHeld=>?_)
  refine ht 0 (h:=(ht 1 (h:=(ht 2 (h:=?_)))))
  (try go_frame)
  refine held_two 3 5 rfl rfl (by kernel_rfl) (fun K hK=>?_) (fun K hK=>?_)
  ·go_simp
   go_at_call 140; (with_reducible refine (HDi3.out _ hHeld).mono ?_); rintro q1 w11 ⟨Z,rfl,hZb,hZ,hx1⟩; have hX1:=hHeld.trans hx1
   refine hK.out _ _ (hX1) (fun hHeld=>?_)
   clear hK K
   (try go_frame)
   refine held_two 4 5 rfl rfl (by kernel_rfl) (fun K hK=>?_) (fun K hK=>?_)
   ·go_simp
    go_at_call 179; (with_reducible refine (HSl3.out _ _ hX1 hZ).mono ?_); rintro q2 w12 ⟨v2,rfl,h12,hx2⟩; have hX2:=hX1.trans hx2
    obtain ⟨n12,a12,l12,c12,a12',l12',c12',rfl⟩:=h12.shape
    refine hK.out _ _ (hX2) (fun hHeld=>?_)
    clear hK K
    (try go_frame)
    refine hst 5 (h:=fun K hK=>?_)
    go_simp
    have hBl3:=hX2.size
    have hX3:=hX2.trans ((Ext.refl (fun _=>False) w12).alloc (.cells #[.bool false,.slice none 0 0,.slice none 0 0] 31))
    refine hK.out _ _ (hX3) (fun hHeld=>?_)
    clear hK K
    (try go_frame)
    refine hst 6 (h:=fun K hK=>?_)
    go_simp
    have hxn:=(Ext.refl (fun _=>False) w12).alloc (.cells #[.bool n12,.slice a12 l12 c12,.slice a12' l12' c12'] 31)
    have hXs:=hX2.trans hxn
    have hps:=h12.keep hxn
    have hpb:=boxR_new (W:=w12) rfl n12 a12 l12 c12 a12' l12' c12'
    have hpl:=hX2.size
    refine hK.out _ _ (hXs) (fun hHeld=>?_)
    clear hK K
    (try go_frame)
    refine wpAnyH_done (by kernel_rfl) ?_ _
    go_wp2
    go_meet
    exact ⟨_,_,_,_,_,_,_,_,rfl,hpl,hpb,hps,hXs⟩
   ·go_simp
    have hxn:=(Ext.refl (fun _=>False) w11).alloc (.cells #[.bool false,.slice none 0 0,.slice none 0 0] 31)
    have hX2:=hX1.trans hxn
    have hB2:=boxR_new (W:=w11) rfl false none 0 0 none 0 0
    have hBl2:=hX1.size
    replace hZ:=hZ.keep hxn
    refine hK.out _ _ (hX2) (fun hHeld=>?_)
    clear hK K
    (try go_frame)
    refine hst 4 (h:=fun K hK=>?_)
    go_simp
    go_at_call 179; (with_reducible refine (HSl3.out _ _ hX2 hZ).mono ?_); rintro q3 w13 ⟨v3,rfl,h12,hx3⟩; have hX3:=hX2.trans hx3
    have hB3:=hB2.keep hx3
    obtain ⟨n12,a12,l12,c12,a12',l12',c12',rfl⟩:=h12.shape
    refine hK.out _ _ (hX3) (fun hHeld=>?_)
    clear hK K
    (try go_frame)
    refine hst 6 (h:=fun K hK=>?_)
    obtain ⟨d0,d1,d2,d3,d4,d5⟩:=hB3.facts
    have hp:=hB3.put (neg:=n12) (no_int a12 l12 c12) (no_int a12' l12' c12')
    have hXs:=hX3.own hp.ext (fun k e=>by have:=hBl2; omega)
    have hps:=hp.rat h12
    have hpb:=hp.box
    have hpl:=hBl2
    go_simp
    refine hK.out _ _ (hXs) (fun hHeld=>?_)
    clear hK K
    (try go_frame)
    refine wpAnyH_done (by kernel_rfl) ?_ _
    go_wp2
    go_meet
    exact ⟨_,_,_,_,_,_,_,_,rfl,hpl,hpb,hps,hXs⟩
  ·go_simp
   have hxn:=(Ext.refl (fun _=>False) w3.drew).alloc (.cells #[.bool false,.slice none 0 0,.slice none 0 0] 31)
   have hX1:XF w3 ((w3.alloc (.cells #[.bool false,.slice none 0 0,.slice none 0 0] 31)).drew):=hHeld.trans hxn
   have hB1:BoxR ((w3.alloc (.cells #[.bool false,.slice none 0 0,.slice none 0 0] 31)).drew) w3.heap.size false (.slice none 0 0) (.slice none 0 0):=boxR_new (W:=w3.drew) rfl false none 0 0 none 0 0
   have hBl1:w3.heap.size<=w3.heap.size:=Nat.le_refl _
   refine hK.out _ _ (hX1) (fun hHeld=>?_)
   clear hK K
   (try go_frame)
   refine hst 3 (h:=fun K hK=>?_)
   go_simp
   go_at_call 140; (with_reducible refine (HDi3.out _ hX1).mono ?_); rintro q2 w12 ⟨Z,rfl,hZb,hZ,hx2⟩; have hX2:=hX1.trans hx2
   have hB2:=hB1.keep hx2
   refine hK.out _ _ (hX2) (fun hHeld=>?_)
   clear hK K
   (try go_frame)
   refine hst 4 (h:=fun K hK=>?_)
   go_simp
   go_at_call 179; (with_reducible refine (HSl3.out _ _ hX2 hZ).mono ?_); rintro q3 w13 ⟨v3,rfl,h12,hx3⟩; have hX3:=hX2.trans hx3
   have hB3:=hB2.keep hx3
   obtain ⟨n12,a12,l12,c12,a12',l12',c12',rfl⟩:=h12.shape
   refine hK.out _ _ (hX3) (fun hHeld=>?_)
   clear hK K
   (try go_frame)
   refine hst 6 (h:=fun K hK=>?_)
   obtain ⟨d0,d1,d2,d3,d4,d5⟩:=hB3.facts
   have hp:=hB3.put (neg:=n12) (no_int a12 l12 c12) (no_int a12' l12' c12')
   have hXs:=hX3.own hp.ext (fun k e=>by have:=hBl1; omega)
   have hps:=hp.rat h12
   have hpb:=hp.box
   have hpl:=hBl1
   go_simp
   refine hK.out _ _ (hXs) (fun hHeld=>?_)
   clear hK K
   (try go_frame)
   refine wpAnyH_done (by kernel_rfl) ?_ _
   go_wp2
   go_meet
   exact ⟨_,_,_,_,_,_,_,_,rfl,hpl,hpb,hps,hXs⟩
 case rest =>
  obtain ⟨ib,n1,a1,m1,c1,a1',m1',c1',rfl,hib,hbx,hqx,hxc⟩:=hcut
  have HC:=bH (show XF w wc/\blk wc lb=some (.cells #[.int .i64 l.row,.int .i64 l.var,.bool l.tur] 142 (0,0))/\RArr wc B T.n (rowP p T l 0)/\Tms wc (.slice tso (limTs p l).length tsc) (limTs p l)/\BoxR wc ib n1 (.slice a1 m1 c1) (.slice a1' m1' c1')/\IsRat wc (.agg #[.bool n1,.slice a1 m1 c1,.slice a1' m1' c1']) (slackQ p l (listTo p.vars.length (distN T.ba T.be T.m)) false)/\XF w2 wc from
   ⟨HW.out.1.trans hxc,blk_keep HW.out.2.1 hxc,(HW.out.2.2.1.keep hxc).congr (fun _ _=>rfl),HW.out.2.2.2.keep hxc,hbx,hqx,HX23.out.trans hxc⟩)
  have hBib:B<ib:=by omega
  clear HW hxc hbx hqx HDi3 HSl3 hBlt
  have HK:=bH (kco_in HIn.out.1 hl)
  have hlen:(limTs p l).length<=1000000:=by
   have:=HL.out
   have h2:=Nat.mul_le_mul_left (limTs p l).length (show 10<=s+8 by omega)
   omega
  have HE:=bH (fun W (hx:Ext (fun k=>k=B) wc W)=>show XF w2 W from HC.out.2.2.2.2.2.2.own hx (fun k e=>by have e':k=B:=e; omega))
  clear hfv
  go_wp2_with fail
  go_loopg [35,10,11,12,13,14] (limTs p l).length (fun gg v35 v10 v11 v12 v13 v14 wr=>∃ i:Nat,i<=(limTs p l).length/\gg=(limTs p l).length - i/\v35=.int .i64 i/\RArr wr B T.n (rowP p T l i)/\Ext (fun k=>k=B) wc wr)
  case atStart=>exact ⟨0,Nat.zero_le _,rfl,rfl,HC.out.2.2.1,Ext.refl _ _⟩
  case round =>
   obtain ⟨i,hi,rfl,rfl,harr,hx⟩:=hrel
   have HX:=bH (bI harr (bI hx (bI (HE.out wr hx) (HW20.out.trans (HE.out wr hx)))))
   clear harr hx
   by_cases hin:i<(limTs p l).length
   ·have i0:(i:Int)<((limTs p l).length:Int):=by omega
    have i1:(0:Int)<=(i:Int):=by omega
    obtain ⟨tb2,toff,rfl,htl,t0,t1,htok⟩:=(HTm.out.keep HX.out.2.2.1).at i hin
    obtain ⟨v0,v1⟩:=HIn.out.2.1 i hin
    have hNx:=rowP_next p T l i
    have hKr:=HK.out i hin
    have hsgz:=fun (c:Nat) (hc:c<T.n)=>rowP_sz (p:=p) (T:=T) (l:=l) h2s HZ.out.1 (fun j hj=>by have:=HK.out j hj; exact ⟨by omega,by omega⟩) hc (i:=i) (Nat.le_of_lt hin)
    have hmi:=Nat.mul_le_mul_right (s+3) (Nat.le_of_lt hin)
    have hszb:1+i*(s+3)+(2+s)+2<=4000000:=by
     have h3:=Nat.mul_le_mul_left (limTs p l).length (show s+3<=s+8 by omega)
     have:=HL.out; omega
    unfold kco at hNx hKr
    generalize (limTs p l).getD i term0=tm at *
    obtain ⟨vn,hvn⟩:∃ vn:Nat,tm.var=vn:=⟨tm.var.toNat,by omega⟩
    rw [hvn] at t0 v1 hNx
    rw [show ((vn:Nat):Int).toNat=vn from rfl] at hNx
    clear hvn v0
    have v2:vn<p.vars.length:=by omega
    have v3:(0:Int)<=(vn:Int):=by omega
    obtain ⟨K,hK⟩:∃ K,tm.coef*limSg l=K:=⟨_,rfl⟩
    rw [hK] at hNx hKr
    have HNx:=bH hNx
    obtain ⟨K0,K1⟩:=hKr
    have HSz:=bH (bI hsgz hszb)
    clear hNx v1 hmi htok hsgz hszb
    have hxa:=(Ext.refl (fun _=>False) wr).alloc (.cells #[.int .i64 (vn:Int),.int .i64 tm.coef] 76)
    have hb1:=blk_alloc_at wr (.cells #[.int .i64 (vn:Int),.int .i64 tm.coef] 76)
    have HX6:=bH (bI (HX.out.1.keep hxa) (bI (HX.out.2.1.trans hxa.none) (bI (HX.out.2.2.1.trans hxa) (HX.out.2.2.2.trans hxa))))
    have f0:=cellq hb1 0 rfl
    have f1:=cellq hb1 1 rfl
    clear hb1 hxa HX
    go_upto_region 7 with fail
    generalize wr.alloc (.cells #[.int .i64 (vn:Int),.int .i64 tm.coef] 76)=w5 at *
    generalize wr.heap.size=tbx at *
    clear t0 t1
    have HF:=bH (fun W=>rfrom_any W K (by omega) (by omega))
    go_upto_region 8 with (go_at_call 66; refine (HF.out _).mono ?_; rintro r6 w6 ⟨v6,rfl,h6,hx6⟩; obtain ⟨n6,a6,m6,c6,a6',m6',c6',rfl⟩:=h6.shape)
    have hxk:=(Ext.refl (fun _=>False) w6).alloc (.cells #[.bool n6,.slice a6 m6 c6,.slice a6' m6' c6'] 31)
    have hbk:=boxR_new (W:=w6) rfl n6 a6 m6 c6 a6' m6' c6'
    have HX7:=bH (show RArr (w6.alloc (.cells #[.bool n6,.slice a6 m6 c6,.slice a6' m6' c6'] 31)) B T.n (rowP p T l i)/\Ext (fun k=>k=B) wc (w6.alloc (.cells #[.bool n6,.slice a6 m6 c6,.slice a6' m6' c6'] 31))/\XF w (w6.alloc (.cells #[.bool n6,.slice a6 m6 c6,.slice a6' m6' c6'] 31))/\BoxR (w6.alloc (.cells #[.bool n6,.slice a6 m6 c6,.slice a6' m6' c6'] 31)) w6.heap.size n6 (.slice a6 m6 c6) (.slice a6' m6' c6')/\IsRat (w6.alloc (.cells #[.bool n6,.slice a6 m6 c6,.slice a6' m6' c6'] 31)) (.agg #[.bool n6,.slice a6 m6 c6,.slice a6' m6' c6']) (K:Rat) from
     ⟨(HX6.out.1.keep hx6).keep hxk,HX6.out.2.1.trans (hx6.trans hxk).none,HX6.out.2.2.2.trans (hx6.trans hxk),hbk,h6.keep hxk⟩)
    replace f0:=cell_keep (cell_keep f0 hx6) hxk
    have hBk:B<w6.heap.size:=(HX6.out.1.keep hx6).lt
    clear f1 hxk hbk h6 hx6 HX6
    generalize w6.alloc (.cells #[.bool n6,.slice a6 m6 c6,.slice a6' m6' c6'] 31)=w7 at *
    generalize w6.heap.size=kb at *
    have HH7:=bH (HH.out.keep HX7.out.2.2.1)
    have c5:=cq (cellq HH7.out.box 5 rfl)
    replace f0:=cq f0
    have HIf8:=bH (fun W (hW:XF w7 W)=>HIf.out W (HX7.out.2.2.1.trans hW) vn)
    refine wp_region_held_drew (S:=(XF w7)) (by kernel_rfl) ((Ext.refl _ w7).drew) (fun hHeld=>?_)
    refine ht 0 (h:=(ht 1 (h:=(ht 2 (h:=(ht 3 (h:=(ht 4 (h:=(ht 5 (h:=?_)))))))))))
    (try go_frame)
    refine hst 6 (h:=fun K hK=>?_)
    (go_simp; go_at_call 202; (with_reducible refine (HIf8.out _ hHeld).mono ?_); rintro q1 w11 ⟨rfl,rfl⟩; have hX1:=hHeld)
    refine hK.out _ _ (hX1) (fun hHeld=>?_)
    clear hK K
    (try go_frame)
    refine ht 7 (h:=?_)
    (try go_frame)
    refine wpAnyH_done (by kernel_rfl) ?_ _
    have HX8:=bH (show RArr w7.drew B T.n (rowP p T l i)/\Ext (fun k=>k=B) wc w7.drew/\XF w w7.drew/\BoxR w7.drew kb n6 (.slice a6 m6 c6) (.slice a6' m6' c6')/\IsRat w7.drew (.agg #[.bool n6,.slice a6 m6 c6,.slice a6' m6' c6']) (K:Rat) from
     have hd:=(Ext.refl (fun _=>False) w7).drew
     ⟨HX7.out.1.keep hd,HX7.out.2.1.trans hd.none,HX7.out.2.2.1.trans hd,HX7.out.2.2.2.1.keep hd,HX7.out.2.2.2.2.keep hd⟩)
    replace f0:=f0 _ (Ext.refl (fun _=>False) w7).drew
    go_upto_if 52 with fail
    clear HX7 HH7 hX1 hHeld c5 HIf8
    generalize w7.drew=w8 at *
    have HH8:=bH (HH.out.keep HX8.out.2.2.1)
    have HGc:=bH (show ∀ c,gco T vn c=match idxN T.fr vn T.n with | some c'=>if c=c' then 1 else 0 | none=>match idxN T.ba vn T.m with | some r=>-(T.al r c) | none=>0 from fun _=>rfl)
    have hcs:(∃ c0,idxN T.fr vn T.n=some c0/\optI (idxN T.fr vn T.n)=(c0:Int))∨(idxN T.fr vn T.n=none/\optI (idxN T.fr vn T.n) = -1):=by
     cases hq:idxN T.fr vn T.n with
     | some c0=>exact .inl ⟨c0,rfl,rfl⟩
     | none=>exact .inr ⟨rfl,rfl⟩
    obtain ⟨y0,y1,y2,-⟩:=HX8.out.2.2.2.1.facts
    have HKq:=bH (bI HX8.out.2.2.2.2 (show Sz (K:Rat) 2 from Sz.int ⟨by omega,by omega⟩))
    rcases hcs with ⟨c0,hf,hix⟩ | ⟨hf,hix⟩
    ·obtain ⟨hc0,hfc⟩:=idxN_some hf
     generalize optI (idxN T.fr vn T.n)=ix at *
     subst hix
     have HGs:=bH (show ∀ c,gco T vn c=if c=c0 then 1 else 0 from fun c=>by rw [HGc.out,hf])
     have c00:(0:Int)<=(c0:Int):=by omega
     have c01:(c0:Int)<(T.n:Int):=by omega
     have HB:=bH HX8.out.1
     obtain ⟨on,oa,ol,oc,oa',ol',oc',o0,o1,o2,hoq⟩:=HB.out.cells c0 hc0
     have hzz:=HSz.out.1 c0 hc0
     have HAd:=bH (fun W (hW:XF w8 W)=>radd_any W _ _ (rowP p T l i c0) (K:Rat) (1+i*(s+3)+2) ((hoq.keep hW).reads (hzz.mono (by omega))) ((HKq.out.1.keep hW).reads (HKq.out.2.mono (by omega))) (by omega) (by have:=HSz.out.2; omega))
     have HNx2:=bH (show ∀ c,(if c=c0 then rowP p T l i c0+(K:Rat) else rowP p T l i c)=rowP p T l (i+1) c from fun c=>by
      rw [HNx.out,HGs.out]
      by_cases e:c=c0
      ·rw [if_pos e,if_pos e,e]; grind
      ·rw [if_neg e,if_neg e]; grind)
     clear hoq hzz hf hfc HGc
     replace y0:=cq y0
     replace y1:=cq y1
     replace y2:=cq y2
     replace o0:=cq o0
     replace o1:=cq o1
     replace o2:=cq o2
     go_upto_region 10 with fail
     refine ends_begin 9 (XF w8) (by kernel_rfl) ((Ext.refl _ w8).drew) (fun hHeld=>?_)
     refine et 0 (h:=(et 1 (h:=(et 2 (h:=(et 3 (h:=(et 4 (h:=(et 5 (h:=(et 6 (h:=?_)))))))))))))
     (try go_frame)
     refine est 7 (h:=fun K hK=>?_)
     (go_simp; go_at_call 67; (with_reducible refine (HAd.out _ hHeld).mono ?_); rintro q1 w11 ⟨v11,rfl,h11,hx11⟩; have hX1:=hHeld.trans hx11; obtain ⟨n11,a11,l11,c11,a11',l11',c11',rfl⟩:=h11.shape)
     refine hK.out _ _ (hX1) (fun hHeld=>?_)
     clear hK K
     (try go_frame)
     refine et 8 (h:=?_)
     (try go_frame)
     have HT2:=bH (HB.out.keep hX1)
     have fz0:=HT2.out.free (c0*3)
     have fz1:=HT2.out.free (c0*3+1)
     have fz2:=HT2.out.free (c0*3+2)
     have t0:=o0 _ hX1
     have t1:=o1 _ hX1
     have t2:=o2 _ hX1
     refine ends_last rfl (by kernel_rfl) (fun K hK=>?_)
     go_simp
     refine hK.out _ _ ?_
     clear hK K
     (try go_frame)
     refine ends_done (by kernel_rfl) ?_ _
     obtain ⟨p1,p2,p3⟩:=HT2.out.put (show c0<T.n from hc0) h11
     have HP:=bH (bI (p1.congr (fun c _=>HNx2.out c)) ((HX8.out.2.1.trans hX1.none).trans p2))
     clear p1 p2 p3 HT2 fz0 fz1 fz2 t0 t1 t2 o0 o1 o2 y0 y1 y2 h11 hx11 hX1 hHeld HAd HB HX8 f0
     generalize ((w11.setCell ⟨B,c0*3,none⟩ (.bool n11)).setCell ⟨B,c0*3+1,none⟩ (.slice a11 l11 c11)).setCell ⟨B,c0*3+2,none⟩ (.slice a11' l11' c11')=w9 at *
     go_wp2
     go_roundg ((limTs p l).length - (i+1))
     case measure=>omega
     case rel=>exact ⟨i+1,by omega,rfl,by go_num,HP.out⟩
    ·obtain ⟨r,hr⟩:=HZ.out.2.2.2 vn v2 hf
     obtain ⟨hrm,hrv⟩:=idxN_some hr
     have HIb8:=bH (fun W (hW:XF w8 W)=>show Calls Tryz.prog 202 #[V.ba,.int .i64 vn] W (fun r' w'=>r'=.returned (.int .i64 (r:Int))/\w'=W) from by
      have:=HIb.out W (HX8.out.2.2.1.trans hW) vn
      rw [hr] at this; exact this)
     have HGs:=bH (show ∀ c,gco T vn c = -(T.al r c) from fun c=>by rw [HGc.out,hf]; dsimp only; rw [hr])
     generalize optI (idxN T.fr vn T.n)=ix at *
     subst hix
     obtain ⟨ga,ca,hva,q1,q2,hrc⟩:=HH8.out.at.al.open (by omega)
     have hbox:=HH8.out.box
     rw [hva] at hbox
     have c4:=cq (cellq hbox 4 rfl)
     have c7:=cq (cellq hbox 7 rfl)
     have c9:=cq (hrc r hrm)
     have r0:(0:Int)<=(r:Int):=by omega
     have r1:(r:Int)<(T.m:Int):=by omega
     clear hbox hrc hf hr hva HGc
     have f0':=cq f0
     go_upto_region 11 with fail
     refine wp_region_held_drew (S:=(XF w8)) (by kernel_rfl) ((Ext.refl _ w8).drew) (fun hHeld=>?_)
     refine ht 0 (h:=(ht 1 (h:=(ht 2 (h:=(ht 3 (h:=(ht 4 (h:=(ht 5 (h:=(ht 6 (h:=(ht 7 (h:=(ht 8 (h:=(ht 9 (h:=(ht 14 (h:=?_)))))))))))))))))))))
     (try go_frame)
     refine hst 10 (h:=fun K hK=>?_)
     (go_simp; go_at_call 202; (with_reducible refine (HIb8.out _ hHeld).mono ?_); rintro q1 w11 ⟨rfl,rfl⟩; have hX1:=hHeld)
     refine hK.out _ _ (hX1) (fun hHeld=>?_)
     clear hK K
     (try go_frame)
     refine ht 11 (h:=(ht 12 (h:=(ht 13 (h:=?_)))))
     (try go_frame)
     refine wpAnyH_done (by kernel_rfl) ?_ _
     have HX9:=bH (show RArr w8.drew B T.n (fun c=>if c<0 then rowP p T l (i+1) c else rowP p T l i c)/\Ext (fun k=>k=B) wc w8.drew/\BoxR w8.drew kb n6 (.slice a6 m6 c6) (.slice a6' m6' c6')/\IsRat w8.drew (.agg #[.bool n6,.slice a6 m6 c6,.slice a6' m6' c6']) (K:Rat) from
      have hd:=(Ext.refl (fun _=>False) w8).drew
      ⟨(HX8.out.1.keep hd).congr (fun c _=>(if_neg (by omega)).symm),HX8.out.2.1.trans hd.none,HX8.out.2.2.2.1.keep hd,HX8.out.2.2.2.2.keep hd⟩)
     have HRn:=bH (fun W (hW:XF w W)=>(HH.out.keep hW).rest.rows r hrm)
     clear hX1 hHeld c4 c7 c9 f0' f0 HIb8 HX8 HH8 y0 y1 y2
     have HKz:=bH HKq.out.2
     clear HKq
     go_upto_region 12 with fail
     generalize w8.drew=w9 at *
     go_loopg [76,13,14] T.n (fun gg v76 v13 v14 wr=>∃ j:Nat,j<=T.n/\gg=T.n - j/\v76=.int .i64 j/\RArr wr B T.n (fun c=>if c<j then rowP p T l (i+1) c else rowP p T l i c)/\Ext (fun k=>k=B) wc wr/\BoxR wr kb n6 (.slice a6 m6 c6) (.slice a6' m6' c6')/\IsRat wr (.agg #[.bool n6,.slice a6 m6 c6,.slice a6' m6' c6']) (K:Rat))
     case atStart=>exact ⟨0,Nat.zero_le _,rfl,rfl,HX9.out⟩
     case round =>
      clear HX9
      obtain ⟨j,hj,rfl,rfl,harr,hx,hbk,hqk⟩:=hrel
      have HX:=bH (bI harr (bI hx (bI hbk hqk)))
      clear harr hx hbk hqk
      by_cases hjn:j<T.n
      ·have j0:(j:Int)<(T.n:Int):=by omega
       have j1:(0:Int)<=(j:Int):=by omega
       obtain ⟨n3,a3,l3,c3,a3',l3',c3',e0,e1,e2,hq3⟩:=(HRn.out wr (HW20.out.trans (HE.out wr HX.out.2.1))).1.cells j hjn
       have hxa:=(Ext.refl (fun _=>False) wr).alloc (.cells #[.bool n3,.slice a3 l3 c3,.slice a3' l3' c3'] 31)
       have hb3:=boxR_new (W:=wr) rfl n3 a3 l3 c3 a3' l3' c3'
       have HXa:=bH (bI (HX.out.1.keep hxa) (bI (HX.out.2.1.trans hxa.none) (bI (HX.out.2.2.1.keep hxa) (bI (HX.out.2.2.2.keep hxa) (bI hb3 (hq3.keep hxa))))))
       clear hxa hb3 hq3 HX
       go_upto_region 14 with fail
       generalize wr.alloc (.cells #[.bool n3,.slice a3 l3 c3,.slice a3' l3' c3'] 31)=w9a at *
       generalize wr.heap.size=ab at *
       clear e0 e1 e2
       obtain ⟨x0,x1,x2,-⟩:=HXa.out.2.2.2.2.1.facts
       have hzj:=HZ.out.1 r j hrm hjn
       have HSg:=bH (rsign_any w9a _ (T.al r j) s (HXa.out.2.2.2.2.2.reads hzj) (by omega))
       have HGj:=bH (HGs.out j)
       have HNj:=bH (HNx.out j)
       have Hsz:=bH (sign_zero (T.al r j))
       go_upto_if 83 with (go_at_call 51; refine HSg.out.mono ?_; rintro r4 w10 ⟨rfl,hx4⟩)
       replace HXa:=bH (bI (HXa.out.1.keep hx4) (bI (HXa.out.2.1.trans hx4.none) (bI (HXa.out.2.2.1.keep hx4) (bI (HXa.out.2.2.2.1.keep hx4) (bI (HXa.out.2.2.2.2.1.keep hx4) (HXa.out.2.2.2.2.2.keep hx4))))))
       clear hx4 x0 x1 x2 HSg
       generalize (T.al r j).num.sign=sg at *
       by_cases hsg:sg=0
       ·have HP:=bH (HXa.out.1.congr (g:=fun c=>if c<j+1 then rowP p T l (i+1) c else rowP p T l i c) (fun c _=>by
         by_cases e:c=j
         ·rw [e,if_neg (by omega),if_pos (by omega),HNj.out,HGj.out,Hsz.out.1 hsg]; grind
         ·by_cases e2:c<j
          ·rw [if_pos e2,if_pos (by omega)]
          ·rw [if_neg e2,if_neg (by omega)]))
        subst hsg
        go_wp2
        go_roundg (T.n - (j+1))
        case measure=>omega
        case rel=>exact ⟨j+1,by omega,rfl,by go_num,HP.out,HXa.out.2.1,HXa.out.2.2.1,HXa.out.2.2.2.1⟩
       have hs1:(sg == 0)=false:=by simpa using hsg
       have hs2:(sg != 0)=true:=by simpa using hsg
       obtain ⟨x0,x1,x2,-⟩:=HXa.out.2.2.2.2.1.facts
       obtain ⟨y0,y1,y2,-⟩:=HXa.out.2.2.1.facts
       have HB:=bH HXa.out.1
       obtain ⟨on,oa,ol,oc,oa',ol',oc',o0,o1,o2,hoq⟩:=HB.out.cells j hjn
       rw [if_neg (by omega)] at hoq
       have hzz:=HSz.out.1 j hjn
       have HM:=bH (fun W (hW:XF w10 W)=>rmul_any W _ _ (K:Rat) (T.al r j) s ((HXa.out.2.2.2.1.keep hW).reads (HKz.out.mono h2s)) ((HXa.out.2.2.2.2.2.keep hW).reads hzj) (by omega) (by omega))
       have HSu:=bH (fun W u (hW:XF w10 W) (hu:IsRat W u ((K:Rat)*T.al r j))=>rsub_any W _ u (rowP p T l i j) _ (1+i*(s+3)+(2+s)) ((hoq.keep hW).reads (hzz.mono (by omega))) (hu.reads ((HKz.out.mul hzj).mono (by omega))) (by omega) (by have:=HSz.out.2; omega))
       have HNx2:=bH (show ∀ c,(if c=j then rowP p T l i j - (K:Rat)*T.al r j else if c<j then rowP p T l (i+1) c else rowP p T l i c)=(if c<j+1 then rowP p T l (i+1) c else rowP p T l i c) from fun c=>by
        by_cases e:c=j
        ·rw [if_pos e,e,if_pos (by omega),HNj.out,HGj.out]; grind
        ·rw [if_neg e]
         by_cases e2:c<j
         ·rw [if_pos e2,if_pos (by omega)]
         ·rw [if_neg e2,if_neg (by omega)])
       clear hoq hzz
       replace y0:=cq y0
       replace y1:=cq y1
       replace y2:=cq y2
       replace x0:=cq x0
       replace x1:=cq x1
       replace x2:=cq x2
       replace o0:=cq o0
       replace o1:=cq o1
       replace o2:=cq o2
       go_upto_region 15 with fail
       refine ends_begin 11 (XF w10) (by kernel_rfl) ((Ext.refl _ w10).drew) (fun hHeld=>?_)
       refine et 0 (h:=(et 1 (h:=(et 2 (h:=(et 3 (h:=(et 4 (h:=(et 5 (h:=(et 6 (h:=(et 7 (h:=?_)))))))))))))))
       (try go_frame)
       refine est 8 (h:=fun K hK=>?_)
       (go_simp; go_at_call 112; (with_reducible refine (HM.out _ hHeld).mono ?_); rintro q1 w11 ⟨v11,rfl,h11,hx11⟩; have hX1:=hHeld.trans hx11; obtain ⟨n11,a11,l11,c11,a11',l11',c11',rfl⟩:=h11.shape)
       refine hK.out _ _ (hX1) (fun hHeld=>?_)
       clear hK K
       (try go_frame)
       refine est 9 (h:=fun K hK=>?_)
       (go_simp; go_at_call 65; (with_reducible refine (HSu.out _ _ hX1 h11).mono ?_); rintro q2 w12 ⟨v12,rfl,h12,hx12⟩; have hX2:=hX1.trans hx12; obtain ⟨n12,a12,l12,c12,a12',l12',c12',rfl⟩:=h12.shape)
       refine hK.out _ _ (hX2) (fun hHeld=>?_)
       clear hK K
       (try go_frame)
       refine et 10 (h:=?_)
       (try go_frame)
       have HT2:=bH (HB.out.keep hX2)
       have fz0:=HT2.out.free (j*3)
       have fz1:=HT2.out.free (j*3+1)
       have fz2:=HT2.out.free (j*3+2)
       have t0:=o0 _ hX2
       have t1:=o1 _ hX2
       have t2:=o2 _ hX2
       refine ends_last rfl (by kernel_rfl) (fun K hK=>?_)
       go_simp
       refine hK.out _ _ ?_
       clear hK K
       (try go_frame)
       refine ends_done (by kernel_rfl) ?_ _
       obtain ⟨p1,p2,p3⟩:=HT2.out.put (show j<T.n from hjn) h12
       have HP:=bH (bI (p1.congr (fun c _=>HNx2.out c)) (bI ((HXa.out.2.1.trans hX2.none).trans p2) (bI ((HXa.out.2.2.1.keep hX2).ext p2 (fun e=>by have e':kb=B:=e; omega)) ((HXa.out.2.2.2.1.keep hX2).past p3))))
       clear p1 p2 p3 HT2 fz0 fz1 fz2 t0 t1 t2 o0 o1 o2 x0 x1 x2 y0 y1 y2 h11 h12 hx11 hx12 hX1 hX2 hHeld HM HSu HB HXa
       generalize ((w12.setCell ⟨B,j*3,none⟩ (.bool n12)).setCell ⟨B,j*3+1,none⟩ (.slice a12 l12 c12)).setCell ⟨B,j*3+2,none⟩ (.slice a12' l12' c12')=w13 at *
       go_wp2
       go_roundg (T.n - (j+1))
       case measure=>omega
       case rel=>exact ⟨j+1,by omega,rfl,by go_num,HP.out⟩
      ·obtain rfl:j=T.n:=by omega
       have HP:=bH (bI (HX.out.1.congr (g:=rowP p T l (i+1)) (fun c hc=>by rw [if_pos hc])) HX.out.2.1)
       clear HX
       go_wp2
       go_roundg ((limTs p l).length - (i+1))
       case measure=>omega
       case rel=>exact ⟨i+1,by omega,rfl,by go_num,HP.out⟩
   ·obtain rfl:i=(limTs p l).length:=by omega
    have HHr:=bH (HH.out.keep HX.out.2.2.2)
    have HNo:=bH (bI (slice_ni HHr.out.vars.shape) (slice_ni HHr.out.rows.shape))
    obtain ⟨vo,vc,e1,-,-,-⟩:=HHr.out.vars.shape
    obtain ⟨uo,uc,e2⟩:=HHr.out.rest.u.shape
    have hmu:=HHr.out.hm
    have HM0:=bH HHr.out.mid
    have HRa:=bH (HM0.out.keep (((Ext.refl (fun _=>False) wr).alloc (.cells #[.int .i64 ((p.vars.length+us.length:Nat):Int)] 3)).drew))
    have hbox:=HHr.out.box
    have hnt:¬ V.ba.ownBlock=some tb:=fun e=>HM0.out.ntb ⟨.inl e⟩ rfl
    have c0:=cqo (S:=fun k=>V.ba.ownBlock=some k) (show wr.cell? ⟨tb,0,none⟩=some (.slice vo p.vars.length vc) from (cellq (x:=V.pv) hbox 0 rfl).trans (congrArg some e1)) hnt
    have c2:=cqo (S:=fun k=>V.ba.ownBlock=some k) (show wr.cell? ⟨tb,2,none⟩=some (.slice uo us.length uc) from (cellq (x:=V.u) hbox 2 rfl).trans (congrArg some e2)) hnt
    have c4:=cqo (S:=fun k=>V.ba.ownBlock=some k) (cellq hbox 4 rfl) hnt
    have hnn:=HNn.out
    have hw18:IntKind.i64.wrap ((p.vars.length:Int)+(us.length:Int))=((p.vars.length+us.length:Nat):Int):=by
     rw [show ((p.vars.length+us.length:Nat):Int)=(p.vars.length:Int)+(us.length:Int) by omega]
     exact IntWalk.i64_in _ (by omega)
    have HE1:=bH (bI e1 (bI e2 (bI hmu hnn)))
    clear hbox hnt e1 e2 hnn hmu
    go_upto_region 18 with fail
    refine mbegin 21 (Ext (fun k=>V.ba.ownBlock=some k) wr) (by kernel_rfl) ((Ext.refl _ wr).drew) (fun hHeld=>?_)
    refine mu 0 (h:=(mu 1 (h:=(mu 2 (h:=(mu 3 (h:=(mu 4 (h:=(mu 5 (h:=(mu 6 (h:=(mu 7 (h:=(mu 8 (h:=(mu 9 (h:=(mu 10 (h:=(mu 11 (h:=(mu 12 (h:=(mu 13 (h:=(mu 14 (h:=(mu 15 (h:=(mu 16 (h:=?_)))))))))))))))))))))))))))))))))
    (try go_frame)
    refine mst 17 (h:=fun K hK=>?_)
    go_simp
    refine hK.out _ _ (hHeld.alloc _) (fun hHeld=>?_)
    clear hK K
    (try go_frame)
    refine mst 18 (h:=fun K hK=>?_)
    refine step_app rfl _ _ rfl Tryz.underlying42 Tryz.infoInt1 rfl (int_noD 0) (by decide) (by decide) w0.heap.size (V.ba) (T.m) (intL T.m T.ba) rfl (HRa.out.rest.ba.own.1) (HRa.out.rest.ba.own.2) (intL_noD _ _) ⟨wr.heap.size,0,none⟩ 1 ([.int .i64 ((p.vars.length+us.length:Nat):Int)]) rfl rfl (alloc_src _ _ _) (int_one _) (int_noD _) (by omega) (HRa.out.size) (fun v18 w18 ha18=>?_)
    obtain ⟨bo18,bc18,rfl⟩:=ownsRow_shape ha18.own
    have HQ18:=bH (HRa.out.appBa ha18)
    refine hK.out _ _ (hHeld.trans ha18.ext) (fun hHeld=>?_)
    clear hK K
    (try go_frame)
    refine mu 19 (h:=(mu 20 (h:=?_)))
    (try go_frame)
    have t4:=cellq HQ18.out.box 4 rfl
    have f4:=free_of_cells HQ18.out.box 4
    refine ml 21 (h:=fun K hK=>?_)
    go_simp
    refine hK.out _ _ ?_
    clear hK K
    (try go_frame)
    refine mdone (by kernel_rfl) ?_ _
    have HM18:=bH (HQ18.out.store 4 (slice_notInt rfl) { V with ba:=.slice bo18 (T.m+1) bc18 } rfl)
    have hnb:∀ k,w.heap.size<=k->¬ V.Big tb T.m k:=fun k hk e=>by have:=HH.out.lt e; omega
    have hlb9:blk wr lb=some (.cells #[.int .i64 l.row,.int .i64 l.var,.bool l.tur] 142 (0,0)):=(HX.out.2.1.blk (blk_lt HC.out.2.1) (fun e=>by have e':lb=B:=e; omega)).trans HC.out.2.1
    have hib9:BoxR wr ib n1 (.slice a1 m1 c1) (.slice a1' m1' c1'):=HC.out.2.2.2.2.1.ext HX.out.2.1 (fun e=>by have e':ib=B:=e; omega)
    have hir9:IsRat wr (.agg #[.bool n1,.slice a1 m1 c1,.slice a1' m1' c1']) (slackQ p l (listTo p.vars.length (distN T.ba T.be T.m)) false):=HC.out.2.2.2.2.2.1.past (fun v l hv=>hv.past HX.out.2.1 (fun k _ e=>by have e':k=B:=e; subst e'; exact HC.out.2.2.1.noDig))
    have hBw2:w2.heap.size<=B:=hBw
    have hw2:w.heap.size<=w2.heap.size:=HW20.out.size
    have hwib:w.heap.size<=ib:=by have:=HX23.out.size; omega
    have HNb:=bH (bI (hnb lb (by omega)) (bI (hnb ib hwib) (hnb B (by omega))))
    have HOld:=bH (bI hlb9 (bI hib9 (bI hir9 HX.out.1.cap)))
    clear hnb hlb9 hib9 hir9
    go_upto_region 19 with fail
    clear HQ18 HRa HM0 t4 f4 hw18 c0 c2 c4 ha18 hHeld
    generalize w18.setCell ⟨tb,4,none⟩ (.slice bo18 (T.m+1) bc18)=w19 at *
    obtain ⟨mb,es0,clock0,hmp,hmb,-⟩:=HM18.out.rest.mp
    have hmp:V.mp=.map (some mb):=hmp
    have hlb19:=(HM18.out.ext.blk (blk_lt HOld.out.1) HNb.out.1).trans HOld.out.1
    have hnu:¬ V.u.ownBlock=some lb:=fun e=>HNb.out.1 (.inr ⟨.inr (.inr (.inr (.inr (.inr (.inl e)))))⟩)
    have hnt:¬ V.u.ownBlock=some tb:=fun e=>HM18.out.ntb ⟨.inr (.inr (.inr (.inr (.inr (.inl e)))))⟩ rfl
    have c2:=cqo (S:=fun k=>V.u.ownBlock=some k) (cellq HM18.out.box 2 rfl) hnt
    have c3:=cqo (S:=fun k=>V.u.ownBlock=some k) (show w19.cell? ⟨tb,3,none⟩=some (.map (some mb)) from (cellq (x:=V.mp) HM18.out.box 3 rfl).trans (congrArg some hmp)) hnt
    have hnu2:¬ (V.u.ownBlock=some lb∨lb=tb∨lb=mb):=fun e=>by
     rcases e with e | e | e
     ·exact hnu e
     ·exact HNb.out.1 (.inl e)
     ·exact HNb.out.1 (.inr ⟨.inr (.inr (.inr (.inr (.inr (.inr (.inr (.inl (by rw [e]; exact hmp))))))))⟩)
    have l0:=cqo (S:=fun k=>V.u.ownBlock=some k) (cellq hlb19 0 rfl) hnu
    have l1:=cqo (S:=fun k=>V.u.ownBlock=some k) (cellq hlb19 1 rfl) hnu
    have l2:=cqo (S:=fun k=>V.u.ownBlock=some k) (cellq hlb19 2 rfl) hnu
    have m0:=cqo (S:=fun k=>V.u.ownBlock=some k∨k=tb∨k=mb) (cellq hlb19 0 rfl) hnu2
    have m1':=cqo (S:=fun k=>V.u.ownBlock=some k∨k=tb∨k=mb) (cellq hlb19 1 rfl) hnu2
    have m2:=cqo (S:=fun k=>V.u.ownBlock=some k∨k=tb∨k=mb) (cellq hlb19 2 rfl) hnu2
    have HRb:=bH (HM18.out.keep (((Ext.refl (fun _=>False) w19).alloc (.cells #[.int .i64 l.row,.int .i64 l.var,.bool l.tur] 142)).drew))
    have hmu:=HE1.out.2.2.1
    have hus:us.length<=1000:=by omega
    clear hlb19 hnu hnt hmu hnu2
    refine nbegin 15 (Ext (fun k=>V.u.ownBlock=some k) w19) (Ext (fun k=>V.u.ownBlock=some k∨k=tb∨k=mb) w19) (by kernel_rfl) ((Ext.refl _ w19).drew) ((Ext.refl _ w19).drew) (fun hHeld hHeld2=>?_)
    refine nu 0 (h:=(nu 1 (h:=(nu 2 (h:=(nu 3 (h:=(nu 4 (h:=(nf 5 (h:=(nu 6 (h:=(nu 7 (h:=(nu 8 (h:=(nu 9 (h:=(nu 10 (h:=?_)))))))))))))))))))))
    (try go_frame)
    refine nst 11 (h:=fun K hK=>?_)
    go_simp
    refine hK.out _ _ (hHeld.alloc _) (hHeld2.alloc _) (fun hHeld hHeld2=>?_)
    clear hK K
    (try go_frame)
    refine nst 12 (h:=fun K hK=>?_)
    refine step_app rfl _ _ rfl Tryz.underlying138 Tryz.infoLimit rfl (limC_noD lim0) (by decide) (by decide) w0.heap.size (V.u) (us.length) (us.flatMap limC) rfl (HRb.out.rest.u.own) (HRb.out.rest.u.noDig) (limsC_noD _) ⟨w19.heap.size,0,none⟩ 1 (limC l) rfl rfl (alloc_src _ _ _) (limC_one _) (limC_noD _) (by omega) (HRb.out.size) (fun v20 w20 ha20=>?_)
    obtain ⟨bo20,bc20,rfl⟩:=ownsRow_shape ha20.own
    have HQ20:=bH (HRb.out.appU ha20)
    refine hK.out _ _ (hHeld.trans ha20.ext) (hHeld2.trans (ha20.ext.mono (fun k _ e=>.inl e))) (fun hHeld hHeld2=>?_)
    clear hK K
    (try go_frame)
    refine nu 13 (h:=(nu 14 (h:=?_)))
    (try go_frame)
    have t2:=cellq HQ20.out.box 2 rfl
    have f2:=free_of_cells HQ20.out.box 2
    refine nl 15 (h:=fun K hK=>?_)
    go_simp
    refine hK.out _ _ (hHeld2.setCell _ (fun _=>.inr (.inl rfl))) (fun hHeld2=>?_)
    clear hK K
    (try go_frame)
    have HQ21:=bH (HQ20.out.store 2 (slice_notInt rfl) { V with ba:=.slice bo18 (T.m+1) bc18,u:=.slice bo20 (us.length+1) bc20 } rfl)
    obtain ⟨mb',es,clock,e5,e6,e7,e8,e9⟩:=HQ21.out.rest.mp
    have e5':V.mp=.map (some mb'):=e5
    rw [hmp] at e5'
    cases e5'
    obtain ⟨O,hO1,es',clock',hO2,hO3,hO4⟩:=run_entry_lim (b:=mb) e8 e9 l HNew.out
    have hme:(Instr.mapEntry 137 (.map (some mb)) (.agg #[.int .i64 l.row,.int .i64 l.var,.bool l.tur])).run Tryz.prog (w20.setCell ⟨tb,2,none⟩ (.slice bo20 (us.length+1) bc20))=.ok (.tuple #[.bool false,.int .i64 clock]) (setBlock (w20.setCell ⟨tb,2,none⟩ (.slice bo20 (us.length+1) bc20)) mb O):=hO1 _ e7
    have hes:(Instr.entryStore 137 (.map (some mb)) (.int .i64 clock) (.bool true)).run Tryz.prog (setBlock (w20.setCell ⟨tb,2,none⟩ (.slice bo20 (us.length+1) bc20)) mb O)=.ok () (setBlock (setBlock (w20.setCell ⟨tb,2,none⟩ (.slice bo20 (us.length+1) bc20)) mb O) mb (.map es' clock')):=hO2 _ (blk_setBlock (blk_lt e7) O)
    clear hO1 hO2
    refine nl 16 (h:=fun K hK=>?_)
    go_simp
    refine hK.out _ _ (hHeld2.setBlock _ _ (fun _=>.inr (.inr rfl))) (fun hHeld2=>?_)
    clear hK K
    (try go_frame)
    refine nl 17 (h:=fun K hK=>?_)
    go_simp
    refine hK.out _ _ (hHeld2) (fun hHeld2=>?_)
    clear hK K
    (try go_frame)
    refine nl 18 (h:=fun K hK=>?_)
    go_simp
    refine hK.out _ _ (hHeld2.setBlock _ _ (fun _=>.inr (.inr rfl))) (fun hHeld2=>?_)
    clear hK K
    (try go_frame)
    refine ndone (by kernel_rfl) ?_ _
    have HM21:=bH (HQ21.out.setMap (mb:=mb) hmp hmb (show _=setBlock (setBlock _ mb O) mb (.map es' clock') from rfl) hO3 hO4)
    go_upto_region 20 with fail
    clear HQ20 HQ21 HRb t2 f2 hme hes e5 e6 e7 e8 e9 hO3 hO4 c2 c3 l0 l1 l2 m0 m1' m2 ha20 hHeld
    generalize setBlock (setBlock (w20.setCell ⟨tb,2,none⟩ (.slice bo20 (us.length+1) bc20)) mb O) mb (.map es' clock')=w21 at *
    have hib21:=HOld.out.2.1.ext (HM21.out.ext) HNb.out.2.1
    obtain ⟨x0,x1,x2,-⟩:=hib21.facts
    have hIB0:=HOld.out.2.2.1.past HM21.out.rds
    have hnS:∀ k,(V.be.ownBlock=some k∨V.al.ownBlock=some k)->V.Big tb T.m k:=fun k e=>by
     rcases e with e | e
     ·exact .inr ⟨.inr (.inr (.inl e))⟩
     ·exact .inr ⟨.inr (.inr (.inr (.inr (.inl e))))⟩
    have c6:=cqo (S:=fun k=>V.be.ownBlock=some k∨V.al.ownBlock=some k) (cellq HM21.out.box 6 rfl) (fun e=>by
     rcases e with e | e
     ·exact HM21.out.ntb ⟨.inr (.inr (.inl e))⟩ rfl
     ·exact HM21.out.ntb ⟨.inr (.inr (.inr (.inr (.inl e))))⟩ rfl)
    have c7:=cqo (S:=fun k=>V.be.ownBlock=some k∨V.al.ownBlock=some k) (cellq HM21.out.box 7 rfl) (fun e=>by
     rcases e with e | e
     ·exact HM21.out.ntb ⟨.inr (.inr (.inl e))⟩ rfl
     ·exact HM21.out.ntb ⟨.inr (.inr (.inr (.inr (.inl e))))⟩ rfl)
    replace x0:=cqo (S:=fun k=>V.be.ownBlock=some k∨V.al.ownBlock=some k) x0 (fun e=>HNb.out.2.1 (hnS _ e))
    replace x1:=cqo (S:=fun k=>V.be.ownBlock=some k∨V.al.ownBlock=some k) x1 (fun e=>HNb.out.2.1 (hnS _ e))
    replace x2:=cqo (S:=fun k=>V.be.ownBlock=some k∨V.al.ownBlock=some k) x2 (fun e=>HNb.out.2.1 (hnS _ e))
    have HneA:=bH (fun (k:Nat) (hk:w21.heap.size<=k)=>show ¬ V.be.ownBlock=some k from fun e=>by
     have:=HM21.out.rest.old ⟨.inr (.inr (.inl e))⟩; omega)
    have hHd:=(Ext.refl (fun _=>False) w21).drew
    have HM0d:=bH (HM21.out.keep hHd)
    replace hIB0:=hIB0.keep hHd
    have hBlt9:B<wr.heap.size:=HX.out.1.lt
    have HBl:=bH (show w.heap.size<=B/\w0.heap.size<=B/\¬ V.All T.m B/\w.heap.size<=wr.heap.size from ⟨by omega,Nat.le_trans HH.out.old.size (by omega),fun e=>HNb.out.2.2 (.inr e),HX.out.2.2.2.size⟩)
    have HEnd:=bH (fun (W:World) (V':TabV) (hM:MidS w.heap.size w0 wr W tb V V' V' T.m T.n (T.m+1) (T.m+1) (T.m+1) { n:=T.n,m:=T.m,ba:=fun i=>if i=T.m then p.vars.length+us.length else T.ba i,fr:=T.fr,be:=fun i=>if i=T.m then slackQ p l (listTo p.vars.length (distN T.ba T.be T.m)) false else T.be i,d:=T.d,al:=fun i=>if i=T.m then rowP p T l (limTs p l).length else T.al i } (us++[l]) ls (us++[l])) (e1:V'.pv=V.pv) (e2:V'.pr=V.pr) (e3:V'.l=V.l) =>
     show UsePost w0 w tb V T p us ls l (.returned (.tuple #[])) W from use_end HH.out HHr.out HX.out.2.2.2 hM e1 e2 e3 HIn.out.2.2 hm9)
    clear hib21 hnS hHd
    refine mbegin 18 (Ext (fun k=>V.be.ownBlock=some k∨V.al.ownBlock=some k) w21) (by kernel_rfl) ((Ext.refl _ w21).drew) (fun hHeld=>?_)
    refine mu 0 (h:=(mf 1 (h:=(mu 2 (h:=(mu 3 (h:=(mu 4 (h:=(mu 5 (h:=(mu 6 (h:=(mu 9 (h:=(mu 10 (h:=(mu 11 (h:=(mu 12 (h:=(mu 13 (h:=?_)))))))))))))))))))))))
    (try go_frame)
    refine mtwo 7 14 rfl rfl (by kernel_rfl) (fun K hK=>?_) (fun K hK=>?_)
    ·go_simp
     have hxg1:XF (w21.drew) (((w21).alloc (.cells #[.bool n1,.slice a1 m1 c1,.slice a1' m1' c1'] 31)).drew):=by first | exact ((Ext.refl (fun _=>False) (w21.drew)).alloc _) | exact ((Ext.refl (fun _=>False) (w21)).alloc _).drew
     have HM1:=bH (HM0d.out.keep hxg1)
     have hIB1:=hIB0.keep hxg1
     have hsrc7:∀ (j:Nat) (u:Value),([.bool n1,.slice a1 m1 c1,.slice a1' m1' c1']:List Value)[j]?=some u->(((w21).alloc (.cells #[.bool n1,.slice a1 m1 c1,.slice a1' m1' c1'] 31)).drew).cell? ((⟨w21.heap.size,0,none⟩:Addr).add j)=some u:=alloc_src _ _ _
     refine hK.out _ _ (hHeld.alloc _) (fun hHeld=>?_)
     clear hK K
     (try go_frame)
     refine mtwo 8 14 rfl rfl (by kernel_rfl) (fun K hK=>?_) (fun K hK=>?_)
     ·obtain ⟨xs,hx1,hx2,hx3,hx4⟩:=HM1.out.rest.be.own
      refine step_app rfl _ _ rfl Tryz.underlying32 Tryz.infoRat rfl (ratC_noD ⟨false,none,0,0,none,0,0⟩) (by decide) (by decide) w0.heap.size (V.be) (T.m) (xs) rfl (hx1) (hx2) (hx3) ⟨w21.heap.size,0,none⟩ 1 (RatC.cells ⟨n1,a1,m1,c1,a1',m1',c1'⟩) rfl rfl (hsrc7) (ratC_one _) (ratC_noD _) (by omega) (HM1.out.size) (fun v22 w22 ha22=>?_)
      obtain ⟨bo22,bc22,rfl⟩:=ownsRow_shape ha22.own
      have HM22:=bH (HM1.out.appBe (x:=⟨n1,a1,m1,c1,a1',m1',c1'⟩) ha22 hx4 hx1.1 hIB1)
      refine hK.out _ _ (hHeld.trans (ha22.ext.mono (fun k _ e=>.inl e))) (fun hHeld=>?_)
      clear hK K
      (try go_frame)
      refine mst 14 (h:=fun K hK=>?_)
      go_simp
      have hxg3:XF w22 (w22.alloc (.cells #[.slice (some ⟨B,0,none⟩) T.n T.n] 32)):=by first | exact ((Ext.refl (fun _=>False) w22).alloc _) | exact ((Ext.refl (fun _=>False) (w22)).alloc _).drew
      have HM3:=bH (HM22.out.keep hxg3)
      have hIB3:=(hIB1.past ha22.rds).keep hxg3
      have hsrc14:∀ (j:Nat) (u:Value),([.slice (some ⟨B,0,none⟩) T.n T.n]:List Value)[j]?=some u->(w22.alloc (.cells #[.slice (some ⟨B,0,none⟩) T.n T.n] 32)).cell? ((⟨w22.heap.size,0,none⟩:Addr).add j)=some u:=alloc_src0 _ _ _
      refine hK.out _ _ (hHeld.alloc _) (fun hHeld=>?_)
      clear hK K
      (try go_frame)
      refine mst 15 (h:=fun K hK=>?_)
      refine step_app rfl _ _ rfl Tryz.underlying83 Tryz.infoRats rfl (slice_noD none 0 0) (by decide) (by decide) w0.heap.size (V.al) (T.m) (valL' T.m (fun i=>.slice (some ⟨V.rb i,0,none⟩) T.n T.n)) rfl (HM3.out.rest.al.own) (HM3.out.rest.aln) (slices_noD _ _ _ _) ⟨w22.heap.size,0,none⟩ 1 ([.slice (some ⟨B,0,none⟩) T.n T.n]) rfl rfl (hsrc14) (slice_one _ _ _) (slice_noD _ _ _) (by omega) (HM3.out.size) (fun v24 w24 ha24=>?_)
      obtain ⟨bo24,bc24,rfl⟩:=ownsRow_shape ha24.own
      have HM24:=bH (HM3.out.appAl ha24 (HOld.out.2.2.2.past HM3.out.ext HNb.out.2.2 HM3.out.rds) HBl.out.2.2.2 HBl.out.1 HBl.out.2.1 (fun e=>(HM3.out.lies B e).elim (fun e2=>HNb.out.2.2 e2) (fun e2=>absurd e2 (Nat.not_le_of_lt hBlt9))))
      refine hK.out _ _ (hHeld.trans (ha24.ext.mono (fun k _ e=>.inr e))) (fun hHeld=>?_)
      clear hK K
      (try go_frame)
      refine mu 16 (h:=(mu 17 (h:=?_)))
      (try go_frame)
      have t6:=cellq HM24.out.box 6 rfl
      have f6:=free_of_cells HM24.out.box 6
      refine ml 18 (h:=fun K hK=>?_)
      go_simp
      refine hK.out _ _ ?_
      clear hK K
      (try go_frame)
      refine ml 19 (h:=fun K hK=>?_)
      go_simp
      refine hK.out _ _ ?_
      clear hK K
      (try go_frame)
      refine ml 20 (h:=fun K hK=>?_)
      go_simp
      refine hK.out _ _ ?_
      clear hK K
      (try go_frame)
      have HM25:=bH (HM24.out.store 6 (slice_notInt rfl) { V with ba:=.slice bo18 (T.m+1) bc18,u:=.slice bo20 (us.length+1) bc20,be:=.slice bo22 (T.m+1) bc22 } rfl)
      have t7:=cellq HM25.out.box 7 rfl
      have f7:=free_of_cells HM25.out.box 7
      refine ml 21 (h:=fun K hK=>?_)
      go_simp
      refine hK.out _ _ ?_
      clear hK K
      (try go_frame)
      refine mdone (by kernel_rfl) ?_ _
      have HM26:=bH (HM25.out.store 7 (slice_notInt rfl) { V with ba:=.slice bo18 (T.m+1) bc18,u:=.slice bo20 (us.length+1) bc20,be:=.slice bo22 (T.m+1) bc22,al:=.slice bo24 (T.m+1) bc24,rb:=fun i=>if i=T.m then B else V.rb i } rfl)
      have HQe:=bH (HEnd.out _ _ HM26.out rfl rfl rfl)
      clear HM24 HM25 t6 f6 t7 f7 HM26 ha24
      generalize ((w24.setCell ⟨tb,6,none⟩ (.slice bo22 (T.m+1) bc22)).setCell ⟨tb,7,none⟩ (.slice bo24 (T.m+1) bc24))=w26 at *
      go_wp2
      exact bodyPost_end (v:=.tuple #[]) (by simp [results,Tryz.results180,go_sem]) rfl HQe.out
     ·go_simp
      have hxg2:XF (((w21).alloc (.cells #[.bool n1,.slice a1 m1 c1,.slice a1' m1' c1'] 31)).drew) (((((w21).alloc (.cells #[.bool n1,.slice a1 m1 c1,.slice a1' m1' c1'] 31))).alloc (.cells #[.slice (some ⟨B,0,none⟩) T.n T.n] 32)).drew):=by first | exact ((Ext.refl (fun _=>False) (((w21).alloc (.cells #[.bool n1,.slice a1 m1 c1,.slice a1' m1' c1'] 31)).drew)).alloc _) | exact ((Ext.refl (fun _=>False) (((w21).alloc (.cells #[.bool n1,.slice a1 m1 c1,.slice a1' m1' c1'] 31)))).alloc _).drew
      have HM2:=bH (HM1.out.keep hxg2)
      have hIB2:=hIB1.keep hxg2
      replace hsrc7:=src_keep hsrc7 hxg2
      have hsrc14:∀ (j:Nat) (u:Value),([.slice (some ⟨B,0,none⟩) T.n T.n]:List Value)[j]?=some u->(((((w21).alloc (.cells #[.bool n1,.slice a1 m1 c1,.slice a1' m1' c1'] 31))).alloc (.cells #[.slice (some ⟨B,0,none⟩) T.n T.n] 32)).drew).cell? ((⟨w21.heap.size+1,0,none⟩:Addr).add j)=some u:=by rw [show w21.heap.size+1=(((w21).alloc (.cells #[.bool n1,.slice a1 m1 c1,.slice a1' m1' c1'] 31))).heap.size by simp]; exact alloc_src _ _ _
      refine hK.out _ _ (hHeld.alloc _) (fun hHeld=>?_)
      clear hK K
      (try go_frame)
      refine mst 8 (h:=fun K hK=>?_)
      obtain ⟨xs,hx1,hx2,hx3,hx4⟩:=HM2.out.rest.be.own
      refine step_app rfl _ _ rfl Tryz.underlying32 Tryz.infoRat rfl (ratC_noD ⟨false,none,0,0,none,0,0⟩) (by decide) (by decide) w0.heap.size (V.be) (T.m) (xs) rfl (hx1) (hx2) (hx3) ⟨w21.heap.size,0,none⟩ 1 (RatC.cells ⟨n1,a1,m1,c1,a1',m1',c1'⟩) rfl rfl (hsrc7) (ratC_one _) (ratC_noD _) (by omega) (HM2.out.size) (fun v22 w22 ha22=>?_)
      obtain ⟨bo22,bc22,rfl⟩:=ownsRow_shape ha22.own
      have HM22:=bH (HM2.out.appBe (x:=⟨n1,a1,m1,c1,a1',m1',c1'⟩) ha22 hx4 hx1.1 hIB2)
      replace hsrc14:=src_past hsrc14 ha22.ext (fun e=>HneA.out _ (by first | exact Nat.le_refl _ | exact Nat.le_succ _) e)
      refine hK.out _ _ (hHeld.trans (ha22.ext.mono (fun k _ e=>.inl e))) (fun hHeld=>?_)
      clear hK K
      (try go_frame)
      refine mst 15 (h:=fun K hK=>?_)
      refine step_app rfl _ _ rfl Tryz.underlying83 Tryz.infoRats rfl (slice_noD none 0 0) (by decide) (by decide) w0.heap.size (V.al) (T.m) (valL' T.m (fun i=>.slice (some ⟨V.rb i,0,none⟩) T.n T.n)) rfl (HM22.out.rest.al.own) (HM22.out.rest.aln) (slices_noD _ _ _ _) ⟨w21.heap.size+1,0,none⟩ 1 ([.slice (some ⟨B,0,none⟩) T.n T.n]) rfl rfl (hsrc14) (slice_one _ _ _) (slice_noD _ _ _) (by omega) (HM22.out.size) (fun v24 w24 ha24=>?_)
      obtain ⟨bo24,bc24,rfl⟩:=ownsRow_shape ha24.own
      have HM24:=bH (HM22.out.appAl ha24 (HOld.out.2.2.2.past HM22.out.ext HNb.out.2.2 HM22.out.rds) HBl.out.2.2.2 HBl.out.1 HBl.out.2.1 (fun e=>(HM22.out.lies B e).elim (fun e2=>HNb.out.2.2 e2) (fun e2=>absurd e2 (Nat.not_le_of_lt hBlt9))))
      refine hK.out _ _ (hHeld.trans (ha24.ext.mono (fun k _ e=>.inr e))) (fun hHeld=>?_)
      clear hK K
      (try go_frame)
      refine mu 16 (h:=(mu 17 (h:=?_)))
      (try go_frame)
      have t6:=cellq HM24.out.box 6 rfl
      have f6:=free_of_cells HM24.out.box 6
      refine ml 18 (h:=fun K hK=>?_)
      go_simp
      refine hK.out _ _ ?_
      clear hK K
      (try go_frame)
      refine ml 19 (h:=fun K hK=>?_)
      go_simp
      refine hK.out _ _ ?_
      clear hK K
      (try go_frame)
      refine ml 20 (h:=fun K hK=>?_)
      go_simp
      refine hK.out _ _ ?_
      clear hK K
      (try go_frame)
      have HM25:=bH (HM24.out.store 6 (slice_notInt rfl) { V with ba:=.slice bo18 (T.m+1) bc18,u:=.slice bo20 (us.length+1) bc20,be:=.slice bo22 (T.m+1) bc22 } rfl)
      have t7:=cellq HM25.out.box 7 rfl
      have f7:=free_of_cells HM25.out.box 7
      refine ml 21 (h:=fun K hK=>?_)
      go_simp
      refine hK.out _ _ ?_
      clear hK K
      (try go_frame)
      refine mdone (by kernel_rfl) ?_ _
      have HM26:=bH (HM25.out.store 7 (slice_notInt rfl) { V with ba:=.slice bo18 (T.m+1) bc18,u:=.slice bo20 (us.length+1) bc20,be:=.slice bo22 (T.m+1) bc22,al:=.slice bo24 (T.m+1) bc24,rb:=fun i=>if i=T.m then B else V.rb i } rfl)
      have HQe:=bH (HEnd.out _ _ HM26.out rfl rfl rfl)
      clear HM24 HM25 t6 f6 t7 f7 HM26 ha24
      generalize ((w24.setCell ⟨tb,6,none⟩ (.slice bo22 (T.m+1) bc22)).setCell ⟨tb,7,none⟩ (.slice bo24 (T.m+1) bc24))=w26 at *
      go_wp2
      exact bodyPost_end (v:=.tuple #[]) (by simp [results,Tryz.results180,go_sem]) rfl HQe.out
    ·go_simp
     have hxg1:XF (w21.drew) (((w21).alloc (.cells #[.slice (some ⟨B,0,none⟩) T.n T.n] 32)).drew):=by first | exact ((Ext.refl (fun _=>False) (w21.drew)).alloc _) | exact ((Ext.refl (fun _=>False) (w21)).alloc _).drew
     have HM1:=bH (HM0d.out.keep hxg1)
     have hIB1:=hIB0.keep hxg1
     have hsrc14:∀ (j:Nat) (u:Value),([.slice (some ⟨B,0,none⟩) T.n T.n]:List Value)[j]?=some u->(((w21).alloc (.cells #[.slice (some ⟨B,0,none⟩) T.n T.n] 32)).drew).cell? ((⟨w21.heap.size,0,none⟩:Addr).add j)=some u:=alloc_src _ _ _
     refine hK.out _ _ (hHeld.alloc _) (fun hHeld=>?_)
     clear hK K
     (try go_frame)
     refine mst 7 (h:=fun K hK=>?_)
     go_simp
     have hxg2:XF (((w21).alloc (.cells #[.slice (some ⟨B,0,none⟩) T.n T.n] 32)).drew) (((((w21).alloc (.cells #[.slice (some ⟨B,0,none⟩) T.n T.n] 32))).alloc (.cells #[.bool n1,.slice a1 m1 c1,.slice a1' m1' c1'] 31)).drew):=by first | exact ((Ext.refl (fun _=>False) (((w21).alloc (.cells #[.slice (some ⟨B,0,none⟩) T.n T.n] 32)).drew)).alloc _) | exact ((Ext.refl (fun _=>False) (((w21).alloc (.cells #[.slice (some ⟨B,0,none⟩) T.n T.n] 32)))).alloc _).drew
     have HM2:=bH (HM1.out.keep hxg2)
     have hIB2:=hIB1.keep hxg2
     replace hsrc14:=src_keep hsrc14 hxg2
     have hsrc7:∀ (j:Nat) (u:Value),([.bool n1,.slice a1 m1 c1,.slice a1' m1' c1']:List Value)[j]?=some u->(((((w21).alloc (.cells #[.slice (some ⟨B,0,none⟩) T.n T.n] 32))).alloc (.cells #[.bool n1,.slice a1 m1 c1,.slice a1' m1' c1'] 31)).drew).cell? ((⟨w21.heap.size+1,0,none⟩:Addr).add j)=some u:=by rw [show w21.heap.size+1=(((w21).alloc (.cells #[.slice (some ⟨B,0,none⟩) T.n T.n] 32))).heap.size by simp]; exact alloc_src _ _ _
     refine hK.out _ _ (hHeld.alloc _) (fun hHeld=>?_)
     clear hK K
     (try go_frame)
     refine mst 8 (h:=fun K hK=>?_)
     obtain ⟨xs,hx1,hx2,hx3,hx4⟩:=HM2.out.rest.be.own
     refine step_app rfl _ _ rfl Tryz.underlying32 Tryz.infoRat rfl (ratC_noD ⟨false,none,0,0,none,0,0⟩) (by decide) (by decide) w0.heap.size (V.be) (T.m) (xs) rfl (hx1) (hx2) (hx3) ⟨w21.heap.size+1,0,none⟩ 1 (RatC.cells ⟨n1,a1,m1,c1,a1',m1',c1'⟩) rfl rfl (hsrc7) (ratC_one _) (ratC_noD _) (by omega) (HM2.out.size) (fun v22 w22 ha22=>?_)
     obtain ⟨bo22,bc22,rfl⟩:=ownsRow_shape ha22.own
     have HM22:=bH (HM2.out.appBe (x:=⟨n1,a1,m1,c1,a1',m1',c1'⟩) ha22 hx4 hx1.1 hIB2)
     replace hsrc14:=src_past hsrc14 ha22.ext (fun e=>HneA.out _ (by first | exact Nat.le_refl _ | exact Nat.le_succ _) e)
     refine hK.out _ _ (hHeld.trans (ha22.ext.mono (fun k _ e=>.inl e))) (fun hHeld=>?_)
     clear hK K
     (try go_frame)
     refine mst 15 (h:=fun K hK=>?_)
     refine step_app rfl _ _ rfl Tryz.underlying83 Tryz.infoRats rfl (slice_noD none 0 0) (by decide) (by decide) w0.heap.size (V.al) (T.m) (valL' T.m (fun i=>.slice (some ⟨V.rb i,0,none⟩) T.n T.n)) rfl (HM22.out.rest.al.own) (HM22.out.rest.aln) (slices_noD _ _ _ _) ⟨w21.heap.size,0,none⟩ 1 ([.slice (some ⟨B,0,none⟩) T.n T.n]) rfl rfl (hsrc14) (slice_one _ _ _) (slice_noD _ _ _) (by omega) (HM22.out.size) (fun v24 w24 ha24=>?_)
     obtain ⟨bo24,bc24,rfl⟩:=ownsRow_shape ha24.own
     have HM24:=bH (HM22.out.appAl ha24 (HOld.out.2.2.2.past HM22.out.ext HNb.out.2.2 HM22.out.rds) HBl.out.2.2.2 HBl.out.1 HBl.out.2.1 (fun e=>(HM22.out.lies B e).elim (fun e2=>HNb.out.2.2 e2) (fun e2=>absurd e2 (Nat.not_le_of_lt hBlt9))))
     refine hK.out _ _ (hHeld.trans (ha24.ext.mono (fun k _ e=>.inr e))) (fun hHeld=>?_)
     clear hK K
     (try go_frame)
     refine mu 16 (h:=(mu 17 (h:=?_)))
     (try go_frame)
     have t6:=cellq HM24.out.box 6 rfl
     have f6:=free_of_cells HM24.out.box 6
     refine ml 18 (h:=fun K hK=>?_)
     go_simp
     refine hK.out _ _ ?_
     clear hK K
     (try go_frame)
     refine ml 19 (h:=fun K hK=>?_)
     go_simp
     refine hK.out _ _ ?_
     clear hK K
     (try go_frame)
     refine ml 20 (h:=fun K hK=>?_)
     go_simp
     refine hK.out _ _ ?_
     clear hK K
     (try go_frame)
     have HM25:=bH (HM24.out.store 6 (slice_notInt rfl) { V with ba:=.slice bo18 (T.m+1) bc18,u:=.slice bo20 (us.length+1) bc20,be:=.slice bo22 (T.m+1) bc22 } rfl)
     have t7:=cellq HM25.out.box 7 rfl
     have f7:=free_of_cells HM25.out.box 7
     refine ml 21 (h:=fun K hK=>?_)
     go_simp
     refine hK.out _ _ ?_
     clear hK K
     (try go_frame)
     refine mdone (by kernel_rfl) ?_ _
     have HM26:=bH (HM25.out.store 7 (slice_notInt rfl) { V with ba:=.slice bo18 (T.m+1) bc18,u:=.slice bo20 (us.length+1) bc20,be:=.slice bo22 (T.m+1) bc22,al:=.slice bo24 (T.m+1) bc24,rb:=fun i=>if i=T.m then B else V.rb i } rfl)
     have HQe:=bH (HEnd.out _ _ HM26.out rfl rfl rfl)
     clear HM24 HM25 t6 f6 t7 f7 HM26 ha24
     generalize ((w24.setCell ⟨tb,6,none⟩ (.slice bo22 (T.m+1) bc22)).setCell ⟨tb,7,none⟩ (.slice bo24 (T.m+1) bc24))=w26 at *
     go_wp2
     exact bodyPost_end (v:=.tuple #[]) (by simp [results,Tryz.results180,go_sem]) rfl HQe.out
def StartPost (w0:World) (p:ProgV) (r:Ending) (w':World):Prop:=∃ tb V,r=.returned (.pointer (some ⟨tb,0,none⟩))/\TabS w0 w' tb V (startF p) p [] (limsL p)
theorem start_any (w0:World) (pv:Value) (p:ProgV) (hp:IsPrg w0 pv p) (hval:validB p=true) (hn:p.vars.length<=1000) (hm:p.rows.length<=10000):Calls Tryz.prog 85 #[pv] w0 (StartPost w0 p):=by
 obtain ⟨vv,rv,rfl,hvars,hrows⟩:=hp
 obtain ⟨vo,vc,rfl,-,-,-⟩:=hvars.shape
 obtain ⟨ro,rc,rfl,-,-,-⟩:=hrows.shape
 have hmm:=@run_makeMap Tryz.prog
 have HV:=bH (bI hvars (bI hrows hval))
 clear hvars hrows hval
 obtain ⟨n,hn'⟩:∃ n,p.vars.length=n:=⟨_,rfl⟩
 have HN:=bH hn'
 rw [hn'] at hn HV ⊢
 clear hn'
 obtain ⟨m,hm'⟩:∃ m,p.rows.length=m:=⟨_,rfl⟩
 have HMr:=bH hm'
 rw [hm'] at hm HV ⊢
 clear hm'
 have HX:Hid (StartM w0 (((w0.alloc (.cells #[.slice vo n vc,.slice ro m rc] 25)).alloc (.map #[] 0)).alloc (.cells #[.slice vo n vc,.slice ro m rc,.slice none 0 0,.map (some (w0.heap.size+1)),.slice none 0 0,.slice none 0 0,.slice none 0 0,.slice none 0 0,.slice none 0 0,.slice none 0 0] 140)) w0.heap.size (w0.heap.size+1+1) (w0.heap.size+1) p (.slice vo n vc) (.slice ro m rc) (.slice none 0 0) (.slice none 0 0) (.slice none 0 0) (.slice none 0 0) (.slice none 0 0) (.slice none 0 0) 0 0 []):=bH (by
  obtain ⟨b0,b1,b2,hx⟩:=box3 w0 (.cells #[.slice vo n vc,.slice ro m rc] 25) (.map #[] 0) (.cells #[.slice vo n vc,.slice ro m rc,.slice none 0 0,.map (some (w0.heap.size+1)),.slice none 0 0,.slice none 0 0,.slice none 0 0,.slice none 0 0,.slice none 0 0,.slice none 0 0] 140)
  refine ⟨b2,noDig_cells b2 (fun u hu d e=>?_),by omega,⟨w0.heap.size+1,#[],0,rfl,by omega,b1,rfl,stamped_empty 0⟩,.inl ⟨rfl,rfl⟩,.inl ⟨rfl,rfl⟩,⟨World.ownsRow_nil _ _ _ 3,fun g hg=>by cases hg⟩,hx,b0⟩
  simp only [List.mem_cons,List.not_mem_nil,or_false] at hu
  rcases hu with rfl | rfl | rfl | rfl | rfl | rfl | rfl | rfl | rfl | rfl <;> cases e)
 go_enter Tryz.func85,Tryz.ntmps85
 go_upto_region 2 with fail
 generalize ((w0.alloc (.cells #[.slice vo n vc,.slice ro m rc] 25)).alloc (.map #[] 0)).alloc (.cells #[.slice vo n vc,.slice ro m rc,.slice none 0 0,.map (some (w0.heap.size+1)),.slice none 0 0,.slice none 0 0,.slice none 0 0,.slice none 0 0,.slice none 0 0,.slice none 0 0] 140)=w1 at *
 generalize w0.heap.size+1+1=tb at *
 generalize w0.heap.size+1=mb at *
 obtain ⟨pb,hpb⟩:∃ pb,w0.heap.size=pb:=⟨_,rfl⟩
 have HX':=bH (show StartM w0 w1 pb tb mb p (.slice vo n vc) (.slice ro m rc) (.slice none 0 0) (.slice none 0 0) (.slice none 0 0) (.slice none 0 0) (.slice none 0 0) (.slice none 0 0) 0 0 [] from hpb ▸ HX.out)
 rw [hpb]
 clear HX hmm hpb
 have b0:=cellq HX'.out.pbx 0 rfl
 go_wp2_with fail
 clear b0
 go_loopg [17,4,5] n (fun gg v17 v4 v5 wr=>∃ (i:Nat) (fr d:Value),i<=n/\gg=n - i/\v17=.int .i64 i/\StartM w0 wr pb tb mb p (.slice vo n vc) (.slice ro m rc) fr d (.slice none 0 0) fr d (.slice none 0 0) i i [])
 case atStart=>exact ⟨0,_,_,Nat.zero_le _,rfl,rfl,HX'.out⟩
 case round =>
  clear HX'
  obtain ⟨i,fr,d,hi,rfl,rfl,hs⟩:=hrel
  have HM:=bH hs
  clear hs
  by_cases hin:i<n
  ·have i0:(i:Int)<(n:Int):=by omega
   have i1:(0:Int)<=(i:Int):=by omega
   have hrow:=HV.out.1.keep HM.out.old
   obtain ⟨b,off,rfl,hlt,e0,e1,e2,e3,e4,-⟩:=hrow.atp i (by rw [HN.out]; exact hin)
   clear hrow
   obtain ⟨-,-,q1,q2⟩:=var_lims (valid_var HV.out.2.2 (show i<p.vars.length by rw [HN.out]; exact hin))
   have HF:=bH (fun W=>show Calls Tryz.prog 66 #[.int .i64 (p.v i).co] W (RatPost W (coF p i)) from rfrom_any W (p.v i).co (by omega) (by omega))
   have hb1:=BoxV.new wr (p.v i)
   have hx1:=(Ext.refl (fun _=>False) wr).alloc (.cells #[.int .i64 (p.v i).lo,.int .i64 (p.v i).up,.bool (p.v i).op,.bool (p.v i).ig,.int .i64 (p.v i).co] 63)
   have HM0:=bH (HM.out.keep hx1)
   clear hx1 HM
   go_upto_region 5 with fail
   generalize wr.alloc (.cells #[.int .i64 (p.v i).lo,.int .i64 (p.v i).up,.bool (p.v i).op,.bool (p.v i).ig,.int .i64 (p.v i).co] 63)=w5 at *
   generalize wr.heap.size=vb at *
   clear e0 e1 e2 e3 e4
   have hS:∀ {k:Nat} {T:TypeId},TyB w5 k T->T≠3->T≠31->¬ (fr.ownBlock=some k∨d.ownBlock=some k):=fun hk h1 h2 e=>by
    rcases e with e | e
    ·exact TyB.ne hk (HM0.out.fr.typ _ e) h1 rfl
    ·exact TyB.ne hk (HM0.out.d.typ _ e) h2 rfl
   have c4:=cqo (S:=fun k=>fr.ownBlock=some k∨d.ownBlock=some k) hb1.facts.2.2.2.2 (hS ⟨_,hb1⟩ (by decide) (by decide))
   have c5:=cqo (S:=fun k=>fr.ownBlock=some k∨d.ownBlock=some k) (cellq HM0.out.box 5 rfl) (hS ⟨_,HM0.out.box⟩ (by decide) (by decide))
   have c8:=cqo (S:=fun k=>fr.ownBlock=some k∨d.ownBlock=some k) (cellq HM0.out.box 8 rfl) (hS ⟨_,HM0.out.box⟩ (by decide) (by decide))
   generalize (p.v i).co=co at *
   clear hb1 hS
   refine mbegin 20 (Ext (fun k=>fr.ownBlock=some k∨d.ownBlock=some k) w5) (by kernel_rfl) ((Ext.refl _ w5).drew) (fun hHeld=>?_)
   refine mu 0 (h:=(mf 1 (h:=(mu 2 (h:=(mu 3 (h:=(mu 4 (h:=(mu 5 (h:=(mu 6 (h:=(mu 9 (h:=(mu 10 (h:=(mu 11 (h:=(mu 12 (h:=(mu 13 (h:=(mu 14 (h:=?_)))))))))))))))))))))))))
   (try go_frame)
   refine mst 7 (h:=fun K hK=>?_)
   go_simp
   have HM1:=bH (HM0.out.keep (((Ext.refl (fun _=>False) w5).alloc (.cells #[.int .i64 i] 3)).drew))
   refine hK.out _ _ (hHeld.alloc _) (fun hHeld=>?_)
   clear hK K
   (try go_frame)
   refine mst 8 (h:=fun K hK=>?_)
   refine step_app rfl _ _ rfl Tryz.underlying42 Tryz.infoInt1 rfl (int_noD 0) (by decide) (by decide) w0.heap.size (fr) (i) (intL i (fun k=>k)) rfl (HM1.out.fr.own.1) (HM1.out.fr.own.2) (intL_noD _ _) ⟨w5.heap.size,0,none⟩ 1 ([.int .i64 i]) rfl rfl (alloc_src _ _ _) (int_one _) (int_noD _) (by omega) (HM1.out.old.size) (fun v8 w8 ha8=>?_)
   obtain ⟨bo8,bc8,rfl⟩:=ownsRow_shape ha8.own
   have HM2:=bH (HM1.out.appFr ha8)
   refine hK.out _ _ (hHeld.trans (ha8.ext.mono (fun k _ e=>.inl e))) (fun hHeld=>?_)
   clear hK K
   (try go_frame)
   refine mst 15 (h:=fun K hK=>?_)
   go_simp
   go_at_call 66; (with_reducible refine (HF.out _).mono ?_); rintro q1 w11 ⟨v11,rfl,h11,hx11⟩; obtain ⟨n11,a11,l11,c11,a11',l11',c11',rfl⟩:=h11.shape
   have HM3:=bH (HM2.out.keep hx11)
   refine hK.out _ _ (hHeld.trans hx11.none) (fun hHeld=>?_)
   clear hK K
   (try go_frame)
   refine mst 16 (h:=fun K hK=>?_)
   go_simp
   have hxy:=(Ext.refl (fun _=>False) w11).alloc (.cells #[.bool n11,.slice a11 l11 c11,.slice a11' l11' c11'] 31)
   have HM4:=bH (HM3.out.keep hxy)
   have h12:=h11.keep hxy
   refine hK.out _ _ (hHeld.alloc _) (fun hHeld=>?_)
   clear hK K
   (try go_frame)
   refine mst 17 (h:=fun K hK=>?_)
   obtain ⟨xs,hx1,hx2,hx3,hx4⟩:=HM4.out.d.own
   refine step_app rfl _ _ rfl Tryz.underlying32 Tryz.infoRat rfl (ratC_noD ⟨false,none,0,0,none,0,0⟩) (by decide) (by decide) w0.heap.size (d) (i) (xs) rfl (hx1) (hx2) (hx3) ⟨w11.heap.size,0,none⟩ 1 (RatC.cells ⟨n11,a11,l11,c11,a11',l11',c11'⟩) rfl rfl (alloc_src0 _ _ _) (ratC_one _) (ratC_noD _) (by omega) (HM4.out.old.size) (fun v17 w17 ha17=>?_)
   obtain ⟨bo17,bc17,rfl⟩:=ownsRow_shape ha17.own
   have HM5:=bH (HM4.out.appD (x:=⟨n11,a11,l11,c11,a11',l11',c11'⟩) ha17 hx4 hx1.1 h12)
   refine hK.out _ _ (hHeld.trans (ha17.ext.mono (fun k _ e=>.inr e))) (fun hHeld=>?_)
   clear hK K
   (try go_frame)
   refine mu 18 (h:=(mu 19 (h:=?_)))
   (try go_frame)
   have t5:=cellq HM5.out.box 5 rfl
   have f5:=free_of_cells HM5.out.box 5
   refine ml 20 (h:=fun K hK=>?_)
   go_simp
   refine hK.out _ _ ?_
   clear hK K
   (try go_frame)
   refine ml 21 (h:=fun K hK=>?_)
   go_simp
   refine hK.out _ _ ?_
   clear hK K
   (try go_frame)
   refine ml 22 (h:=fun K hK=>?_)
   go_simp
   refine hK.out _ _ ?_
   clear hK K
   (try go_frame)
   have HM6:=bH (HM5.out.store 5 (slice_notInt rfl) (frB':=.slice bo8 (i+1) bc8) rfl)
   have t8:=cellq HM6.out.box 8 rfl
   have f8:=free_of_cells HM6.out.box 8
   refine ml 23 (h:=fun K hK=>?_)
   go_simp
   refine hK.out _ _ ?_
   clear hK K
   (try go_frame)
   refine mdone (by kernel_rfl) ?_ _
   have HM7:=bH (HM6.out.store 8 (slice_notInt rfl) (dB':=.slice bo17 (i+1) bc17) rfl)
   clear HM0 HM1 HM2 HM3 HM4 HM5 HM6 ha8 ha17 hx1 hx2 hx3 hx4 h11 h12 hx11 hxy t5 f5 t8 f8 c4 c5 c8 hHeld
   generalize (w17.setCell ⟨tb,5,none⟩ (.slice bo8 (i+1) bc8)).setCell ⟨tb,8,none⟩ (.slice bo17 (i+1) bc17)=w9 at *
   go_wp2
   go_roundg (n - (i+1))
   case measure=>omega
   case rel=>exact ⟨i+1,_,_,by omega,rfl,by go_num,HM7.out⟩
  ·obtain rfl:i=n:=by omega
   have b1:=cellq HM.out.pbx 1 rfl
   go_wp2_with fail
   clear b1
   go_loopg [48,6,7] m (fun gg v48 v6 v7 wr=>∃ (j:Nat) (l:Value),j<=m/\gg=m - j/\v48=.int .i64 j/\StartM w0 wr pb tb mb p (.slice vo i vc) (.slice ro m rc) fr d l fr d l i i (rowL p j))
   case atStart=>exact ⟨0,_,Nat.zero_le _,rfl,rfl,HM.out⟩
   case round =>
    clear HM
    obtain ⟨j,l,hj,rfl,rfl,hs⟩:=hrel
    have HM:=bH hs
    clear hs
    have hll:=rowL_len p j
    by_cases hjn:j<m
    ·have j0:(j:Int)<(m:Int):=by omega
     have j1:(0:Int)<=(j:Int):=by omega
     have hjr:j<p.rows.length:=by rw [HMr.out]; exact hjn
     obtain ⟨b,off,ta,tc,rfl,hlt,e0,e1,e2,e3,e4,-,-⟩:=(HV.out.2.1.keep HM.out.old).atp j hjr
     have hkd:=row_kind (valid_row HV.out.2.2 hjr)
     have HNx:=bH (show rowL p (j+1)=rowL p j++((if (p.r j).kind=1 then [] else [⟨(j:Int),0,false⟩])++if (p.r j).kind=0 then [] else [⟨(j:Int),0,true⟩]) from rfl)
     clear hjr
     have hb1:=blk_alloc_at wr (.cells #[.string (p.r j).name,.int .i64 (p.r j).group,.int .i64 (p.r j).kind,.slice ta (p.r j).terms.length tc,.int .i64 (p.r j).bound] 58)
     have hx1:=(Ext.refl (fun _=>False) wr).alloc (.cells #[.string (p.r j).name,.int .i64 (p.r j).group,.int .i64 (p.r j).kind,.slice ta (p.r j).terms.length tc,.int .i64 (p.r j).bound] 58)
     have HM9:=bH (HM.out.keep hx1)
     have f2:=cellq hb1 2 rfl
     have HRb:=bH (show blk (wr.alloc (.cells #[.string (p.r j).name,.int .i64 (p.r j).group,.int .i64 (p.r j).kind,.slice ta (p.r j).terms.length tc,.int .i64 (p.r j).bound] 58)) wr.heap.size=some (.cells #[.string (p.r j).name,.int .i64 (p.r j).group,.int .i64 (p.r j).kind,.slice ta (p.r j).terms.length tc,.int .i64 (p.r j).bound] 58 (0,0)) from hb1)
     clear hx1 HM hb1
     go_upto_region 10 with fail
     generalize wr.alloc (.cells #[.string (p.r j).name,.int .i64 (p.r j).group,.int .i64 (p.r j).kind,.slice ta (p.r j).terms.length tc,.int .i64 (p.r j).bound] 58)=w9 at *
     generalize wr.heap.size=rb at *
     clear e0 e1 e2 e3 e4
     have c9:=cellq HM9.out.box 9 rfl
     generalize (p.r j).kind=kd at *
     rcases hkd with rfl | rfl | rfl
     ·go_upto_region 12 with (at_builtin; refine wpList_app rfl (.tmp 60) (.tmp 63) rfl Tryz.underlying138 Tryz.infoLimit rfl (limC_noD lim0) (by decide) (by decide) w0.heap.size (l) (rowL p j).length ((rowL p j).flatMap limC) rfl (HM9.out.keep ((Ext.refl (fun _=>False) w9).alloc (.cells #[.int .i64 ((j:Int)),.int .i64 (0),.bool false] 142))).l.own (HM9.out.keep ((Ext.refl (fun _=>False) w9).alloc (.cells #[.int .i64 ((j:Int)),.int .i64 (0),.bool false] 142))).l.noDig (limsC_noD _) _ _ (limC ⟨(j:Int),0,false⟩) rfl rfl (alloc_src0 _ _ _) (limC_one _) (limC_noD _) (by omega) (Nat.le_trans HM9.out.old.size (by simp)) ?_; intro v11 w11 ha11; obtain ⟨bo11,bc11,rfl⟩:=ownsRow_shape ha11.own; have HA11:=bH ((HM9.out.keep ((Ext.refl (fun _=>False) w9).alloc (.cells #[.int .i64 ((j:Int)),.int .i64 (0),.bool false] 142))).appL (x:=⟨(j:Int),0,false⟩) ha11); have t9:=cellq HA11.out.box 9 rfl; have f9:=free_of_cells HA11.out.box 9)
      have HP:=bH (HA11.out.store 9 (slice_notInt rfl) (lB':=.slice bo11 ((rowL p j).length+1) bc11) rfl)
      have HNy:=bH (show rowL p (j+1)=rowL p j++[⟨(j:Int),0,false⟩] from HNx.out)
      have hf2:=cellq ((HM9.out.keep ((Ext.refl (fun _=>False) w9).alloc (.cells #[.int .i64 (j:Int),.int .i64 0,.bool false] 142))).other ha11 (blk_keep HRb.out ((Ext.refl (fun _=>False) w9).alloc (.cells #[.int .i64 (j:Int),.int .i64 0,.bool false] 142))) (by decide) (by decide) 9 (.slice bo11 ((rowL p j).length+1) bc11)) 2 rfl
      clear HA11 HM9 ha11 t9 f9 c9 f2
      generalize w11.setCell ⟨tb,9,none⟩ (.slice bo11 ((rowL p j).length+1) bc11)=w12 at *
      go_wp2
      go_roundg (m - (j+1))
      case measure=>omega
      case rel=>exact ⟨j+1,_,by omega,rfl,by go_num,by rw [HNy.out]; exact HP.out⟩
     ·go_wp2_with (at_builtin; refine wpList_app rfl (.tmp 74) (.tmp 77) rfl Tryz.underlying138 Tryz.infoLimit rfl (limC_noD lim0) (by decide) (by decide) w0.heap.size (l) (rowL p j).length ((rowL p j).flatMap limC) rfl (HM9.out.keep ((Ext.refl (fun _=>False) w9).alloc (.cells #[.int .i64 ((j:Int)),.int .i64 (0),.bool true] 142))).l.own (HM9.out.keep ((Ext.refl (fun _=>False) w9).alloc (.cells #[.int .i64 ((j:Int)),.int .i64 (0),.bool true] 142))).l.noDig (limsC_noD _) _ _ (limC ⟨(j:Int),0,true⟩) rfl rfl (alloc_src0 _ _ _) (limC_one _) (limC_noD _) (by omega) (Nat.le_trans HM9.out.old.size (by simp)) ?_; intro v11 w11 ha11; obtain ⟨bo11,bc11,rfl⟩:=ownsRow_shape ha11.own; have HA11:=bH ((HM9.out.keep ((Ext.refl (fun _=>False) w9).alloc (.cells #[.int .i64 ((j:Int)),.int .i64 (0),.bool true] 142))).appL (x:=⟨(j:Int),0,true⟩) ha11); have t9:=cellq HA11.out.box 9 rfl; have f9:=free_of_cells HA11.out.box 9)
      have HP:=bH (HA11.out.store 9 (slice_notInt rfl) (lB':=.slice bo11 ((rowL p j).length+1) bc11) rfl)
      have HNy:=bH (show rowL p (j+1)=rowL p j++[⟨(j:Int),0,true⟩] from HNx.out)
      clear HA11 HM9 ha11 t9 f9 c9 f2
      generalize w11.setCell ⟨tb,9,none⟩ (.slice bo11 ((rowL p j).length+1) bc11)=w12 at *
      go_roundg (m - (j+1))
      case measure=>omega
      case rel=>exact ⟨j+1,_,by omega,rfl,by go_num,by rw [HNy.out]; exact HP.out⟩
     ·go_upto_region 12 with (at_builtin; refine wpList_app rfl (.tmp 60) (.tmp 63) rfl Tryz.underlying138 Tryz.infoLimit rfl (limC_noD lim0) (by decide) (by decide) w0.heap.size (l) (rowL p j).length ((rowL p j).flatMap limC) rfl (HM9.out.keep ((Ext.refl (fun _=>False) w9).alloc (.cells #[.int .i64 ((j:Int)),.int .i64 (0),.bool false] 142))).l.own (HM9.out.keep ((Ext.refl (fun _=>False) w9).alloc (.cells #[.int .i64 ((j:Int)),.int .i64 (0),.bool false] 142))).l.noDig (limsC_noD _) _ _ (limC ⟨(j:Int),0,false⟩) rfl rfl (alloc_src0 _ _ _) (limC_one _) (limC_noD _) (by omega) (Nat.le_trans HM9.out.old.size (by simp)) ?_; intro v11 w11 ha11; obtain ⟨bo11,bc11,rfl⟩:=ownsRow_shape ha11.own; have HA11:=bH ((HM9.out.keep ((Ext.refl (fun _=>False) w9).alloc (.cells #[.int .i64 ((j:Int)),.int .i64 (0),.bool false] 142))).appL (x:=⟨(j:Int),0,false⟩) ha11); have t9:=cellq HA11.out.box 9 rfl; have f9:=free_of_cells HA11.out.box 9)
      have HP:=bH (HA11.out.store 9 (slice_notInt rfl) (lB':=.slice bo11 ((rowL p j).length+1) bc11) rfl)
      have HNy:=bH (show rowL p (j+1)=rowL p j++[⟨(j:Int),0,false⟩]++[⟨(j:Int),0,true⟩] from by rw [HNx.out,List.append_assoc]; rfl)
      have hf2:=cellq ((HM9.out.keep ((Ext.refl (fun _=>False) w9).alloc (.cells #[.int .i64 (j:Int),.int .i64 0,.bool false] 142))).other ha11 (blk_keep HRb.out ((Ext.refl (fun _=>False) w9).alloc (.cells #[.int .i64 (j:Int),.int .i64 0,.bool false] 142))) (by decide) (by decide) 9 (.slice bo11 ((rowL p j).length+1) bc11)) 2 rfl
      clear HA11 HM9 ha11 t9 f9 c9 f2
      generalize w11.setCell ⟨tb,9,none⟩ (.slice bo11 ((rowL p j).length+1) bc11)=w12 at *
      have c9:=cellq HP.out.box 9 rfl
      have hl2:(rowL p j++[(⟨(j:Int),0,false⟩:LimV)]).length=(rowL p j).length+1:=by simp
      go_wp2_with (at_builtin; refine wpList_app rfl (.tmp 74) (.tmp 77) rfl Tryz.underlying138 Tryz.infoLimit rfl (limC_noD lim0) (by decide) (by decide) w0.heap.size (.slice bo11 ((rowL p j).length+1) bc11) (rowL p j++[(⟨(j:Int),0,false⟩:LimV)]).length ((rowL p j++[(⟨(j:Int),0,false⟩:LimV)]).flatMap limC) rfl (HP.out.keep ((Ext.refl (fun _=>False) w12).alloc (.cells #[.int .i64 ((j:Int)),.int .i64 (0),.bool true] 142))).l.own (HP.out.keep ((Ext.refl (fun _=>False) w12).alloc (.cells #[.int .i64 ((j:Int)),.int .i64 (0),.bool true] 142))).l.noDig (limsC_noD _) _ _ (limC ⟨(j:Int),0,true⟩) rfl rfl (alloc_src0 _ _ _) (limC_one _) (limC_noD _) (by omega) (Nat.le_trans HP.out.old.size (by simp)) ?_; intro v13 w13 ha13; obtain ⟨bo13,bc13,rfl⟩:=ownsRow_shape ha13.own; have HA13:=bH ((HP.out.keep ((Ext.refl (fun _=>False) w12).alloc (.cells #[.int .i64 ((j:Int)),.int .i64 (0),.bool true] 142))).appL (x:=⟨(j:Int),0,true⟩) ha13); have t9:=cellq HA13.out.box 9 rfl; have f9:=free_of_cells HA13.out.box 9)
      have HP2:=bH (HA13.out.store 9 (slice_notInt rfl) (lB':=.slice bo13 ((rowL p j++[(⟨(j:Int),0,false⟩:LimV)]).length+1) bc13) rfl)
      clear HA13 HP ha13 t9 f9 c9 hf2
      rw [hl2] at HP2
      generalize w13.setCell ⟨tb,9,none⟩ (.slice bo13 ((rowL p j).length+1+1) bc13)=w14 at *
      go_roundg (m - (j+1))
      case measure=>omega
      case rel=>exact ⟨j+1,_,by omega,rfl,by go_num,by rw [HNy.out]; exact HP2.out⟩
    ·obtain rfl:j=m:=by omega
     have b0:=cellq HM.out.pbx 0 rfl
     go_wp2_with fail
     clear b0
     go_loopg [85,8,9] i (fun gg v85 v8 v9 wr=>∃ (k:Nat) (l:Value),k<=i/\gg=i - k/\v85=.int .i64 k/\StartM w0 wr pb tb mb p (.slice vo i vc) (.slice ro j rc) fr d l fr d l i i (rowL p j++varL p k))
     case atStart=>exact ⟨0,_,Nat.zero_le _,rfl,rfl,by rw [show varL p 0=[] from rfl,List.append_nil]; exact HM.out⟩
     case round =>
      clear HM
      obtain ⟨k,l,hk,rfl,rfl,hs⟩:=hrel
      have HM:=bH hs
      clear hs
      have hll2:=varL_len p k
      have hlen:(rowL p j++varL p k).length<=100000:=by rw [List.length_append]; omega
      by_cases hkn:k<i
      ·have k0:(k:Int)<(i:Int):=by omega
       have k1:(0:Int)<=(k:Int):=by omega
       obtain ⟨b,off,rfl,hlt,e0,e1,e2,e3,e4,-⟩:=(HV.out.1.keep HM.out.old).atp k (by rw [HN.out]; exact hkn)
       have HNx:=bH (show rowL p j++varL p (k+1)=rowL p j++varL p k++(if (p.v k).op then [] else [⟨-1,k,false⟩]) from by rw [List.append_assoc]; rfl)
       have hb1:=BoxV.new wr (p.v k)
       have hx1:=(Ext.refl (fun _=>False) wr).alloc (.cells #[.int .i64 (p.v k).lo,.int .i64 (p.v k).up,.bool (p.v k).op,.bool (p.v k).ig,.int .i64 (p.v k).co] 63)
       have HM9:=bH (HM.out.keep hx1)
       have f2:=hb1.facts.2.2.1
       clear hx1 HM hb1
       go_upto_region 18 with fail
       generalize wr.alloc (.cells #[.int .i64 (p.v k).lo,.int .i64 (p.v k).up,.bool (p.v k).op,.bool (p.v k).ig,.int .i64 (p.v k).co] 63)=w9 at *
       generalize wr.heap.size=rb at *
       clear e0 e1 e2 e3 e4
       have c9:=cellq HM9.out.box 9 rfl
       generalize (p.v k).op=op at *
       cases op with
       | true =>
        have HNy:=bH (show rowL p j++varL p (k+1)=rowL p j++varL p k from by rw [HNx.out]; simp)
        go_wp2
        go_roundg (i - (k+1))
        case measure=>omega
        case rel=>exact ⟨k+1,_,by omega,rfl,by go_num,by rw [HNy.out]; exact HM9.out⟩
       | false =>
        have HNy:=bH (show rowL p j++varL p (k+1)=rowL p j++varL p k++[⟨-1,k,false⟩] from by rw [HNx.out]; simp)
        go_wp2_with (at_builtin; refine wpList_app rfl (.tmp 97) (.tmp 100) rfl Tryz.underlying138 Tryz.infoLimit rfl (limC_noD lim0) (by decide) (by decide) w0.heap.size (l) (rowL p j++varL p k).length ((rowL p j++varL p k).flatMap limC) rfl (HM9.out.keep ((Ext.refl (fun _=>False) w9).alloc (.cells #[.int .i64 (-1),.int .i64 ((k:Int)),.bool false] 142))).l.own (HM9.out.keep ((Ext.refl (fun _=>False) w9).alloc (.cells #[.int .i64 (-1),.int .i64 ((k:Int)),.bool false] 142))).l.noDig (limsC_noD _) _ _ (limC ⟨-1,k,false⟩) rfl rfl (alloc_src0 _ _ _) (limC_one _) (limC_noD _) (by omega) (Nat.le_trans HM9.out.old.size (by simp)) ?_; intro v11 w11 ha11; obtain ⟨bo11,bc11,rfl⟩:=ownsRow_shape ha11.own; have HA11:=bH ((HM9.out.keep ((Ext.refl (fun _=>False) w9).alloc (.cells #[.int .i64 (-1),.int .i64 ((k:Int)),.bool false] 142))).appL (x:=⟨-1,k,false⟩) ha11); have t9:=cellq HA11.out.box 9 rfl; have f9:=free_of_cells HA11.out.box 9)
        have HP:=bH (HA11.out.store 9 (slice_notInt rfl) (lB':=.slice bo11 ((rowL p j++varL p k).length+1) bc11) rfl)
        clear HA11 HM9 ha11 t9 f9 c9 f2
        rw [List.length_append] at HP
        generalize w11.setCell ⟨tb,9,none⟩ (.slice bo11 ((rowL p j).length+(varL p k).length+1) bc11)=w12 at *
        go_roundg (i - (k+1))
        case measure=>omega
        case rel=>exact ⟨k+1,_,by omega,rfl,by go_num,by rw [HNy.out]; exact HP.out⟩
      ·obtain rfl:k=i:=by omega
       have HR:=bH (show StartPost w0 p (.returned (.pointer (some ⟨tb,0,none⟩))) wr from by
        have e1:=HN.out
        have e2:=HMr.out
        subst e1
        subst e2
        exact ⟨tb,_,rfl,StartM.tab HM.out HV.out.1 HV.out.2.1 HV.out.2.2 hn⟩)
       go_wp2
       go_ret
       exact HR.out
structure Rep (N:Nat) (T:TabF) (D:Tb):Prop where
 wf:Wf N D
 fr:∀ j,j<T.n->T.fr j<N
 ba:∀ i,i<T.m->D.B (T.ba i)=true
 free:∀ j,j<T.n->D.B (T.fr j)=false
 bas:∀ v,D.B v=true->∃ i,i<T.m/\T.ba i=v
 frs:∀ v,v<N->D.B v=false->∃ j,j<T.n/\T.fr j=v
 bi:∀ i k,i<T.m->k<T.m->T.ba i=T.ba k->i=k
 fi:∀ j k,j<T.n->k<T.n->T.fr j=T.fr k->j=k
 al:∀ i j,i<T.m->j<T.n->D.M (T.ba i) (T.fr j)=T.al i j
 be:∀ i,i<T.m->D.b (T.ba i)=T.be i
 d:∀ j,j<T.n->D.d (T.fr j)=T.d j
section
variable {N:Nat} {T:TabF} {D:Tb} {i c:Nat}
theorem pivF_ba (T:TabF) (i c k:Nat):(pivF T i c).ba k=if k=i then T.fr c else T.ba k:=rfl
theorem pivF_fr (T:TabF) (i c j:Nat):(pivF T i c).fr j=if j=c then T.ba i else T.fr j:=rfl
theorem pivF_al (T:TabF) (i c k j:Nat):(pivF T i c).al k j=if k=i then rowF T i c j else if j=c then -(T.al k c*invF T i c) else T.al k j - T.al k c*rowF T i c j:=by
 show (if k=i then rowF T i c else fun j=>if j=c then -(T.al k c*invF T i c) else T.al k j - T.al k c*rowF T i c j) j=_
 split <;> rfl
theorem pivF_be (T:TabF) (i c k:Nat):(pivF T i c).be k=if k=i then T.be i*invF T i c else T.be k - T.al k c*(T.be i*invF T i c):=rfl
theorem pivF_d (T:TabF) (i c j:Nat):(pivF T i c).d j=if j=c then -(T.d c*invF T i c) else T.d j - T.d c*rowF T i c j:=rfl
theorem Rep.rowT (h:Rep N T D) (hi:i<T.m) (hc:c<T.n) {j:Nat} (hj:j<T.n):D.M (T.ba i) ((pivF T i c).fr j) / D.M (T.ba i) (T.fr c)=rowF T i c j:=by
 rw [h.al i c hi hc,pivF_fr]
 unfold rowF invF
 by_cases e:j=c
 ·rw [if_pos e,if_pos e,h.wf.unit _ _ (h.ba i hi) (h.ba i hi),if_pos rfl]
 ·rw [if_neg e,if_neg e,h.al i j hi hj,Rat.div_def,Rat.div_def,Rat.one_mul]
theorem Rep.piv (h:Rep N T D) (hi:i<T.m) (hc:c<T.n) (hnz:T.al i c≠0):Rep N (pivF T i c) (pivT D (T.ba i) (T.fr c)):=by
 have hv:=h.ba i hi
 have hu:=h.free c hc
 have hne:T.fr c≠T.ba i:=fun e=>by rw [e,hv] at hu; cases hu
 have hr:D.M (T.ba i) (T.fr c)≠0:=by rw [h.al i c hi hc]; exact hnz
 have hB:∀ w,(pivT D (T.ba i) (T.fr c)).B w=if w=T.fr c then true else if w=T.ba i then false else D.B w:=fun _=>rfl
 have nfr:∀ j,j<T.n->j≠c->T.fr j≠T.fr c:=fun j hj hn e=>hn (h.fi j c hj hc e)
 have nba:∀ k,k<T.m->k≠i->T.ba k≠T.ba i:=fun k hk hn e=>hn (h.bi k i hk hi e)
 have dis:∀ k j,k<T.m->j<T.n->T.ba k≠T.fr j:=fun k j hk hj e=>by
  have h1:=h.ba k hk
  rw [e,h.free j hj] at h1; cases h1
 refine ⟨pivT_wf h.wf hv hu (h.fr c hc) hr,fun j hj=>?_,fun k hk=>?_,fun j hj=>?_,fun v hb=>?_,fun v hlt hb=>?_,fun k k' hk hk' he=>?_,fun j j' hj hj' he=>?_,fun k j hk hj=>?_,fun k hk=>?_,fun j hj=>?_⟩
 ·have hj:j<T.n:=hj
  rw [pivF_fr]; split
  ·exact h.wf.dom _ hv
  ·exact h.fr j hj
 ·have hk:k<T.m:=hk
  rw [pivF_ba,hB]
  by_cases e:k=i
  ·rw [if_pos e,if_pos rfl]
  ·rw [if_neg e,if_neg (dis k c hk hc),if_neg (nba k hk e)]; exact h.ba k hk
 ·have hj:j<T.n:=hj
  rw [pivF_fr,hB]
  by_cases e:j=c
  ·rw [if_pos e,if_neg (Ne.symm hne),if_pos rfl]
  ·rw [if_neg e,if_neg (nfr j hj e),if_neg (Ne.symm (dis i j hi hj))]; exact h.free j hj
 ·rw [hB] at hb
  by_cases e:v=T.fr c
  ·exact ⟨i,hi,by rw [pivF_ba,if_pos rfl,e]⟩
  ·rw [if_neg e] at hb
   by_cases e2:v=T.ba i
   ·rw [if_pos e2] at hb; cases hb
   ·rw [if_neg e2] at hb
    obtain ⟨k,hk,ek⟩:=h.bas v hb
    exact ⟨k,hk,by rw [pivF_ba,if_neg (fun e3=>e2 (by rw [<- ek,e3]))]; exact ek⟩
 ·rw [hB] at hb
  by_cases e:v=T.fr c
  ·rw [if_pos e] at hb; cases hb
  ·rw [if_neg e] at hb
   by_cases e2:v=T.ba i
   ·exact ⟨c,hc,by rw [pivF_fr,if_pos rfl,e2]⟩
   ·rw [if_neg e2] at hb
    obtain ⟨j,hj,ej⟩:=h.frs v hlt hb
    exact ⟨j,hj,by rw [pivF_fr,if_neg (fun e3=>e (by rw [<- ej,e3]))]; exact ej⟩
 ·have hk:k<T.m:=hk
  have hk':k'<T.m:=hk'
  rw [pivF_ba,pivF_ba] at he
  by_cases e:k=i
  ·by_cases e':k'=i
   ·rw [e,e']
   ·rw [if_pos e,if_neg e'] at he; exact absurd he.symm (dis k' c hk' hc)
  ·by_cases e':k'=i
   ·rw [if_neg e,if_pos e'] at he; exact absurd he (dis k c hk hc)
   ·rw [if_neg e,if_neg e'] at he; exact h.bi k k' hk hk' he
 ·have hj:j<T.n:=hj
  have hj':j'<T.n:=hj'
  rw [pivF_fr,pivF_fr] at he
  by_cases e:j=c
  ·by_cases e':j'=c
   ·rw [e,e']
   ·rw [if_pos e,if_neg e'] at he; exact absurd he (dis i j' hi hj')
  ·by_cases e':j'=c
   ·rw [if_neg e,if_pos e'] at he; exact absurd he.symm (dis i j hi hj)
   ·rw [if_neg e,if_neg e'] at he; exact h.fi j j' hj hj' he
 ·have hk:k<T.m:=hk
  have hj:j<T.n:=hj
  have hrow:=h.rowT hi hc hj
  show (if (pivF T i c).ba k=T.fr c then D.M (T.ba i) ((pivF T i c).fr j) / D.M (T.ba i) (T.fr c) else if (pivF T i c).ba k=T.ba i then 0 else D.M ((pivF T i c).ba k) ((pivF T i c).fr j) - D.M ((pivF T i c).ba k) (T.fr c)*(D.M (T.ba i) ((pivF T i c).fr j) / D.M (T.ba i) (T.fr c)))=_
  rw [hrow,pivF_ba,pivF_al]
  by_cases e:k=i
  ·rw [if_pos e,if_pos rfl,if_pos e]
  ·rw [if_neg e,if_neg (dis k c hk hc),if_neg (nba k hk e),if_neg e,pivF_fr,h.al k c hk hc]
   by_cases e2:j=c
   ·rw [if_pos e2,if_pos e2,h.wf.unit _ _ (h.ba k hk) hv,if_neg (nba k hk e)]
    have:rowF T i c j=invF T i c:=if_pos e2
    rw [this]; grind
   ·rw [if_neg e2,if_neg e2,h.al k j hk hj]
 ·have hk:k<T.m:=hk
  have e0:D.b (T.ba i) / D.M (T.ba i) (T.fr c)=T.be i*invF T i c:=by rw [h.be i hi,h.al i c hi hc]; unfold invF; rw [Rat.div_def,Rat.div_def,Rat.one_mul]
  show (if (pivF T i c).ba k=T.fr c then D.b (T.ba i) / D.M (T.ba i) (T.fr c) else if (pivF T i c).ba k=T.ba i then 0 else D.b ((pivF T i c).ba k) - D.M ((pivF T i c).ba k) (T.fr c)*(D.b (T.ba i) / D.M (T.ba i) (T.fr c)))=_
  rw [e0,pivF_ba,pivF_be]
  by_cases e:k=i
  ·rw [if_pos e,if_pos rfl,if_pos e]
  ·rw [if_neg e,if_neg (dis k c hk hc),if_neg (nba k hk e),if_neg e,h.be k hk,h.al k c hk hc]
 ·have hj:j<T.n:=hj
  have hrow:=h.rowT hi hc hj
  show D.d ((pivF T i c).fr j) - D.d (T.fr c)*(D.M (T.ba i) ((pivF T i c).fr j) / D.M (T.ba i) (T.fr c))=_
  rw [hrow,pivF_fr,pivF_d,h.d c hc]
  by_cases e:j=c
  ·rw [if_pos e,if_pos e,h.wf.cost _ hv]
   have:rowF T i c j=invF T i c:=if_pos e
   rw [this]; grind
  ·rw [if_neg e,if_neg e,h.d j hj]
end
theorem distN_some {ba:Nat->Nat} {be:Nat->Rat} {v:Nat}:∀ {m i:Nat},i<m->ba i=v->(∀ j k,j<m->k<m->ba j=ba k->j=k)->distN ba be m v=be i
 | m+1,i,hi,hv,hu=>by
  unfold distN
  by_cases e:ba m=v
  ·rw [if_pos e,hu i m hi (by omega) (hv.trans e.symm)]
  ·rw [if_neg e]
   have:i≠m:=fun e2=>e (by rw [<- e2]; exact hv)
   exact distN_some (by omega) hv (fun j k hj hk=>hu j k (by omega) (by omega))
theorem distN_none {ba:Nat->Nat} {be:Nat->Rat} {v:Nat}:∀ {m:Nat},(∀ i,i<m->ba i≠v)->distN ba be m v=0
 | 0,_=>rfl
 | m+1,h=>by
  unfold distN
  rw [if_neg (h m (by omega))]
  exact distN_none (fun i hi=>h i (by omega))
section
variable {N:Nat} {T:TabF} {D:Tb}
theorem Rep.dist (h:Rep N T D) (v:Nat):distN T.ba T.be T.m v=D.b v:=by
 cases hb:D.B v with
 | true =>
  obtain ⟨i,hi,rfl⟩:=h.bas v hb
  rw [distN_some hi rfl h.bi,h.be i hi]
 | false =>
  rw [h.wf.rhs v hb]
  exact distN_none fun i hi e=>by rw [<- e,h.ba i hi] at hb; cases hb
theorem Rep.idx (h:Rep N T D) {v:Nat} (hv:v<N) (hn:idxN T.fr v T.n=none):∃ r,idxN T.ba v T.m=some r:=by
 cases hb:idxN T.ba v T.m with
 | some r=>exact ⟨r,rfl⟩
 | none =>
  exfalso
  cases hB:D.B v with
  | true =>
   obtain ⟨i,hi,e⟩:=h.bas v hB
   exact idxN_none hb i hi e
  | false =>
   obtain ⟨j,hj,e⟩:=h.frs v hv hB
   exact idxN_none hn j hj e
theorem Rep.gco (h:Rep N T D) {v c:Nat} (hv:v<N) (hc:c<T.n):gco T v c=(if T.fr c=v then 1 else 0) - D.M v (T.fr c):=by
 unfold Go.Proofs.YtbgienfcmdgaaaaGreat.gco
 cases hf:idxN T.fr v T.n with
 | some c' =>
  obtain ⟨h1,h2⟩:=idxN_some hf
  have hz:D.M v (T.fr c)=0:=h.wf.row v (by rw [<- h2]; exact h.free c' h1) _
  rw [hz]
  dsimp only
  by_cases e:c=c'
  ·rw [if_pos e,if_pos (by rw [e]; exact h2)]; grind
  ·rw [if_neg e,if_neg (fun e2=>e (h.fi c c' hc h1 (e2.trans h2.symm)))]; grind
 | none =>
  obtain ⟨r,hr⟩:=h.idx hv hf
  obtain ⟨h1,h2⟩:=idxN_some hr
  rw [hr,if_neg (idxN_none hf c hc),<- h2,h.al r c h1 hc]
  dsimp only
  grind
end
theorem rowP_sum (p:ProgV) (T:TabF) (l:LimV) (c:Nat):∀ i:Nat,rowP p T l i c=sumTo i fun k=>((((limTs p l).getD k term0).coef*limSg l:Int):Rat)*gco T ((limTs p l).getD k term0).var.toNat c
 | 0=>rfl
 | i+1=>by
  show rowP p T l i c+_=sumTo i _+_
  rw [rowP_sum p T l c i]
section
variable {T:TabF} {D:Tb} {p:ProgV} {us:List LimV} {l:LimV}
theorem lim_sumN (hv:validB p=true) (hl:LimOk p l) (k:Nat) (y:Nat->Rat):sumTo (p.vars.length+k) (fun w=>limA p l w*y w)=sumTo p.vars.length (fun w=>limA p l w*y w):=by
 rw [sumTo_split,sumTo_zero' (f:=fun j=>limA p l (p.vars.length+j)*y (p.vars.length+j)) (fun j _=>by rw [lim_out hv hl (by omega)]; grind)]; grind
theorem Rep.rowP (h:Rep (p.vars.length+us.length) T D) (hv:validB p=true) (hl:LimOk p l) {c:Nat} (hc:c<T.n):rowP p T l (limTs p l).length c=limA p l (T.fr c) - sumTo (p.vars.length+us.length) (fun w=>limA p l w*D.M w (T.fr c)):=by
 rw [lim_sumN hv hl,lim_sum hv hl,rowP_sum]
 have h1:limA p l (T.fr c)=sumTo (limTs p l).length (fun k=>(((limTs p l).getD k term0).coef:Rat)*(if T.fr c=((limTs p l).getD k term0).var.toNat then 1 else 0))*(limSg l:Rat):=by
  unfold limA
  rw [<- sumTo_mulR]
  refine sumTo_congr fun k hk=>?_
  obtain ⟨h2,h3⟩:=hl.terms hv k hk
  by_cases e:T.fr c=((limTs p l).getD k term0).var.toNat
  ·rw [if_pos e,if_pos (by omega)]; grind
  ·rw [if_neg e,if_neg (by omega)]; grind
 rw [h1,<- sumTo_mulR,<- sumTo_mulR,<- sumTo_sub]
 refine sumTo_congr fun k hk=>?_
 obtain ⟨h2,h3⟩:=hl.terms hv k hk
 rw [h.gco (by omega) hc,Rat.intCast_mul]
 grind
theorem Rep.slack (h:Rep (p.vars.length+us.length) T D) (hv:validB p=true) (hl:LimOk p l):slackQ p l (listTo p.vars.length (distN T.ba T.be T.m)) false=limR p l - sumTo (p.vars.length+us.length) (fun w=>limA p l w*D.b w):=by
 rw [slack_eq hv hl,lim_sumN hv hl]
 rw [if_neg Bool.false_ne_true,sumTo_congr (f:=fun t=>limA p l t*distN T.ba T.be T.m t) (g:=fun t=>limA p l t*D.b t) (fun t _=>by rw [h.dist])]
theorem Rep.use (h:Rep (p.vars.length+us.length) T D) (hv:validB p=true) (hl:LimOk p l):Rep (p.vars.length+us.length+1) (useF p T us l) (useT (p.vars.length+us.length) D (limA p l) (limR p l)):=by
 have hN:=h.wf.notN
 have hba:∀ i,(useF p T us l).ba i=if i=T.m then p.vars.length+us.length else T.ba i:=fun _=>rfl
 have hbe:∀ i,(useF p T us l).be i=if i=T.m then slackQ p l (listTo p.vars.length (distN T.ba T.be T.m)) false else T.be i:=fun _=>rfl
 have hal:∀ i,(useF p T us l).al i=if i=T.m then Go.Proofs.YtbgienfcmdgaaaaGreat.rowP p T l (limTs p l).length else T.al i:=fun _=>rfl
 have hblt:∀ i,i<T.m->T.ba i<p.vars.length+us.length:=fun i hi=>h.wf.dom _ (h.ba i hi)
 refine ⟨use_wf h.wf,fun j hj=>?_,fun i hi=>?_,fun j hj=>?_,fun v hb=>?_,fun v hlt hb=>?_,fun i k hi hk he=>?_,fun j k hj hk he=>?_,fun i j hi hj=>?_,fun i hi=>?_,fun j hj=>?_⟩
 ·have:=h.fr j hj
  show T.fr j<_
  omega
 ·have hi:i<T.m+1:=hi
  rw [hba,use_B]
  by_cases e:i=T.m
  ·rw [if_pos e,if_pos rfl]
  ·have:=hblt i (by omega)
   rw [if_neg e,if_neg (by omega)]; exact h.ba i (by omega)
 ·have:=h.fr j hj
  show (useT _ D _ _).B (T.fr j)=false
  rw [use_B,if_neg (by omega)]; exact h.free j hj
 ·rw [use_B] at hb
  by_cases e:v=p.vars.length+us.length
  ·exact ⟨T.m,Nat.lt_succ_self _,by rw [hba,if_pos rfl,e]⟩
  ·rw [if_neg e] at hb
   obtain ⟨i,hi,hv2⟩:=h.bas v hb
   exact ⟨i,Nat.lt_succ_of_lt hi,by rw [hba,if_neg (by omega)]; exact hv2⟩
 ·rw [use_B] at hb
  by_cases e:v=p.vars.length+us.length
  ·rw [if_pos e] at hb; cases hb
  ·rw [if_neg e] at hb
   exact h.frs v (by omega) hb
 ·have hi:i<T.m+1:=hi
  have hk:k<T.m+1:=hk
  rw [hba,hba] at he
  by_cases e:i=T.m
  ·by_cases e2:k=T.m
   ·omega
   ·have:=hblt k (by omega)
    rw [if_pos e,if_neg e2] at he; omega
  ·by_cases e2:k=T.m
   ·have:=hblt i (by omega)
    rw [if_neg e,if_pos e2] at he; omega
   ·rw [if_neg e,if_neg e2] at he
    exact h.bi i k (by omega) (by omega) he
 ·exact h.fi j k hj hk he
 ·have hi:i<T.m+1:=hi
  have hj:j<T.n:=hj
  have hf:=h.fr j hj
  show (useT _ D _ _).M ((useF p T us l).ba i) (T.fr j)=(useF p T us l).al i j
  rw [hba,hal,use_M]
  by_cases e:i=T.m
  ·rw [if_pos e,if_pos rfl,if_neg (by omega),if_pos e,h.rowP hv hl hj]
  ·have:=hblt i (by omega)
   rw [if_neg e,if_neg (by omega),if_neg (by omega),if_neg e]
   exact h.al i j (by omega) hj
 ·have hi:i<T.m+1:=hi
  rw [hba,hbe,use_b]
  by_cases e:i=T.m
  ·rw [if_pos e,if_pos rfl,if_pos e,h.slack hv hl]
  ·have:=hblt i (by omega)
   rw [if_neg e,if_neg (by omega),if_neg e]
   exact h.be i (by omega)
 ·have hf:=h.fr j hj
  show (useT _ D _ _).d (T.fr j)=T.d j
  rw [use_d,if_neg (by omega)]; exact h.d j hj
end
theorem dual1_any (w:World) (v:Value) (q:Rat) (s:Nat) (h:IsRat w v q) (hz:Sz q s) (hs:s<=268435455) :
  Calls Tryz.prog 171 #[v] w (BoolPost w (decide (q.num.sign<0))):=by
 obtain ⟨kn,ka,km,kc,ka2,km2,kc2,rfl⟩:=h.shape
 have hb:=boxR_new (W:=w) rfl kn ka km kc ka2 km2 kc2
 have hxa:=(Ext.refl (fun _=>False) w).alloc (.cells #[.bool kn,.slice ka km kc,.slice ka2 km2 kc2] 31)
 have HS:=bH (rsign_any _ _ _ s ((h.keep hxa).reads hz) hs)
 obtain ⟨x0,x1,x2,-⟩:=hb.facts
 have HX:=bH hxa
 clear h hb hxa
 go_enter Tryz.func171,Tryz.ntmps171
 go_upto_region 1 with fail
 generalize w.alloc (.cells #[.bool kn,.slice ka km kc,.slice ka2 km2 kc2] 31)=w1 at *
 generalize w.heap.size=ab at *
 go_wp2_with fail
 refine HS.out.mono ?_
 rintro r4 w4 ⟨rfl,hx4⟩
 have HR:=bH (HX.out.trans hx4)
 clear x0 x1 x2 hx4
 generalize q.num.sign=sg at *
 by_cases hsg:sg<0
 ·have hd:decide (sg<0)=true:=by simpa using hsg
  go_wp2
  exact bodyPost_ret (v:=.bool true) (by first | (simp [results,Tryz.results171,go_sem]; done) | simp [results,Tryz.results171,go_sem,hd]) rfl ⟨by first | rfl | rw [hd],HR.out⟩
 ·have hd:decide (sg<0)=false:=by simpa using hsg
  go_wp2
  exact bodyPost_ret (v:=.bool false) (by first | (simp [results,Tryz.results171,go_sem]; done) | simp [results,Tryz.results171,go_sem,hd]) rfl ⟨by first | rfl | rw [hd],HR.out⟩
theorem dual2_any (w:World) (base tb tc:Nat) (V:TabV) (T:TabF) (k s:Nat) (h:TabAt w base tb V T) (hk:k<T.m) (ht:w.cell? ⟨tc,0,none⟩=some (.pointer (some ⟨tb,0,none⟩))) (hz:Sz (T.be k) s) (hs:s<=268435455) :
  Calls Tryz.prog 173 #[.int .i64 k,.pointer (some ⟨tc,0,none⟩)] w (BoolPost w (decide ((T.be k).num.sign<0))):=by
 obtain ⟨g,cap,hv,h1,h2,hr⟩:=h.be.open (by omega)
 have hbox:=h.box
 rw [hv] at hbox
 have b6:=cellq hbox 6 rfl
 have k0:(0:Int)<=(k:Int):=by omega
 have k1:(k:Int)<(T.m:Int):=by omega
 obtain ⟨n3,a3,l3,c3,a3',l3',c3',e0,e1,e2,hq⟩:=hr.cells k hk
 have HS:=bH (rsign_any w _ _ s (hq.reads hz) hs)
 clear hq hbox hr hv h
 go_enter Tryz.func173,Tryz.ntmps173
 go_wp2_with fail
 refine HS.out.mono ?_
 rintro r4 w4 ⟨rfl,hx4⟩
 have HR:=bH hx4
 clear e0 e1 e2 hx4 b6 ht
 generalize (T.be k).num.sign=sg at *
 by_cases hsg:sg<0
 ·have hd:decide (sg<0)=true:=by simpa using hsg
  go_wp2
  exact bodyPost_ret (v:=.bool true) (by first | (simp [results,Tryz.results173,go_sem]; done) | simp [results,Tryz.results173,go_sem,hd]) rfl ⟨by first | rfl | rw [hd],HR.out⟩
 ·have hd:decide (sg<0)=false:=by simpa using hsg
  go_wp2
  exact bodyPost_ret (v:=.bool false) (by first | (simp [results,Tryz.results173,go_sem]; done) | simp [results,Tryz.results173,go_sem,hd]) rfl ⟨by first | rfl | rw [hd],HR.out⟩
theorem primal1_any (w:World) (base tb tc:Nat) (V:TabV) (T:TabF) (k s:Nat) (h:TabAt w base tb V T) (hk:k<T.n) (ht:w.cell? ⟨tc,0,none⟩=some (.pointer (some ⟨tb,0,none⟩))) (hz:Sz (T.d k) s) (hs:s<=268435455) :
  Calls Tryz.prog 181 #[.int .i64 k,.pointer (some ⟨tc,0,none⟩)] w (BoolPost w (decide ((T.d k).num.sign<0))):=by
 obtain ⟨g,cap,hv,h1,h2,hr⟩:=h.d.open (by omega)
 have hbox:=h.box
 rw [hv] at hbox
 have b6:=cellq hbox 8 rfl
 have k0:(0:Int)<=(k:Int):=by omega
 have k1:(k:Int)<(T.n:Int):=by omega
 obtain ⟨n3,a3,l3,c3,a3',l3',c3',e0,e1,e2,hq⟩:=hr.cells k hk
 have HS:=bH (rsign_any w _ _ s (hq.reads hz) hs)
 clear hq hbox hr hv h
 go_enter Tryz.func181,Tryz.ntmps181
 go_wp2_with fail
 refine HS.out.mono ?_
 rintro r4 w4 ⟨rfl,hx4⟩
 have HR:=bH hx4
 clear e0 e1 e2 hx4 b6 ht
 generalize (T.d k).num.sign=sg at *
 by_cases hsg:sg<0
 ·have hd:decide (sg<0)=true:=by simpa using hsg
  go_wp2
  exact bodyPost_ret (v:=.bool true) (by first | (simp [results,Tryz.results181,go_sem]; done) | simp [results,Tryz.results181,go_sem,hd]) rfl ⟨by first | rfl | rw [hd],HR.out⟩
 ·have hd:decide (sg<0)=false:=by simpa using hsg
  go_wp2
  exact bodyPost_ret (v:=.bool false) (by first | (simp [results,Tryz.results181,go_sem]; done) | simp [results,Tryz.results181,go_sem,hd]) rfl ⟨by first | rfl | rw [hd],HR.out⟩
theorem dual4_any (w:World) (base tb tc ic:Nat) (V:TabV) (T:TabF) (i c s:Nat) (h:TabAt w base tb V T) (hi:i<T.m) (hc:c<T.n) (htc:w.cell? ⟨tc,0,none⟩=some (.pointer (some ⟨tb,0,none⟩))) (hic:w.cell? ⟨ic,0,none⟩=some (.int .i64 i)) (hz:Sz (T.al i c) s) (hs:s<=268435455) :
  Calls Tryz.prog 177 #[.int .i64 c,.pointer (some ⟨tc,0,none⟩),.pointer (some ⟨ic,0,none⟩)] w (BoolPost w (decide ((T.al i c).num.sign<0))):=by
 obtain ⟨g,cap,hv,h1,h2,hr⟩:=h.al.open (by omega)
 have hbox:=h.box
 rw [hv] at hbox
 have b6:=cellq hbox 7 rfl
 have a0:=hr i hi
 have i0:(0:Int)<=(i:Int):=by omega
 have i1:(i:Int)<(T.m:Int):=by omega
 have c0:(0:Int)<=(c:Int):=by omega
 have c1:(c:Int)<(T.n:Int):=by omega
 obtain ⟨n3,a3,l3,c3,a3',l3',c3',e0,e1,e2,hq⟩:=(h.rows i hi).1.cells c hc
 clear hbox hr hv h
 obtain ⟨w2,hw2⟩:∃ w2,w=w2:=⟨_,rfl⟩
 rw [hw2] at hq b6 a0 e0 e1 e2 htc hic ⊢
 have HS:=bH (fun W (hW:XF w2 W)=>rsign_any W _ _ s ((hq.keep hW).reads hz) hs)
 clear hq
 generalize (T.al i c).num.sign=sg at HS ⊢
 go_enter Tryz.func177,Tryz.ntmps177
 go_upto_region 1 with fail
 replace b6:=cq b6
 replace a0:=cq a0
 replace e0:=cq e0
 replace e1:=cq e1
 replace e2:=cq e2
 replace htc:=cq htc
 replace hic:=cq hic
 refine wp_region_held_drew (S:=(XF w2)) (by kernel_rfl) ((Ext.refl _ w2).drew) (fun hHeld=>?_)
 refine ht 0 (h:=(ht 1 (h:=(ht 2 (h:=(ht 3 (h:=(ht 4 (h:=(ht 5 (h:=(ht 6 (h:=(ht 7 (h:=(ht 8 (h:=(ht 9 (h:=?_)))))))))))))))))))
 (try go_frame)
 refine hst 10 (h:=fun K hK=>?_)
 (go_simp; go_at_call 51; (with_reducible refine (HS.out _ hHeld).mono ?_); rintro q1 w11 ⟨rfl,hx11⟩; have hX1:=hHeld.trans hx11)
 refine hK.out _ _ (hX1) (fun hHeld=>?_)
 clear hK K
 (try go_frame)
 refine ht 11 (h:=(ht 12 (h:=?_)))
 (try go_frame)
 refine wpAnyH_done (by kernel_rfl) ?_ _
 have HR:=bH hX1
 clear e0 e1 e2 hx11 hX1 hHeld b6 a0 htc hic
 by_cases hsg:sg<0
 ·have hd:decide (sg<0)=true:=by simpa using hsg
  go_wp2
  exact bodyPost_ret (v:=.bool true) (by first | (simp [results,Tryz.results177,go_sem]; done) | simp [results,Tryz.results177,go_sem,hd]) rfl ⟨by first | rfl | rw [hd],HR.out⟩
 ·have hd:decide (sg<0)=false:=by simpa using hsg
  go_wp2
  exact bodyPost_ret (v:=.bool false) (by first | (simp [results,Tryz.results177,go_sem]; done) | simp [results,Tryz.results177,go_sem,hd]) rfl ⟨by first | rfl | rw [hd],HR.out⟩
theorem primal2_any (w:World) (base tb tc ic:Nat) (V:TabV) (T:TabF) (i c s:Nat) (h:TabAt w base tb V T) (hi:i<T.m) (hc:c<T.n) (htc:w.cell? ⟨tc,0,none⟩=some (.pointer (some ⟨tb,0,none⟩))) (hic:w.cell? ⟨ic,0,none⟩=some (.int .i64 c)) (hz:Sz (T.al i c) s) (hs:s<=268435455) :
  Calls Tryz.prog 182 #[.int .i64 i,.pointer (some ⟨tc,0,none⟩),.pointer (some ⟨ic,0,none⟩)] w (BoolPost w (decide (0<(T.al i c).num.sign))):=by
 obtain ⟨g,cap,hv,h1,h2,hr⟩:=h.al.open (by omega)
 have hbox:=h.box
 rw [hv] at hbox
 have b6:=cellq hbox 7 rfl
 have a0:=hr i hi
 have i0:(0:Int)<=(i:Int):=by omega
 have i1:(i:Int)<(T.m:Int):=by omega
 have c0:(0:Int)<=(c:Int):=by omega
 have c1:(c:Int)<(T.n:Int):=by omega
 obtain ⟨n3,a3,l3,c3,a3',l3',c3',e0,e1,e2,hq⟩:=(h.rows i hi).1.cells c hc
 clear hbox hr hv h
 obtain ⟨w2,hw2⟩:∃ w2,w=w2:=⟨_,rfl⟩
 rw [hw2] at hq b6 a0 e0 e1 e2 htc hic ⊢
 have HS:=bH (fun W (hW:XF w2 W)=>rsign_any W _ _ s ((hq.keep hW).reads hz) hs)
 clear hq
 generalize (T.al i c).num.sign=sg at HS ⊢
 go_enter Tryz.func182,Tryz.ntmps182
 go_upto_region 1 with fail
 replace b6:=cq b6
 replace a0:=cq a0
 replace e0:=cq e0
 replace e1:=cq e1
 replace e2:=cq e2
 replace htc:=cq htc
 replace hic:=cq hic
 refine wp_region_held_drew (S:=(XF w2)) (by kernel_rfl) ((Ext.refl _ w2).drew) (fun hHeld=>?_)
 refine ht 0 (h:=(ht 1 (h:=(ht 2 (h:=(ht 3 (h:=(ht 4 (h:=(ht 5 (h:=(ht 6 (h:=(ht 7 (h:=(ht 8 (h:=(ht 9 (h:=?_)))))))))))))))))))
 (try go_frame)
 refine hst 10 (h:=fun K hK=>?_)
 (go_simp; go_at_call 51; (with_reducible refine (HS.out _ hHeld).mono ?_); rintro q1 w11 ⟨rfl,hx11⟩; have hX1:=hHeld.trans hx11)
 refine hK.out _ _ (hX1) (fun hHeld=>?_)
 clear hK K
 (try go_frame)
 refine ht 11 (h:=(ht 12 (h:=?_)))
 (try go_frame)
 refine wpAnyH_done (by kernel_rfl) ?_ _
 have HR:=bH hX1
 clear e0 e1 e2 hx11 hX1 hHeld b6 a0 htc hic
 by_cases hsg:0<sg
 ·have hd:decide (0<sg)=true:=by simpa using hsg
  go_wp2
  exact bodyPost_ret (v:=.bool true) (by first | (simp [results,Tryz.results182,go_sem]; done) | simp [results,Tryz.results182,go_sem,hd]) rfl ⟨by first | rfl | rw [hd],HR.out⟩
 ·have hd:decide (0<sg)=false:=by simpa using hsg
  go_wp2
  exact bodyPost_ret (v:=.bool false) (by first | (simp [results,Tryz.results182,go_sem]; done) | simp [results,Tryz.results182,go_sem,hd]) rfl ⟨by first | rfl | rw [hd],HR.out⟩
theorem dual3_any (w:World) (base tb tc ic:Nat) (V:TabV) (T:TabF) (i c s:Nat) (h:TabAt w base tb V T) (hi:i<T.m) (hc:c<T.n) (htc:w.cell? ⟨tc,0,none⟩=some (.pointer (some ⟨tb,0,none⟩))) (hic:w.cell? ⟨ic,0,none⟩=some (.int .i64 i))
  (hz:Sz (T.al i c) s) (hzd:Sz (T.d c) s) (hnz:T.al i c≠0) (hs1:1<=s) (hs:s<=4000000) :
  Calls Tryz.prog 175 #[.int .i64 c,.pointer (some ⟨tc,0,none⟩),.pointer (some ⟨ic,0,none⟩)] w (RatPost w (T.d c / -(T.al i c))):=by
 have hxa:=(Ext.refl (fun _=>False) w).alloc (.cells #[.bool false,.slice none 0 0,.slice none 0 0] 31)
 have hrb:=boxR_new (W:=w) rfl false none 0 0 none 0 0
 replace h:=h.keep hxa
 replace htc:=cell_keep htc hxa
 replace hic:=cell_keep hic hxa
 have HX:=bH (bI hxa hrb)
 clear hxa hrb
 go_enter Tryz.func175,Tryz.ntmps175
 go_upto_region 1 with fail
 have hrs:w.heap.size<=w.heap.size:=Nat.le_refl _
 generalize w.alloc (.cells #[.bool false,.slice none 0 0,.slice none 0 0] 31)=w2 at *
 obtain ⟨r,hr⟩:∃ r,w.heap.size=r:=⟨_,rfl⟩
 have hwr:w.heap.size<=r:=Nat.le_of_eq hr
 rw [hr] at HX ⊢
 clear hr hrs
 obtain ⟨gal,cal,hv,g1,g2,hal⟩:=h.al.open (by omega)
 obtain ⟨gd,cd,hvd,g3,g4,hrd⟩:=h.d.open (by omega)
 have hbox:=h.box
 rw [hv,hvd] at hbox
 have b7:=cq (cellq hbox 7 rfl)
 have b8:=cq (cellq hbox 8 rfl)
 have a0:=cq (hal i hi)
 have i0:(0:Int)<=(i:Int):=by omega
 have i1:(i:Int)<(T.m:Int):=by omega
 have c0:(0:Int)<=(c:Int):=by omega
 have c1:(c:Int)<(T.n:Int):=by omega
 obtain ⟨n3,a3,l3,c3,a3',l3',c3',e0,e1,e2,hq⟩:=(h.rows i hi).1.cells c hc
 obtain ⟨n4,a4,l4,c4,a4',l4',c4',o0,o1,o2,hqd⟩:=hrd.cells c hc
 have HN:=bH (fun W (hW:XF w2 W)=>rneg_any W _ (T.al i c) s ((hq.keep hW).reads hz) hs1 (by omega))
 have HD:=bH (fun W u (hW:XF w2 W) (hu:IsRat W u (-(T.al i c)))=>rdiv_any W _ u (T.d c) (-(T.al i c)) s ((hqd.keep hW).reads hzd) (hu.reads hz.neg) (by omega) (by omega) (by grind))
 clear hq hqd hbox hal hrd hv hvd h
 replace e0:=cq e0
 replace e1:=cq e1
 replace e2:=cq e2
 replace o0:=cq o0
 replace o1:=cq o1
 replace o2:=cq o2
 replace htc:=cq htc
 replace hic:=cq hic
 go_cut [5] (fun v5 wx=>∃ ib n12 a12 l12 c12 a12' l12' c12',v5=.pointer (some ⟨ib,0,none⟩)/\BoxR wx ib n12 (.slice a12 l12 c12) (.slice a12' l12' c12')/\IsRat wx (.agg #[.bool n12,.slice a12 l12 c12,.slice a12' l12' c12']) (T.d c / -(T.al i c))/\XF w2 wx)
 case first =>
  refine wp_region_held_drew (S:=(XF w2)) (by kernel_rfl) ((Ext.refl _ w2).drew) (fun hHeld=>?_)
  refine ht 0 (h:=(ht 1 (h:=(ht 2 (h:=(ht 3 (h:=(ht 4 (h:=(ht 5 (h:=(ht 6 (h:=(ht 7 (h:=(ht 8 (h:=(ht 9 (h:=(ht 10 (h:=(ht 11 (h:=(ht 12 (h:=(ht 13 (h:=(ht 14 (h:=(ht 15 (h:=(ht 16 (h:=?_)))))))))))))))))))))))))))))))))
  (try go_frame)
  refine held_two 17 22 rfl rfl (by kernel_rfl) (fun K hK=>?_) (fun K hK=>?_)
  ·go_simp
   go_at_call 69; (with_reducible refine (HN.out _ hHeld).mono ?_); rintro q1 w11 ⟨v1,rfl,h11,hx1⟩; have hX1:=hHeld.trans hx1
   obtain ⟨n11,a11,l11,c11,a11',l11',c11',rfl⟩:=h11.shape
   refine hK.out _ _ (hX1) (fun hHeld=>?_)
   clear hK K
   (try go_frame)
   refine held_two 18 22 rfl rfl (by kernel_rfl) (fun K hK=>?_) (fun K hK=>?_)
   ·go_simp
    go_at_call 176; (with_reducible refine (HD.out _ _ hX1 h11).mono ?_); rintro q2 w12 ⟨v2,rfl,h12,hx2⟩; have hX2:=hX1.trans hx2
    obtain ⟨n12,a12,l12,c12,a12',l12',c12',rfl⟩:=h12.shape
    refine hK.out _ _ (hX2) (fun hHeld=>?_)
    clear hK K
    (try go_frame)
    refine ht 19 (h:=(ht 20 (h:=(ht 21 (h:=?_)))))
    (try go_frame)
    refine hst 22 (h:=fun K hK=>?_)
    go_simp
    have hBl3:=hX2.size
    have hX3:=hX2.trans ((Ext.refl (fun _=>False) w12).alloc (.cells #[.bool false,.slice none 0 0,.slice none 0 0] 31))
    refine hK.out _ _ (hX3) (fun hHeld=>?_)
    clear hK K
    (try go_frame)
    refine hst 23 (h:=fun K hK=>?_)
    go_simp
    have hxn:=(Ext.refl (fun _=>False) w12).alloc (.cells #[.bool n12,.slice a12 l12 c12,.slice a12' l12' c12'] 31)
    have hXs:=hX2.trans hxn
    have hps:=h12.keep hxn
    have hpb:=boxR_new (W:=w12) rfl n12 a12 l12 c12 a12' l12' c12'
    refine hK.out _ _ (hXs) (fun hHeld=>?_)
    clear hK K
    (try go_frame)
    refine ht 24 (h:=?_)
    (try go_frame)
    refine wpAnyH_done (by kernel_rfl) ?_ _
    go_wp2
    go_meet
    exact ⟨_,_,_,_,_,_,_,_,rfl,hpb,hps,hXs⟩
   ·go_simp
    have hxn:=(Ext.refl (fun _=>False) w11).alloc (.cells #[.bool false,.slice none 0 0,.slice none 0 0] 31)
    have hX2:=hX1.trans hxn
    have hB2:=boxR_new (W:=w11) rfl false none 0 0 none 0 0
    have hBl2:=hX1.size
    replace h11:=h11.keep hxn
    refine hK.out _ _ (hX2) (fun hHeld=>?_)
    clear hK K
    (try go_frame)
    refine hst 18 (h:=fun K hK=>?_)
    go_simp
    go_at_call 176; (with_reducible refine (HD.out _ _ hX2 h11).mono ?_); rintro q3 w13 ⟨v3,rfl,h12,hx3⟩; have hX3:=hX2.trans hx3
    have hB3:=hB2.keep hx3
    obtain ⟨n12,a12,l12,c12,a12',l12',c12',rfl⟩:=h12.shape
    refine hK.out _ _ (hX3) (fun hHeld=>?_)
    clear hK K
    (try go_frame)
    refine ht 19 (h:=(ht 20 (h:=(ht 21 (h:=?_)))))
    (try go_frame)
    refine hst 23 (h:=fun K hK=>?_)
    obtain ⟨d0,d1,d2,d3,d4,d5⟩:=hB3.facts
    have hp:=hB3.put (neg:=n12) (no_int a12 l12 c12) (no_int a12' l12' c12')
    have hXs:=hX3.own hp.ext (fun k e=>by have:=hBl2; omega)
    have hps:=hp.rat h12
    have hpb:=hp.box
    go_simp
    refine hK.out _ _ (hXs) (fun hHeld=>?_)
    clear hK K
    (try go_frame)
    refine ht 24 (h:=?_)
    (try go_frame)
    refine wpAnyH_done (by kernel_rfl) ?_ _
    go_wp2
    go_meet
    exact ⟨_,_,_,_,_,_,_,_,rfl,hpb,hps,hXs⟩
  ·go_simp
   have hxn:=(Ext.refl (fun _=>False) w2.drew).alloc (.cells #[.bool false,.slice none 0 0,.slice none 0 0] 31)
   have hX1:XF w2 ((w2.alloc (.cells #[.bool false,.slice none 0 0,.slice none 0 0] 31)).drew):=hHeld.trans hxn
   have hB1:BoxR ((w2.alloc (.cells #[.bool false,.slice none 0 0,.slice none 0 0] 31)).drew) w2.heap.size false (.slice none 0 0) (.slice none 0 0):=boxR_new (W:=w2.drew) rfl false none 0 0 none 0 0
   have hBl1:w2.heap.size<=w2.heap.size:=Nat.le_refl _
   refine hK.out _ _ (hX1) (fun hHeld=>?_)
   clear hK K
   (try go_frame)
   refine hst 17 (h:=fun K hK=>?_)
   go_simp
   go_at_call 69; (with_reducible refine (HN.out _ hX1).mono ?_); rintro q2 w12 ⟨v2,rfl,h11,hx2⟩; have hX2:=hX1.trans hx2
   have hB2:=hB1.keep hx2
   obtain ⟨n11,a11,l11,c11,a11',l11',c11',rfl⟩:=h11.shape
   refine hK.out _ _ (hX2) (fun hHeld=>?_)
   clear hK K
   (try go_frame)
   refine hst 18 (h:=fun K hK=>?_)
   go_simp
   go_at_call 176; (with_reducible refine (HD.out _ _ hX2 h11).mono ?_); rintro q3 w13 ⟨v3,rfl,h12,hx3⟩; have hX3:=hX2.trans hx3
   have hB3:=hB2.keep hx3
   obtain ⟨n12,a12,l12,c12,a12',l12',c12',rfl⟩:=h12.shape
   refine hK.out _ _ (hX3) (fun hHeld=>?_)
   clear hK K
   (try go_frame)
   refine ht 19 (h:=(ht 20 (h:=(ht 21 (h:=?_)))))
   (try go_frame)
   refine hst 23 (h:=fun K hK=>?_)
   obtain ⟨d0,d1,d2,d3,d4,d5⟩:=hB3.facts
   have hp:=hB3.put (neg:=n12) (no_int a12 l12 c12) (no_int a12' l12' c12')
   have hXs:=hX3.own hp.ext (fun k e=>by have:=hBl1; omega)
   have hps:=hp.rat h12
   have hpb:=hp.box
   go_simp
   refine hK.out _ _ (hXs) (fun hHeld=>?_)
   clear hK K
   (try go_frame)
   refine ht 24 (h:=?_)
   (try go_frame)
   refine wpAnyH_done (by kernel_rfl) ?_ _
   go_wp2
   go_meet
   exact ⟨_,_,_,_,_,_,_,_,rfl,hpb,hps,hXs⟩
 case rest =>
  obtain ⟨ib,n1,a1,l1,k1,a1',l1',k1',rfl,hbx,hqr,hx⟩:=hcut
  obtain ⟨x0,x1,x2,-⟩:=hbx.facts
  have hrb:=HX.out.2.keep hx
  obtain ⟨y0,y1,y2,y3,y4,y5⟩:=hrb.facts
  have hp:=hrb.put (neg:=n1) (no_int a1 l1 k1) (no_int a1' l1' k1')
  have HP:=bH (bI hp.box (bI (hp.rat hqr) ((HX.out.1.trans hx).own hp.ext (fun k e=>by omega))))
  clear hp hrb hqr hbx hx
  go_wp2
  generalize ((wc.setCell ⟨r,0,none⟩ (.bool n1)).setCell ⟨r,1,none⟩ (.slice a1 l1 k1)).setCell ⟨r,2,none⟩ (.slice a1' l1' k1')=w9 at *
  obtain ⟨z0,z1,z2,_⟩:=HP.out.1.facts
  exact bodyPost_ret (v:=.agg #[.bool n1,.slice a1 l1 k1,.slice a1' l1' k1']) (by simp [results,Tryz.results175,go_sem,z0,z1,z2]) rfl ⟨_,rfl,HP.out.2⟩
theorem primal3_any (w:World) (base tb tc ic:Nat) (V:TabV) (T:TabF) (i c s:Nat) (h:TabAt w base tb V T) (hi:i<T.m) (hc:c<T.n) (htc:w.cell? ⟨tc,0,none⟩=some (.pointer (some ⟨tb,0,none⟩))) (hic:w.cell? ⟨ic,0,none⟩=some (.int .i64 c))
  (hz:Sz (T.al i c) s) (hzd:Sz (T.be i) s) (hnz:T.al i c≠0) (hs1:1<=s) (hs:s<=4000000) :
  Calls Tryz.prog 183 #[.int .i64 i,.pointer (some ⟨tc,0,none⟩),.pointer (some ⟨ic,0,none⟩)] w (RatPost w (T.be i / T.al i c)):=by
 have hxa:=(Ext.refl (fun _=>False) w).alloc (.cells #[.bool false,.slice none 0 0,.slice none 0 0] 31)
 have hrb:=boxR_new (W:=w) rfl false none 0 0 none 0 0
 replace h:=h.keep hxa
 replace htc:=cell_keep htc hxa
 replace hic:=cell_keep hic hxa
 have HX:=bH (bI hxa hrb)
 clear hxa hrb
 go_enter Tryz.func183,Tryz.ntmps183
 go_upto_region 1 with fail
 have hrs:w.heap.size<=w.heap.size:=Nat.le_refl _
 generalize w.alloc (.cells #[.bool false,.slice none 0 0,.slice none 0 0] 31)=w2 at *
 obtain ⟨r,hr⟩:∃ r,w.heap.size=r:=⟨_,rfl⟩
 have hwr:w.heap.size<=r:=Nat.le_of_eq hr
 rw [hr] at HX ⊢
 clear hr hrs
 obtain ⟨gal,cal,hv,g1,g2,hal⟩:=h.al.open (by omega)
 obtain ⟨gd,cd,hvd,g3,g4,hrd⟩:=h.be.open (by omega)
 have hbox:=h.box
 rw [hv,hvd] at hbox
 have b7:=cq (cellq hbox 7 rfl)
 have b8:=cq (cellq hbox 6 rfl)
 have a0:=cq (hal i hi)
 have i0:(0:Int)<=(i:Int):=by omega
 have i1:(i:Int)<(T.m:Int):=by omega
 have c0:(0:Int)<=(c:Int):=by omega
 have c1:(c:Int)<(T.n:Int):=by omega
 obtain ⟨n3,a3,l3,c3,a3',l3',c3',e0,e1,e2,hq⟩:=(h.rows i hi).1.cells c hc
 obtain ⟨n4,a4,l4,c4,a4',l4',c4',o0,o1,o2,hqd⟩:=hrd.cells i hi
 have HD:=bH (fun W (hW:XF w2 W)=>rdiv_any W _ _ (T.be i) (T.al i c) s ((hqd.keep hW).reads hzd) ((hq.keep hW).reads hz) (by omega) (by omega) hnz)
 clear hq hqd hbox hal hrd hv hvd h
 replace e0:=cq e0
 replace e1:=cq e1
 replace e2:=cq e2
 replace o0:=cq o0
 replace o1:=cq o1
 replace o2:=cq o2
 replace htc:=cq htc
 replace hic:=cq hic
 go_cut [5] (fun v5 wx=>∃ ib n12 a12 l12 c12 a12' l12' c12',v5=.pointer (some ⟨ib,0,none⟩)/\BoxR wx ib n12 (.slice a12 l12 c12) (.slice a12' l12' c12')/\IsRat wx (.agg #[.bool n12,.slice a12 l12 c12,.slice a12' l12' c12']) (T.be i / T.al i c)/\XF w2 wx)
 case first =>
  refine wp_region_held_drew (S:=(XF w2)) (by kernel_rfl) ((Ext.refl _ w2).drew) (fun hHeld=>?_)
  refine ht 0 (h:=(ht 1 (h:=(ht 2 (h:=(ht 3 (h:=(ht 4 (h:=(ht 5 (h:=(ht 6 (h:=(ht 7 (h:=(ht 8 (h:=(ht 9 (h:=(ht 10 (h:=(ht 11 (h:=(ht 12 (h:=(ht 13 (h:=(ht 14 (h:=(ht 15 (h:=(ht 16 (h:=?_)))))))))))))))))))))))))))))))))
  (try go_frame)
  refine held_two 17 21 rfl rfl (by kernel_rfl) (fun K hK=>?_) (fun K hK=>?_)
  ·go_simp
   go_at_call 176; (with_reducible refine (HD.out _ hHeld).mono ?_); rintro q1 w11 ⟨v1,rfl,h12,hx1⟩; have hX1:=hHeld.trans hx1
   obtain ⟨n12,a12,l12,c12,a12',l12',c12',rfl⟩:=h12.shape
   refine hK.out _ _ (hX1) (fun hHeld=>?_)
   clear hK K
   (try go_frame)
   refine ht 18 (h:=(ht 19 (h:=(ht 20 (h:=?_)))))
   (try go_frame)
   refine hst 21 (h:=fun K hK=>?_)
   go_simp
   have hBl2:=hX1.size
   have hX2:=hX1.trans ((Ext.refl (fun _=>False) w11).alloc (.cells #[.bool false,.slice none 0 0,.slice none 0 0] 31))
   refine hK.out _ _ (hX2) (fun hHeld=>?_)
   clear hK K
   (try go_frame)
   refine hst 22 (h:=fun K hK=>?_)
   go_simp
   have hxn:=(Ext.refl (fun _=>False) w11).alloc (.cells #[.bool n12,.slice a12 l12 c12,.slice a12' l12' c12'] 31)
   have hXs:=hX1.trans hxn
   have hps:=h12.keep hxn
   have hpb:=boxR_new (W:=w11) rfl n12 a12 l12 c12 a12' l12' c12'
   refine hK.out _ _ (hXs) (fun hHeld=>?_)
   clear hK K
   (try go_frame)
   refine ht 23 (h:=?_)
   (try go_frame)
   refine wpAnyH_done (by kernel_rfl) ?_ _
   go_wp2
   go_meet
   exact ⟨_,_,_,_,_,_,_,_,rfl,hpb,hps,hXs⟩
  ·go_simp
   have hxn:=(Ext.refl (fun _=>False) w2.drew).alloc (.cells #[.bool false,.slice none 0 0,.slice none 0 0] 31)
   have hX1:XF w2 ((w2.alloc (.cells #[.bool false,.slice none 0 0,.slice none 0 0] 31)).drew):=hHeld.trans hxn
   have hB1:BoxR ((w2.alloc (.cells #[.bool false,.slice none 0 0,.slice none 0 0] 31)).drew) w2.heap.size false (.slice none 0 0) (.slice none 0 0):=boxR_new (W:=w2.drew) rfl false none 0 0 none 0 0
   have hBl1:w2.heap.size<=w2.heap.size:=Nat.le_refl _
   refine hK.out _ _ (hX1) (fun hHeld=>?_)
   clear hK K
   (try go_frame)
   refine hst 17 (h:=fun K hK=>?_)
   go_simp
   go_at_call 176; (with_reducible refine (HD.out _ hX1).mono ?_); rintro q2 w12 ⟨v2,rfl,h12,hx2⟩; have hX2:=hX1.trans hx2
   have hB2:=hB1.keep hx2
   obtain ⟨n12,a12,l12,c12,a12',l12',c12',rfl⟩:=h12.shape
   refine hK.out _ _ (hX2) (fun hHeld=>?_)
   clear hK K
   (try go_frame)
   refine ht 18 (h:=(ht 19 (h:=(ht 20 (h:=?_)))))
   (try go_frame)
   refine hst 22 (h:=fun K hK=>?_)
   obtain ⟨d0,d1,d2,d3,d4,d5⟩:=hB2.facts
   have hp:=hB2.put (neg:=n12) (no_int a12 l12 c12) (no_int a12' l12' c12')
   have hXs:=hX2.own hp.ext (fun k e=>by have:=hBl1; omega)
   have hps:=hp.rat h12
   have hpb:=hp.box
   go_simp
   refine hK.out _ _ (hXs) (fun hHeld=>?_)
   clear hK K
   (try go_frame)
   refine ht 23 (h:=?_)
   (try go_frame)
   refine wpAnyH_done (by kernel_rfl) ?_ _
   go_wp2
   go_meet
   exact ⟨_,_,_,_,_,_,_,_,rfl,hpb,hps,hXs⟩
 case rest =>
  obtain ⟨ib,n1,a1,l1,k1,a1',l1',k1',rfl,hbx,hqr,hx⟩:=hcut
  obtain ⟨x0,x1,x2,-⟩:=hbx.facts
  have hrb:=HX.out.2.keep hx
  obtain ⟨y0,y1,y2,y3,y4,y5⟩:=hrb.facts
  have hp:=hrb.put (neg:=n1) (no_int a1 l1 k1) (no_int a1' l1' k1')
  have HP:=bH (bI hp.box (bI (hp.rat hqr) ((HX.out.1.trans hx).own hp.ext (fun k e=>by omega))))
  clear hp hrb hqr hbx hx
  go_wp2
  generalize ((wc.setCell ⟨r,0,none⟩ (.bool n1)).setCell ⟨r,1,none⟩ (.slice a1 l1 k1)).setCell ⟨r,2,none⟩ (.slice a1' l1' k1')=w9 at *
  obtain ⟨z0,z1,z2,_⟩:=HP.out.1.facts
  exact bodyPost_ret (v:=.agg #[.bool n1,.slice a1 l1 k1,.slice a1' l1' k1']) (by simp [results,Tryz.results183,go_sem,z0,z1,z2]) rfl ⟨_,rfl,HP.out.2⟩
section
variable {acc:Nat->Bool} {key:Nat->Rat} {b:Nat->Nat}
theorem bestTo_none:∀ {m:Nat},bestTo acc key b m=none->∀ k,k<m->acc k=false
 | 0,_,k,hk=>absurd hk (Nat.not_lt_zero k)
 | m+1,h,k,hk=>by
  unfold bestTo at h
  split at h
  ·exfalso
   cases hb:bestTo acc key b m with
   | none=>rw [hb] at h; cases h
   | some j =>
    rw [hb] at h
    unfold pickB at h
    simp only at h
    split at h <;> cases h
  ·rename_i ha
   by_cases e:k=m
   ·rw [e]; simpa using ha
   ·exact bestTo_none h k (by omega)
def Better (key:Nat->Rat) (b:Nat->Nat) (j k:Nat):Prop:=key j<key k∨(key j=key k/\b j<=b k)
theorem Better.refl (j:Nat):Better key b j j:=.inr ⟨rfl,Nat.le_refl _⟩
theorem Better.trans {i j k:Nat} (h:Better key b i j) (h':Better key b j k):Better key b i k:=by
 unfold Better at *
 rcases h with h | ⟨h,h1⟩ <;> rcases h' with h' | ⟨h',h2⟩
 ·exact .inl (by grind)
 ·exact .inl (by grind)
 ·exact .inl (by grind)
 ·exact .inr ⟨by grind,by omega⟩
theorem pickB_better {k j j':Nat} (h:pickB key b k (some j)=some j'):Better key b j' k/\Better key b j' j:=by
 unfold pickB at h
 simp only at h
 split at h
 ·rename_i hc
  cases h
  refine ⟨Better.refl _,?_⟩
  rcases hc with hc | ⟨hc,hl⟩
  ·have:=(sign_lt (key k - key j)).1 hc
   exact .inl (by grind)
  ·have:=(sign_zero (key k - key j)).1 hc
   exact .inr ⟨by grind,by omega⟩
 ·rename_i hc
  cases h
  refine ⟨?_,Better.refl _⟩
  have h1:¬ (key k - key j<0):=fun h=>hc (.inl ((sign_lt _).2 h))
  by_cases h2:key k - key j=0
  ·have h3:¬ b k<b j:=fun h=>hc (.inr ⟨(sign_zero _).2 h2,h⟩)
   exact .inr ⟨by grind,by omega⟩
  ·exact .inl (by grind)
theorem bestTo_least:∀ {m j:Nat},bestTo acc key b m=some j->∀ k,k<m->acc k=true->Better key b j k
 | 0,_,h,_,_,_=>by cases h
 | m+1,j,h,k,hk,ha=>by
  unfold bestTo at h
  split at h
  ·rename_i hm
   cases hb:bestTo acc key b m with
   | none =>
    rw [hb] at h
    have:j=m:=by cases h; rfl
    by_cases e:k=m
    ·rw [this,e]; exact Better.refl _
    ·have:=bestTo_none hb k (by omega)
     rw [ha] at this; cases this
   | some j0 =>
    rw [hb] at h
    obtain ⟨p1,p2⟩:=pickB_better h
    by_cases e:k=m
    ·rw [e]; exact p1
    ·exact p2.trans (bestTo_least hb k (by omega) ha)
  ·rename_i hm
   by_cases e:k=m
   ·rw [e] at ha; rw [ha] at hm; exact absurd rfl hm
   ·exact bestTo_least h k (by omega) ha
end
def zc (D:Tb):Tb:={ D with d:=fun _=>0,z:=0 }
theorem zc_wf {N:Nat} {D:Tb} (h:Wf N D):Wf N (zc D):=⟨h.dom,h.row,h.rhs,h.unit,fun _ _=>rfl⟩
theorem zc_piv (D:Tb) (v u:Nat):zc (pivT D v u)=pivT (zc D) v u:=by
 unfold zc pivT
 congr 1
 ·funext t
  show (0:Rat)=0 - 0*(D.M v t / D.M v u)
  grind
 ·show (0:Rat)=0+0*(D.b v / D.M v u)
  grind
section
variable {N:Nat} {T:TabF} {D:Tb} {i c:Nat}
theorem lt_irr {q:Rat} (h:q<q):False:=by grind
theorem Rep.dfirst (h:Rep N T D) (h1:bestTo (fun k=>decide ((T.be k).num.sign<0)) (fun _=>0) T.ba T.m=some i):i<T.m/\T.be i<0/\∀ v,D.B v=true->D.b v<0->T.ba i<=v:=by
 obtain ⟨hi,hai⟩:=bestTo_lt h1
 refine ⟨hi,(sign_lt _).1 (of_decide_eq_true hai),fun v hv hn=>?_⟩
 obtain ⟨k,hk,rfl⟩:=h.bas v hv
 rw [h.be k hk] at hn
 rcases bestTo_least h1 k hk (decide_eq_true ((sign_lt _).2 hn)) with h2 | h2
 ·exact (lt_irr h2).elim
 ·exact h2.2
theorem Rep.dstep (h:Rep N T D) (h1:bestTo (fun k=>decide ((T.be k).num.sign<0)) (fun _=>0) T.ba T.m=some i) (h2:bestTo (fun k=>decide ((T.al i k).num.sign<0)) (fun k=>T.d k / -(T.al i k)) T.fr T.n=some c):c<T.n/\T.al i c≠0/\DStep N D (T.ba i) (T.fr c):=by
 obtain ⟨hi,hbe,hfirst⟩:=h.dfirst h1
 obtain ⟨hc,hac⟩:=bestTo_lt h2
 have hal:T.al i c<0:=(sign_lt _).1 (of_decide_eq_true hac)
 refine ⟨hc,fun e=>by rw [e] at hal; exact lt_irr hal,h.ba i hi,by rw [h.be i hi]; exact hbe,hfirst,h.fr c hc,h.free c hc,by rw [h.al i c hi hc]; exact hal,fun t ht hb hn=>?_⟩
 obtain ⟨j,hj,rfl⟩:=h.frs t ht hb
 rw [h.al i j hi hj] at hn ⊢
 rw [h.al i c hi hc,h.d c hc,h.d j hj]
 exact bestTo_least h2 j hj (decide_eq_true ((sign_lt _).2 hn))
theorem Rep.dstep0 (h:Rep N T D) (h1:bestTo (fun k=>decide ((T.be k).num.sign<0)) (fun _=>0) T.ba T.m=some i) (h2:bestTo (fun k=>decide ((T.al i k).num.sign<0)) (fun _=>0) T.fr T.n=some c):c<T.n/\T.al i c≠0/\DStep N (zc D) (T.ba i) (T.fr c):=by
 obtain ⟨hi,hbe,hfirst⟩:=h.dfirst h1
 obtain ⟨hc,hac⟩:=bestTo_lt h2
 have hal:T.al i c<0:=(sign_lt _).1 (of_decide_eq_true hac)
 have hm:D.M (T.ba i) (T.fr c)<0:=by rw [h.al i c hi hc]; exact hal
 refine ⟨hc,fun e=>by rw [e] at hal; exact lt_irr hal,h.ba i hi,(by show D.b (T.ba i)<0; rw [h.be i hi]; exact hbe),hfirst,h.fr c hc,h.free c hc,hm,fun t ht hb hn=>?_⟩
 obtain ⟨j,hj,rfl⟩:=h.frs t ht hb
 have hn':D.M (T.ba i) (T.fr j)<0:=hn
 rw [h.al i j hi hj] at hn'
 refine .inr ⟨?_,?_⟩
 ·show (0:Rat) / -D.M (T.ba i) (T.fr c)=0 / -D.M (T.ba i) (T.fr j)
  grind
 ·rcases bestTo_least h2 j hj (decide_eq_true ((sign_lt _).2 hn')) with h3 | h3
  ·exact (lt_irr h3).elim
  ·exact h3.2
theorem Rep.pstep (h:Rep N T D) (h1:bestTo (fun k=>decide ((T.d k).num.sign<0)) (fun _=>0) T.fr T.n=some c) (h2:bestTo (fun k=>decide (0<(T.al k c).num.sign)) (fun k=>T.be k / T.al k c) T.ba T.m=some i):c<T.n/\i<T.m/\T.al i c≠0/\PStep N D (T.ba i) (T.fr c):=by
 obtain ⟨hc,hac⟩:=bestTo_lt h1
 obtain ⟨hi,hai⟩:=bestTo_lt h2
 have hd:T.d c<0:=(sign_lt _).1 (of_decide_eq_true hac)
 have hal:0<T.al i c:=(sign_gt _).1 (of_decide_eq_true hai)
 refine ⟨hc,hi,fun e=>by rw [e] at hal; exact lt_irr hal,h.fr c hc,h.free c hc,by rw [h.d c hc]; exact hd,fun t ht hb hn=>?_,h.ba i hi,by rw [h.al i c hi hc]; exact hal,fun v hv hp=>?_⟩
 ·obtain ⟨j,hj,rfl⟩:=h.frs t ht hb
  rw [h.d j hj] at hn
  rcases bestTo_least h1 j hj (decide_eq_true ((sign_lt _).2 hn)) with h3 | h3
  ·exact (lt_irr h3).elim
  ·exact h3.2
 ·obtain ⟨k,hk,rfl⟩:=h.bas v hv
  rw [h.al k c hk hc] at hp ⊢
  rw [h.al i c hi hc,h.be i hi,h.be k hk]
  exact bestTo_least h2 k hk (decide_eq_true ((sign_gt _).2 hp))
end
inductive SRun (St:Tb->Nat->Nat->Prop) (D0:Tb):Nat->Tb->Prop
 | zero:SRun St D0 0 D0
 | next {k:Nat} {D:Tb} {v u:Nat}:SRun St D0 k D->St D v u->SRun St D0 (k+1) (pivT D v u)
theorem SRun.chain {St:Tb->Nat->Nat->Prop} {D0:Tb} {k:Nat} {D:Tb} (h:SRun St D0 k D):∃ (c:Nat->Tb) (pv pu:Nat->Nat),c 0=D0/\c k=D/\(∀ i,i<k->c (i+1)=pivT (c i) (pv i) (pu i))/\∀ i,i<k->St (c i) (pv i) (pu i):=by
 induction h with
 | zero=>exact ⟨fun _=>D0,fun _=>0,fun _=>0,rfl,rfl,fun i hi=>absurd hi (Nat.not_lt_zero i),fun i hi=>absurd hi (Nat.not_lt_zero i)⟩
 | @next k D v u _ hs ih =>
  obtain ⟨c,pv,pu,h0,hk,hn,hst⟩:=ih
  refine ⟨fun i=>if i<=k then c i else pivT D v u,fun i=>if i<k then pv i else v,fun i=>if i<k then pu i else u,?_,?_,fun i hi=>?_,fun i hi=>?_⟩
  ·show (if 0<=k then c 0 else _)=D0
   rw [if_pos (Nat.zero_le k),h0]
  ·show (if k+1<=k then _ else pivT D v u)=pivT D v u
   rw [if_neg (by omega)]
  ·show (if i+1<=k then c (i+1) else pivT D v u)=pivT (if i<=k then c i else _) (if i<k then pv i else v) (if i<k then pu i else u)
   by_cases e:i<k
   ·rw [if_pos (by omega),if_pos (by omega),if_pos e,if_pos e]; exact hn i e
   ·have:i=k:=by omega
    subst this
    rw [if_neg (by omega),if_pos (Nat.le_refl i),if_neg e,if_neg e,hk]
  ·show St (if i<=k then c i else _) (if i<k then pv i else v) (if i<k then pu i else u)
   by_cases e:i<k
   ·rw [if_pos (by omega),if_pos e,if_pos e]; exact hst i e
   ·have:i=k:=by omega
    subst this
    rw [if_pos (Nat.le_refl i),if_neg e,if_neg e,hk]; exact hs
section
variable {N k:Nat} {D0 D:Tb}
theorem SRun.shortD (h:SRun (DStep N) D0 k D) (hw:Wf N D0) (hd:∀ t,t<N->0<=D0.d t):k<2 ^ N/\Equ N D0 D/\Wf N D/\∀ t,t<N->0<=D.d t:=by
 obtain ⟨c,pv,pu,h0,hk,hn,hst⟩:=h.chain
 subst h0; subst hk
 have hc:=Chain.ofD hw hn hst
 exact ⟨Go.Proofs.YtbgienfcmdgaaaaGreat.shortD hc hst hd,hc.equ k (Nat.le_refl k),hc.wfs k (Nat.le_refl k),fun t ht=>keepD hc hst hd k (Nat.le_refl k) t ht⟩
theorem SRun.shortP (h:SRun (PStep N) D0 k D) (hw:Wf N D0) (hb:∀ w,0<=D0.b w):k<2 ^ N/\Equ N D0 D/\Wf N D/\∀ w,0<=D.b w:=by
 obtain ⟨c,pv,pu,h0,hk,hn,hst⟩:=h.chain
 subst h0; subst hk
 have hc:=Chain.ofP hw hn hst
 exact ⟨Go.Proofs.YtbgienfcmdgaaaaGreat.shortP hc hst hb,hc.equ k (Nat.le_refl k),hc.wfs k (Nat.le_refl k),fun w=>keepP hc hst hb k (Nat.le_refl k) w⟩
theorem SRun.shortZ (h:SRun (fun D v u=>DStep N (zc D) v u) D0 k D) (hw:Wf N D0):k<2 ^ N/\Equ N D0 D/\Wf N D:=by
 obtain ⟨c,pv,pu,h0,hk,hn,hst⟩:=h.chain
 subst h0; subst hk
 have hc:=Chain.ofD (c:=fun i=>zc (c i)) (zc_wf hw) (fun i hi=>by rw [hn i hi,zc_piv]) hst
 have hs:=Go.Proofs.YtbgienfcmdgaaaaGreat.shortD hc hst (fun t _=>Rat.le_refl)
 have hx:Chain N c pv pu k:=⟨hw,hn,fun i hi=>(hst i hi).basic,fun i hi=>(hst i hi).free,fun i hi=>(hst i hi).uN,fun i hi=>hc.ne i hi⟩
 exact ⟨hs,hx.equ k (Nat.le_refl k),hx.wfs k (Nat.le_refl k)⟩
end
open Go.RowKit Go.MapKept Go.Lib
theorem rats_empty (w:World) (ao:Option Addr) (c:Nat) (fv:Value):Calls Tryz.prog 170 #[.slice ao 0 c,fv] w fun r w'=>r=.returned (.bool false)/\w'=w:=by
 have h:∀ W,Calls Tryz.prog 198 #[.slice ao 0 c,fv] W fun r w'=>r=.returned (.int .i64 (-1))/\w'=W:=fun W=>by
  go_enter Tryz.func198,Tryz.ntmps198
  go_wp2_with fail
  go_loopg [8] 0 (fun gg s8 wr=>s8=.int .i64 0/\wr=W)
  case atStart=>exact ⟨rfl,rfl⟩
  case round =>
   obtain ⟨rfl,rfl⟩:=hrel
   go_wp2
   go_ret
   exact ⟨rfl,rfl⟩
 have H:=bH h
 clear h
 go_enter Tryz.func170,Tryz.ntmps170
 go_wp2_with (go_at_call 198; refine (H.out _).mono ?_; rintro e w' ⟨rfl,rfl⟩)
 go_ret
 exact ⟨rfl,rfl⟩
def hasNeg (m:Nat) (f:Nat->Rat):Bool:=(List.range m).any fun j=>decide (f j<0)
theorem hasNeg_iff {m:Nat} {f:Nat->Rat}:hasNeg m f=false↔∀ j,j<m->0<=f j:=by
 unfold hasNeg
 rw [List.any_eq_false]
 constructor
 ·intro h j hj
  have:=h j (List.mem_range.2 hj)
  exact Rat.not_lt.1 (by simpa using this)
 ·intro h j hj
  have:=Rat.not_lt.2 (h j (List.mem_range.1 hj))
  simpa using this
theorem hasneg_any (w:World) (base:Nat) (v:Value) (m s:Nat) (f:Nat->Rat) (h:RatAt w base v m f) (hz:∀ j,j<m->Sz (f j) s) (hs1:1<=s) (hs:s<=268435455) (hm:m<=1000000) :
  Calls Tryz.prog 170 #[v,.func (.func 171) #[] #[]] w (BoolPost w (hasNeg m f)):=by
 rcases h with ⟨rfl,rfl⟩ | ⟨g,cap,rfl,_,_,_,hr,_⟩
 ·refine (rats_empty w none 0 _).mono ?_
  rintro r w' ⟨rfl,rfl⟩
  exact ⟨ret_bool rfl,Ext.refl _ _⟩
 have hex:∀ j,∃ x:RatC,(j<m->∀ i u,x.cells[i]?=some u->w.cell? ⟨g,0+j*3+i,none⟩=some u)/\IsRat w x.v (if j<m then f j else 0):=fun j=>by
  by_cases hj:j<m
  ·obtain ⟨ng,a1,m1,c1,a2,m2,c2,e0,e1,e2,hq⟩:=hr.cells j hj
   refine ⟨⟨ng,a1,m1,c1,a2,m2,c2⟩,fun _ i u hi=>?_,by rw [if_pos hj]; exact hq⟩
   rw [Nat.zero_add]
   match i,hi with
   | 0,hi=>cases hi; exact e0
   | 1,hi=>cases hi; exact e1
   | 2,hi=>cases hi; exact e2
   | i+3,hi=>cases hi
  ·exact ⟨⟨false,none,0,0,none,0,0⟩,fun h=>absurd h hj,by rw [if_neg hj]; exact IsRat.zero _⟩
 obtain ⟨x,hx⟩:=Classical.axiomOfChoice hex
 have hq:=AnyQ.slices_ContainsFunc Tryz.laysRat8 3 Tryz.isAgg31 Tryz.sizeOf31 (fun j=>(x j).cells) (fun _=>rfl) (fun j=>decide ((if j<m then f j else 0:Rat)<0)) 171 #[] (enters_of Tryz.func171 (by kernel_rfl) rfl) g 0 m cap (List.range m) w
  (fun W j hW=>by
   have hxx:=Below.ext hW
   have hzj:Sz (if j<m then f j else 0) s:=by
    split
    ·next h=>exact hz j h
    ·exact Sz.zero.mono hs1
   refine (dual1_any W _ _ s ((hx j).2.keep hxx) hzj hs).mono ?_
   rintro e w' ⟨rfl,hx'⟩
   refine ⟨?_,(hxx.trans hx').below⟩
   congr 2
   exact decide_eq_decide.2 (sign_lt _))
  (by simp) (by omega) hr.lt (fun j hj i u hi=>by
   rw [List.length_range] at hj
   rw [getElem!_pos _ j (by simpa using hj),List.getElem_range] at hi
   exact (hx j).1 hj i u hi)
 refine hq.mono ?_
 rintro r w' ⟨rfl,hb⟩
 refine ⟨?_,Below.ext hb⟩
 have ht:List.take m (List.range m)=List.range m:=by rw [List.take_of_length_le (by simp)]
 rw [ht]
 congr 2
 unfold hasNeg
 rw [Bool.eq_iff_iff,List.any_eq_true,List.any_eq_true]
 constructor
 ·rintro ⟨j,hj,h⟩; rw [if_pos (List.mem_range.1 hj)] at h; exact ⟨j,hj,h⟩
 ·rintro ⟨j,hj,h⟩; exact ⟨j,hj,by rw [if_pos (List.mem_range.1 hj)]; exact h⟩
def dkey (good:Bool) (T:TabF) (i:Nat) (c:Nat):Rat:=if good then T.d c / -(T.al i c) else 0
def dualI (T:TabF):Option Nat:=bestTo (fun k=>decide ((T.be k).num.sign<0)) (fun _=>0) T.ba T.m
def dualC (good:Bool) (T:TabF) (i:Nat):Option Nat:=bestTo (fun k=>decide ((T.al i k).num.sign<0)) (dkey good T i) T.fr T.n
def primC (T:TabF):Option Nat:=bestTo (fun k=>decide ((T.d k).num.sign<0)) (fun _=>0) T.fr T.n
def primI (T:TabF) (c:Nat):Option Nat:=bestTo (fun k=>decide (0<(T.al k c).num.sign)) (fun k=>T.be k / T.al k c) T.ba T.m
def itF (f:TabF->Option TabF):Nat->TabF->Option TabF
 | 0,T=>some T
 | k+1,T=>(itF f k T).bind f
def Halts (f:TabF->Option TabF) (T T':TabF):Prop:=(∃ k,itF f k T=some T')/\f T'=none
def dstepF (good:Bool) (T:TabF):Option TabF:=(dualI T).bind fun i=>(dualC good T i).bind fun c=>some (pivF T i c)
def pstepF (T:TabF):Option TabF:=(primC T).bind fun c=>(primI T c).bind fun i=>some (pivF T i c)
structure DuSt (N:Nat) (good:Bool) (T0:TabF) (D0:Tb) (k:Nat) (T:TabF) (D:Tb):Prop where
 its:itF (dstepF good) k T0=some T
 rep:Rep N T D
 run:SRun (fun D v u=>DStep N (if good then D else zc D) v u) D0 k D
 wf0:Wf N D0
 cost:good=true->∀ t,t<N->0<=D0.d t
section
variable {N k:Nat} {good:Bool} {D0 D:Tb} {T0 T:TabF}
theorem DuSt.start (h:Rep N T D) (hg:good=true->∀ j,j<T.n->0<=T.d j):DuSt N good T D 0 T D:=⟨rfl,h,.zero,h.wf,fun e t ht=>by
 cases hb:D.B t with
 | true=>rw [h.wf.cost t hb]; exact Rat.le_refl
 | false =>
  obtain ⟨j,hj,rfl⟩:=h.frs t ht hb
  rw [h.d j hj]; exact hg e j hj⟩
theorem DuSt.short (h:DuSt N good T0 D0 k T D):k<2 ^ N/\Equ N D0 D/\Wf N D/\(good=true->∀ t,t<N->0<=D.d t):=by
 obtain ⟨hits,hr,hrun,hw,hc⟩:=h
 cases good with
 | true =>
  have h1:SRun (DStep N) D0 k D:=hrun
  obtain ⟨g1,g2,g3,g4⟩:=h1.shortD hw (hc rfl)
  exact ⟨g1,g2,g3,fun _=>g4⟩
 | false =>
  have h1:SRun (fun D v u=>DStep N (zc D) v u) D0 k D:=hrun
  obtain ⟨g1,g2,g3⟩:=h1.shortZ hw
  exact ⟨g1,g2,g3,fun e=>(by cases e)⟩
theorem DuSt.next (h:DuSt N good T0 D0 k T D) {i c:Nat} (h1:dualI T=some i) (h2:dualC good T i=some c):i<T.m/\c<T.n/\T.al i c≠0/\DuSt N good T0 D0 (k+1) (pivF T i c) (pivT D (T.ba i) (T.fr c)):=by
 have hi:=(h.rep.dfirst h1).1
 have nit:itF (dstepF good) (k+1) T0=some (pivF T i c):=by
  show (itF (dstepF good) k T0).bind (dstepF good)=_
  rw [h.its]
  show (dualI T).bind _=_
  rw [h1]
  show (dualC good T i).bind _=_
  rw [h2]; rfl
 obtain ⟨hits,hr,hrun,hw,hc⟩:=h
 cases good with
 | true =>
  obtain ⟨g1,g2,g3⟩:=hr.dstep h1 h2
  exact ⟨hi,g1,g2,nit,hr.piv hi g1 g2,hrun.next g3,hw,hc⟩
 | false =>
  obtain ⟨g1,g2,g3⟩:=hr.dstep0 h1 h2
  exact ⟨hi,g1,g2,nit,hr.piv hi g1 g2,hrun.next g3,hw,hc⟩
theorem DuSt.halt1 (h:DuSt N good T0 D0 k T D) (h1:dualI T=none):Halts (dstepF good) T0 T:=⟨⟨k,h.its⟩,by unfold dstepF; rw [h1]; rfl⟩
theorem DuSt.halt2 (h:DuSt N good T0 D0 k T D) {i:Nat} (h1:dualI T=some i) (h2:dualC good T i=none):Halts (dstepF good) T0 T:=⟨⟨k,h.its⟩,by
 unfold dstepF; rw [h1]
 show (dualC good T i).bind _=none
 rw [h2]; rfl⟩
theorem dualI_none (h:dualI T=none):∀ k,k<T.m->0<=T.be k:=fun k hk=>by
 have:=of_decide_eq_false (bestTo_none h k hk)
 exact Rat.not_lt.1 fun hl=>this ((sign_lt _).2 hl)
theorem dualI_some {i:Nat} (h:dualI T=some i):i<T.m/\T.be i<0:=⟨(bestTo_lt h).1,(sign_lt _).1 (of_decide_eq_true (bestTo_lt h).2)⟩
theorem dualC_none {i:Nat} (h:dualC good T i=none):∀ c,c<T.n->0<=T.al i c:=fun c hc=>by
 have:=of_decide_eq_false (bestTo_none h c hc)
 exact Rat.not_lt.1 fun hl=>this ((sign_lt _).2 hl)
structure PrSt (N:Nat) (T0:TabF) (D0:Tb) (k:Nat) (T:TabF) (D:Tb):Prop where
 its:itF pstepF k T0=some T
 rep:Rep N T D
 run:SRun (PStep N) D0 k D
 wf0:Wf N D0
 rhs:∀ v,0<=D0.b v
theorem PrSt.start (h:Rep N T D) (hb:∀ k,k<T.m->0<=T.be k):PrSt N T D 0 T D:=⟨rfl,h,.zero,h.wf,fun v=>by
 cases hB:D.B v with
 | true =>
  obtain ⟨k,hk,rfl⟩:=h.bas v hB
  rw [h.be k hk]; exact hb k hk
 | false=>rw [h.wf.rhs v hB]; exact Rat.le_refl⟩
theorem PrSt.short (h:PrSt N T0 D0 k T D):k<2 ^ N/\Equ N D0 D/\Wf N D/\∀ v,0<=D.b v:=h.run.shortP h.wf0 h.rhs
theorem PrSt.next (h:PrSt N T0 D0 k T D) {i c:Nat} (h1:primC T=some c) (h2:primI T c=some i):i<T.m/\c<T.n/\T.al i c≠0/\PrSt N T0 D0 (k+1) (pivF T i c) (pivT D (T.ba i) (T.fr c)):=by
 obtain ⟨hits,hr,hrun,hw,hb⟩:=h
 obtain ⟨g1,g2,g3,g4⟩:=hr.pstep h1 h2
 refine ⟨g2,g1,g3,?_,hr.piv g2 g1 g3,hrun.next g4,hw,hb⟩
 show (itF pstepF k T0).bind pstepF=_
 rw [hits]
 show (primC T).bind _=_
 rw [h1]
 show (primI T c).bind _=_
 rw [h2]; rfl
theorem PrSt.halt1 (h:PrSt N T0 D0 k T D) (h1:primC T=none):Halts pstepF T0 T:=⟨⟨k,h.its⟩,by unfold pstepF; rw [h1]; rfl⟩
theorem PrSt.halt2 (h:PrSt N T0 D0 k T D) {c:Nat} (h1:primC T=some c) (h2:primI T c=none):Halts pstepF T0 T:=⟨⟨k,h.its⟩,by
 unfold pstepF; rw [h1]
 show (primI T c).bind _=none
 rw [h2]; rfl⟩
theorem primC_none (h:primC T=none):∀ c,c<T.n->0<=T.d c:=fun c hc=>by
 have:=of_decide_eq_false (bestTo_none h c hc)
 exact Rat.not_lt.1 fun hl=>this ((sign_lt _).2 hl)
theorem primC_some {c:Nat} (h:primC T=some c):c<T.n/\T.d c<0:=⟨(bestTo_lt h).1,(sign_lt _).1 (of_decide_eq_true (bestTo_lt h).2)⟩
theorem primI_none {c:Nat} (h:primI T c=none):∀ k,k<T.m->T.al k c<=0:=fun k hk=>by
 have:=of_decide_eq_false (bestTo_none h k hk)
 exact Rat.not_lt.1 fun hl=>this ((sign_gt _).2 hl)
end
end Go.Proofs.YtbgienfcmdgaaaaGreat
