/-
  Texts of the proof, part 5. Conditions: each lemma names its own.
-/
import Derived.Test.YtbgienfcmdgaaaaGreatY3
import Derived.Test.YtbgienfcmdgaaaaGreatY4
import Derived.Shelf.SlicesQ.IndexFunc
import Derived.Shelf.SlGeneric
import Derived.Ground.SlgfProg
import Derived.Shelf.Small.Bits
import Derived.Shelf.GgClosure.StringsIndexFunc
import Derived.Ground.GgwProg
import Derived.Shelf.GgClosure.StringsIndexFuncTop
import Derived.Shelf.Strings.FuncGrows
import Derived.Shelf.Slices.Turned
import Derived.Ground.Names2Prog
import Derived.Shelf.Slices.Clone
import Derived.Ground.SlgfProg
import Derived.Shelf.SlicesE.IndexFunc
import Derived.Test.YtbgienfcmdgaaaaGreatProg
import Derived.Laws.RangeAny
import Derived.Maps.RangeWalk
set_option linter.unusedVariables false
set_option linter.unusedSimpArgs false
set_option maxRecDepth 100000
set_option maxHeartbeats 16000000
namespace Go.Proofs.YtbgienfcmdgaaaaGreat
open Go.RowKit Go.MapKept
open Go.ChangeMaps (setBlock)
theorem reducedN_any (w:World) (v v':Value) (z:Int) (y L:Nat) (h:Rint w v z L) (h':Rint w v' (-(y:Int)) L) (hy:0<y) (hL:L<=33554432) :
  Calls Tryz.prog 119 #[v,v'] w (RatPost w (mkRat (-z) y)):=by
 have HSg:=bH (fun W (hW:XF w W)=>isign_any W v' _ L (h'.keep hW) (by omega))
 rw [show (-(y:Int)).sign = -1 from Int.sign_eq_neg_one_of_neg (by omega)] at HSg
 have HN1:=bH (fun W (hW:XF w W)=>ineg_any W v z L (h.keep hW) (by omega))
 have HN2:=bH (fun W (hW:XF w W)=>ineg_any W v' _ L (h'.keep hW) (by omega))
 rw [Int.neg_neg] at HN2
 obtain ⟨hq1,hq2⟩:=red_num (z:=-z) hy
 have hzl:(dg (-z).natAbs).length<=L:=by rw [Int.natAbs_neg]; exact h.len
 have hyl:(dg y).length<=L:=by have:=h'.len; rwa [Int.natAbs_neg,Int.natAbs_natCast] at this
 have hg:0<Nat.gcd (-z).natAbs y:=Nat.gcd_pos_of_pos_right _ hy
 have hgl:(dg (Nat.gcd (-z).natAbs y)).length<=L:=Nat.le_trans (dg_mono (Nat.gcd_le_right _ hy)) hyl
 have HQ1:=bH (fun W u (hu0:IsInt W u (-z)) ao n c (hu:IsNat W (.slice ao n c) (Nat.gcd (-z).natAbs y))=>quo_any W u (.agg #[.bool false,.slice ao n c]) (-z) ((Nat.gcd (-z).natAbs y:Nat):Int) L (hu0.reads hzl) ⟨false,_,_,rfl,hu,hgl,by rw [vl_dg]; rfl⟩ (by omega) hL)
 have HQ2:=bH (fun W u (hu0:IsInt W u (y:Int)) ao n c (hu:IsNat W (.slice ao n c) (Nat.gcd (-z).natAbs y))=>quo_any W u (.agg #[.bool false,.slice ao n c]) y ((Nat.gcd (-z).natAbs y:Nat):Int) L (hu0.reads (by rw [Int.natAbs_natCast]; exact hyl)) ⟨false,_,_,rfl,hu,hgl,by rw [vl_dg]; rfl⟩ (by omega) hL)
 unfold QuoPost at HQ1 HQ2
 simp only [hq1,hq2] at HQ1 HQ2
 have hdl:(dg (mkRat (-z) y).den).length<=L:=by
  have:(mkRat (-z) y).den<=y:=by
   have e:=hq2
   rw [tdiv_nat] at e
   have:=Nat.div_le_self y (Nat.gcd (-z).natAbs y)
   omega
  exact Nat.le_trans (dg_mono this) hyl
 have HC:=bH (fun W u u' (h1:IsNat W u (mkRat (-z) y).den) (h2:IsNat W u' 1)=>cmp_any W u u' _ _ h1 h2 (by omega) (Nat.le_trans (dg_two (n:=1) (by decide)).1 (by decide)))
 simp only [vl_dg] at HC
 have hF:∀ W,Calls Tryz.prog 160 #[.int .u64 1] W (NatPost W 1):=fun W=>from_any W 1 (by decide)
 have HF:=bH hF
 clear hF
 obtain ⟨neg,ao,m,c,l,rfl,-,-,-⟩:=h.open
 obtain ⟨neg',ao',m',c',l',rfl,-,-,-⟩:=h'.open
 have HG:=bH (fun W u u' (h1:IsNat W u (-z).natAbs) (h2:IsNat W u' y)=>gcd_any W u u' _ _ h1 h2 (by omega) (by omega))
 simp only [vl_dg] at HG
 clear hq1 hq2 hg hgl hdl h h' hzl hyl
 generalize Nat.gcd (-z).natAbs y=g at *
 generalize mkRat (-z) y=q at *
 go_enter Tryz.func119,Tryz.ntmps119
 go_upto_region 0 with fail
 go_cut [2,3,4] (fun v1 v2 v3 wx=>∃ b b' r,v1=.pointer (some ⟨b,0,none⟩)/\v2=.pointer (some ⟨b',0,none⟩)/\v3=.pointer (some ⟨r,0,none⟩)/\BoxI wx b neg (.slice ao m c)/\BoxI wx b' neg' (.slice ao' m' c')/\BoxR wx r false (.slice none 0 0) (.slice none 0 0)/\w.heap.size<=b/\b<b'/\b'<r/\XF w wx)
 case first =>
  go_wp2
  go_meet
  exact ⟨_,_,_,rfl,rfl,rfl,((boxI_new rfl neg ao m c).alloc _).alloc _,(boxI_new (by simp) neg' ao' m' c').alloc _,boxR_new (by simp) false none 0 0 none 0 0,(by omega),(by simp),(by simp),(((Ext.refl _ w).alloc _).alloc _).alloc _⟩
 case rest =>
  obtain ⟨b,b',r,rfl,rfl,rfl,hb,hb',hrb,hlb,hbb,hbr,hx⟩:=hcut
  have hle:w.heap.size<=r:=by omega
  have hne:b≠b'/\b≠r/\b'≠r:=by omega
  obtain ⟨e0,e1,_⟩:=hb'.facts
  have HB:=bH (bI hb (bI hb' (bI hrb hx)))
  clear hb hb' hrb hx
  go_wp2_with fail
  refine (HSg.out _ HB.out.2.2.2).mono ?_
  rintro r1 w1 ⟨rfl,hx1⟩
  obtain ⟨x0,x1,_⟩:=(HB.out.1.ext hx1 id).facts
  obtain ⟨y0,y1,_⟩:=(HB.out.2.1.ext hx1 id).facts
  replace HN1:=bH (fun W (hW:XF w1 W)=>HN1.out W ((HB.out.2.2.2.trans hx1).trans hW))
  replace HN2:=bH (fun W (hW:XF w1 W)=>HN2.out W ((HB.out.2.2.2.trans hx1).trans hW))
  clear e0 e1
  go_upto_region 2 with fail
  replace x0:=cq x0
  replace x1:=cq x1
  replace y0:=cq y0
  replace y1:=cq y1
  refine lbegin 4 (XF w1) (by kernel_rfl) ((Ext.refl _ w1).drew) (fun hHeld=>?_)
  refine lt 0 (h:=(lt 2 (h:=?_)))
  (try go_frame)
  refine lst 1 (h:=fun K hK=>?_)
  (go_simp; go_at_call 120; (with_reducible refine (HN1.out _ hHeld).mono ?_); rintro q1 w11 ⟨v11,rfl,h11,hx11⟩; have hX1:=hHeld.trans hx11; obtain ⟨n11,a11,l11,c11,rfl⟩:=h11.shape)
  refine hK.out _ _ (hX1) (fun hHeld=>?_)
  clear hK K
  (try go_frame)
  refine lst 3 (h:=fun K hK=>?_)
  (go_simp; go_at_call 120; (with_reducible refine (HN2.out _ hX1).mono ?_); rintro q2 w12 ⟨v12,rfl,h12,hx12⟩; have hX2:=hX1.trans hx12; obtain ⟨n12,a12,l12,c12,rfl⟩:=h12.shape)
  refine hK.out _ _ (hX2) (fun hHeld=>?_)
  clear hK K
  (try go_frame)
  have hb2:=HB.out.1.ext (hx1.trans hX2) id
  have hb2':=HB.out.2.1.ext (hx1.trans hX2) id
  obtain ⟨d0,d1,d2,d3⟩:=hb2.facts
  obtain ⟨f0,f1,f2,f3⟩:=hb2'.facts
  refine ll 4 (h:=fun K hK=>?_)
  go_simp
  refine hK.out _ _ ?_
  clear hK K
  (try go_frame)
  refine ll 5 (h:=fun K hK=>?_)
  go_simp
  refine hK.out _ _ ?_
  clear hK K
  (try go_frame)
  refine ldone (by kernel_rfl) ?_ _
  have hp1:=hb2.put (neg:=n11) (no_int a11 l11 c11)
  have hp2:=(hb2'.ext hp1.ext (fun e=>hne.1 e.symm)).put (neg:=n12) (no_int a12 l12 c12)
  have hi1:=hp2.int (hp1.int (h11.keep hx12))
  have hi2:=hp2.int (hp1.int h12)
  have HZ:=bH (bI (hp1.box.ext hp2.ext hne.1) (bI hp2.box (bI (((HB.out.2.2.1.ext (hx1.trans hX2) id).ext hp1.ext (fun e=>hne.2.1 e.symm)).ext hp2.ext (fun e=>hne.2.2 e.symm)) (((HB.out.2.2.2.trans (hx1.trans hX2)).own hp1.ext (fun k e=>by omega)).own hp2.ext (fun k e=>by omega)))))
  have HI:=bH (bI hi1 hi2)
  clear hp1 hp2 hi1 hi2 hb2 hb2' d0 d1 d2 d3 f0 f1 f2 f3 h11 h12 hx11 hx12 hX1 hX2 hx1 x0 x1 y0 y1 hHeld HN1 HN2 HB
  go_upto_region 3 with fail
  generalize (((w12.setCell ⟨b,0,none⟩ (.bool n11)).setCell ⟨b,1,none⟩ (.slice a11 l11 c11)).setCell ⟨b',0,none⟩ (.bool n12)).setCell ⟨b',1,none⟩ (.slice a12 l12 c12)=w1z at *
  have hm1:IsNat w1z (.slice a11 l11 c11) (-z).natAbs:=by
   obtain ⟨m0,h1,h2⟩:=HI.out.1
   cases h1
   exact h2
  have hm2:IsNat w1z (.slice a12 l12 c12) y:=by
   obtain ⟨m0,h1,h2⟩:=HI.out.2
   cases h1
   rw [Int.natAbs_natCast] at h2
   exact h2
  have HX1:=bH (Ext.refl (fun _=>False) w1z)
  obtain ⟨c10,c11',_⟩:=HZ.out.1.facts
  obtain ⟨e10,e11,_⟩:=HZ.out.2.1.facts
  have HG1:=bH (HG.out w1z _ _ hm1 hm2)
  clear hm1 hm2
  go_wp2_with fail
  refine HG1.out.mono ?_
  rintro r2 w2 ⟨vg,rfl,hg2,hx2⟩
  obtain ⟨aog,cg,rfl⟩:=hg2.shape
  generalize (dg g).length=ng at *
  clear c10 c11' e10 e11 HG1
  have hbg:=boxI_new (W:=w2) rfl false aog ng cg
  have hx23:=(Ext.refl (fun _=>False) w2).alloc (.cells #[.bool false,.slice aog ng cg] 29)
  have hX3:=(HX1.out.trans hx2).trans hx23
  go_upto_region 4 with fail
  obtain ⟨bg,hbge⟩:∃ bg,w2.heap.size=bg:=⟨_,rfl⟩
  rw [hbge] at hbg ⊢
  generalize w2.alloc (.cells #[.bool false,.slice aog ng cg] 29)=w3 at *
  obtain ⟨c0,c1,_⟩:=(HZ.out.1.ext hX3 id).facts
  obtain ⟨g0,g1,_⟩:=hbg.facts
  have HQ13:=bH (HQ1.out w3 _ (HI.out.1.keep hX3) aog ng cg (hg2.keep hx23))
  have HX3:=bH (bI hX3 (bI hbg (hg2.keep hx23)))
  clear hg2 hx2 hX3 hbg hx23 hbge HX1
  go_wp2_with fail
  refine HQ13.out.mono ?_
  rintro r4 w4 ⟨vn,vs,rfl,hn4,hs4,hx4⟩
  obtain ⟨nn,aon,mn,cn,rfl⟩:=hn4.shape
  obtain ⟨ns,aos,ms,cs,rfl⟩:=hs4.shape
  have hX4:=HX3.out.1.trans hx4
  clear c0 c1 g0 g1
  go_upto_region 5 with fail
  obtain ⟨bn,hbne⟩:∃ bn,w4.heap.size=bn:=⟨_,rfl⟩
  have hbn:=(boxI_new (W:=w4) rfl nn aon mn cn).alloc (.cells #[.bool ns,.slice aos ms cs] 29)
  have hx45:=((Ext.refl (fun _=>False) w4).alloc (.cells #[.bool nn,.slice aon mn cn] 29)).alloc (.cells #[.bool ns,.slice aos ms cs] 29)
  rw [hbne] at hbn ⊢
  generalize (w4.alloc (.cells #[.bool nn,.slice aon mn cn] 29)).alloc (.cells #[.bool ns,.slice aos ms cs] 29)=w5 at *
  have hX5:=hX4.trans hx45
  obtain ⟨e0,e1,_⟩:=(HZ.out.2.1.ext hX5 id).facts
  obtain ⟨g0,g1,_⟩:=(HX3.out.2.1.ext (hx4.trans hx45) id).facts
  have HQ25:=bH (HQ2.out w5 _ (HI.out.2.keep hX5) aog ng cg (HX3.out.2.2.keep (hx4.trans hx45)))
  have HX5:=bH (bI hX5 (bI (hn4.keep hx45) hbn))
  clear hX4 hx4 hX5 hx45 hbn hn4 hs4 hbne
  go_wp2_with fail
  refine HQ25.out.mono ?_
  rintro r6 w6 ⟨vd,vt,rfl,hd6,ht6,hx6⟩
  obtain ⟨nd,aod,md,cd,rfl⟩:=hd6.shape
  obtain ⟨nt,aot,mt,ct,rfl⟩:=ht6.shape
  have hX6:=HX5.out.1.trans hx6
  clear e0 e1 g0 g1
  go_upto_region 6 with fail
  obtain ⟨bd,hbde⟩:∃ bd,w6.heap.size=bd:=⟨_,rfl⟩
  have hbd:=(boxI_new (W:=w6) rfl nd aod md cd).alloc (.cells #[.bool nt,.slice aot mt ct] 29)
  have hx67:=((Ext.refl (fun _=>False) w6).alloc (.cells #[.bool nd,.slice aod md cd] 29)).alloc (.cells #[.bool nt,.slice aot mt ct] 29)
  rw [hbde] at hbd ⊢
  generalize (w6.alloc (.cells #[.bool nd,.slice aod md cd] 29)).alloc (.cells #[.bool nt,.slice aot mt ct] 29)=w7 at *
  have hX7:=hX6.trans hx67
  have hnd:IsNat w7 (.slice aod md cd) q.den:=by
   obtain ⟨m0,h1,h2⟩:=hd6.keep hx67
   cases h1
   rw [Int.natAbs_natCast] at h2
   exact h2
  have hS:S1 bd (.slice aod md cd) w7:=hbd.facts.2.1
  have HX7:=bH (bI hX7 (bI (HX5.out.2.1.keep (hx6.trans hx67)) (bI (HX5.out.2.2.ext (hx6.trans hx67) id) (bI hbd hnd))))
  clear hX6 hx6 hX7 hx67 hbd hd6 ht6 hbde hnd
  go_region_held3 (S1 bd (.slice aod md cd))
   (repeat (first | (with_reducible assumption) | (with_reducible refine S1.drew ?_)))
   (first
    | (go_at_call 160; (with_reducible refine (HF.out _).mono ?_); rintro r8 w8 ⟨v8,rfl,h8,hx8⟩; have hx78:=(Ext.refl (fun _=>False) w7).drew.trans hx8; have hK8:S1 bd (.slice aod md cd) w8:=(HX7.out.2.2.2.1.ext hx78 id).facts.2.1; have hC8:=HC.out w8 _ _ (HX7.out.2.2.2.2.keep hx78) h8)
    | (go_at_call 162; (with_reducible refine hC8.mono ?_); rintro r9 w' ⟨rfl,hw⟩; obtain rfl:=hw.symm))
  have hX8:=HX7.out.1.trans hx78
  have hr8:=HZ.out.2.2.1.ext hX8 id
  obtain ⟨d0,d1,d2,d3,d4,d5⟩:=hr8.facts
  obtain ⟨c0,c1,_⟩:=(HX7.out.2.2.1.ext hx78 id).facts
  have hn8:=HX7.out.2.1.keep hx78
  have hd8:=HX7.out.2.2.2.2.keep hx78
  have hXw:=HZ.out.2.2.2.trans hX8
  have hc1:=cmpN_one q.den
  generalize cmpN q.den 1=cq at *
  by_cases h1:q.den=1
  ·have hcq:=hc1.2 h1
   subst hcq
   have hp:=hr8.put (neg:=nn) (no_int aon mn cn) (no_int none 0 0)
   have hR0:IsRat w8 (.agg #[.bool nn,.slice aon mn cn,.slice none 0 0]) q:=IsRat.mk hn8 (by rw [h1]; exact IsNat.nil w8)
   have HR:=bH (bI (hp.rat hR0) (bI (hXw.own hp.ext (fun k e=>by omega)) hp.box))
   clear hp hR0 hn8 hd8 hr8 hXw hX8 hx8 hx78 h8 hC8 hK8 hS hc1 h1
   go_wp2
   generalize ((w8.setCell ⟨r,0,none⟩ (.bool nn)).setCell ⟨r,1,none⟩ (.slice aon mn cn)).setCell ⟨r,2,none⟩ (.slice none 0 0)=w9 at *
   obtain ⟨g0,g1,g2,_⟩:=HR.out.2.2.facts
   exact bodyPost_ret (v:=.agg #[.bool nn,.slice aon mn cn,.slice none 0 0]) (by simp [results,Tryz.results119,go_sem,g0,g1,g2]) rfl ⟨_,rfl,HR.out.1,HR.out.2.1⟩
  ·have hcq:¬ cq=0:=fun e=>h1 (hc1.1 e)
   have hp:=hr8.put (neg:=nn) (no_int aon mn cn) (no_int aod md cd)
   have hR0:IsRat w8 (.agg #[.bool nn,.slice aon mn cn,.slice aod md cd]) q:=IsRat.mk hn8 (by unfold dw; rw [if_neg h1]; exact hd8)
   have HR:=bH (bI (hp.rat hR0) (bI (hXw.own hp.ext (fun k e=>by omega)) hp.box))
   clear hp hR0 hn8 hd8 hr8 hXw hX8 hx8 hx78 h8 hC8 hS hc1 h1
   have hcb:(cq == 0)=false:=by simpa using hcq
   go_wp2
   generalize ((w8.setCell ⟨r,0,none⟩ (.bool nn)).setCell ⟨r,1,none⟩ (.slice aon mn cn)).setCell ⟨r,2,none⟩ (.slice aod md cd)=w9 at *
   obtain ⟨g0,g1,g2,_⟩:=HR.out.2.2.facts
   exact bodyPost_ret (v:=.agg #[.bool nn,.slice aon mn cn,.slice aod md cd]) (by simp [results,Tryz.results119,go_sem,g0,g1,g2]) rfl ⟨_,rfl,HR.out.1,HR.out.2.1⟩
theorem reducedQ_any (w:World) (v v':Value) (z y:Int) (L:Nat) (h:Rint w v z L) (h':Rint w v' y L) (hy:y≠0) (hL:L<=33554432) :
  Calls Tryz.prog 119 #[v,v'] w (RatPost w ((z:Rat) / (y:Rat))):=by
 by_cases hp:0<y
 ·obtain ⟨n,rfl⟩:∃ n:Nat,y=n:=⟨y.toNat,by omega⟩
  have:=reduced_any w v v' z n L h h' (by omega) hL
  rw [Rat.mkRat_eq_div] at this
  exact this
 ·obtain ⟨n,rfl⟩:∃ n:Nat,y = -(n:Int):=⟨(-y).toNat,by omega⟩
  have:=reducedN_any w v v' z n L h h' (by omega) hL
  rw [Rat.mkRat_eq_div] at this
  have e:((-z:Int):Rat) / ((n:Nat):Rat)=(z:Rat) / ((-(n:Int):Int):Rat):=by
   rw [Rat.intCast_neg,Rat.intCast_neg,Rat.intCast_natCast]
   grind
  rw [e] at this
  exact this
theorem divf_any (w:World) (p q r s:Value) (zp zq zr zs:Int) (L:Nat) (hp:Rint w p zp L) (hq:Rint w q zq L) (hr:Rint w r zr L) (hs:Rint w s zs L) (hL:L<=4194304) :
  Calls Tryz.prog 199 #[p,q,r,s] w (TwoInt w (zp*zs) (zq*zr)):=by
 have H1:=bH (fun W (hW:XF w W)=>imul_any W p s zp zs L (hp.keep hW) (hs.keep hW) (by omega))
 have H2:=bH (fun W (hW:XF w W)=>imul_any W q r zq zr L (hq.keep hW) (hr.keep hW) (by omega))
 obtain ⟨n1,a1,l1,c1,_,rfl,_,_,_⟩:=hp.open
 obtain ⟨n2,a2,l2,c2,_,rfl,_,_,_⟩:=hq.open
 obtain ⟨n3,a3,l3,c3,_,rfl,_,_,_⟩:=hr.open
 obtain ⟨n4,a4,l4,c4,_,rfl,_,_,_⟩:=hs.open
 clear hp hq hr hs
 unfold TwoInt
 generalize zp*zs=Z at *
 generalize zq*zr=Y at *
 go_enter Tryz.func199,Tryz.ntmps199
 go_upto_region 0 with fail
 go_cut [4,5,6,7,8,9] (fun v1 v2 v3 v4 v5 v6 wx=>∃ b1 b2 b3 b4 r1 r2,v1=.pointer (some ⟨b1,0,none⟩)/\v2=.pointer (some ⟨b2,0,none⟩)/\v3=.pointer (some ⟨b3,0,none⟩)/\v4=.pointer (some ⟨b4,0,none⟩)/\v5=.pointer (some ⟨r1,0,none⟩)/\v6=.pointer (some ⟨r2,0,none⟩)/\Box4 wx b1 b2 b3 b4 n1 n2 n3 n4 (.slice a1 l1 c1) (.slice a2 l2 c2) (.slice a3 l3 c3) (.slice a4 l4 c4)/\BoxI wx r1 false (.slice none 0 0)/\BoxI wx r2 false (.slice none 0 0)/\b1<r1/\b2<r1/\b3<r1/\b4<r1/\r1<r2/\w.heap.size<=r1/\XF w wx)
 case first =>
  go_wp2
  go_meet
  exact ⟨_,_,_,_,_,_,rfl,rfl,rfl,rfl,rfl,rfl,⟨(((((boxI_new rfl n1 a1 l1 c1).alloc _).alloc _).alloc _).alloc _).alloc _,((((boxI_new (by simp) n2 a2 l2 c2).alloc _).alloc _).alloc _).alloc _,(((boxI_new (by simp) n3 a3 l3 c3).alloc _).alloc _).alloc _,((boxI_new (by simp) n4 a4 l4 c4).alloc _).alloc _⟩,(boxI_new (by simp) false none 0 0).alloc _,boxI_new (by simp) false none 0 0,(by omega),(by omega),(by omega),(by omega),(by omega),(by omega),((((((Ext.refl _ w).alloc _).alloc _).alloc _).alloc _).alloc _).alloc _⟩
 case rest =>
  obtain ⟨b1,b2,b3,b4,r1,r2,rfl,rfl,rfl,rfl,rfl,rfl,hb,hr1,hr2,i1,i2,i3,i4,i5,hle,hx⟩:=hcut
  have hS:=hb.s
  have HB:=bH (bI hb (bI hr1 (bI hr2 hx)))
  clear hb hr1 hr2 hx
  go_upto_region 1 with fail
  go_region_held3 (SI4 b1 b2 b3 b4 n1 n2 n3 n4 (.slice a1 l1 c1) (.slice a2 l2 c2) (.slice a3 l3 c3) (.slice a4 l4 c4))
   (repeat (first | (with_reducible assumption) | (with_reducible refine SI4.drew ?_) | (with_reducible refine SI4.set ?_ _ _ ?_ ?_ ?_ ?_) | (dsimp only; omega)))
   (first
    | (go_at_call 101; (with_reducible refine (H1.out _ (HB.out.2.2.2.drew)).mono ?_); rintro q1 w11 ⟨v11,rfl,h11,hx11⟩; have hX1:=(Ext.refl (fun _=>False) wc).drew.trans hx11; have hK1:=(HB.out.1.keep hX1).s; obtain ⟨ng1,ag1,lg1,cg1,rfl⟩:=h11.shape)
    | (go_at_call 101; (with_reducible refine (H2.out _ (HB.out.2.2.2.trans hX1)).mono ?_); rintro q2 w12 ⟨v12,rfl,h12,hx12⟩; have hX2:=hX1.trans hx12; have hK2:=(HB.out.1.keep hX2).s; have hR1:=HB.out.2.1.ext hX2 id; have hR2:=HB.out.2.2.1.ext hX2 id; obtain ⟨d0,d1,d2,d3⟩:=hR1.facts; obtain ⟨f0,f1,f2,f3⟩:=hR2.facts; obtain ⟨ng2,ag2,lg2,cg2,rfl⟩:=h12.shape))
  have hp1:=hR1.put (neg:=ng1) (no_int ag1 lg1 cg1)
  have hp2:=(hR2.ext hp1.ext (fun e=>by omega)).put (neg:=ng2) (no_int ag2 lg2 cg2)
  have HR:=bH (bI (hp2.int (hp1.int (h11.keep hx12))) (bI (hp2.int (hp1.int h12)) (bI (((HB.out.2.2.2.trans hX2).own hp1.ext (fun k e=>by omega)).own hp2.ext (fun k e=>by omega)) (bI (hp1.box.ext hp2.ext (fun e=>by omega)) hp2.box))))
  clear hp1 hp2 hR1 hR2 hS d0 d1 d2 d3 f0 f1 f2 f3 h11 hx11 hX1 hK1 h12 hx12 hX2 hK2
  generalize (((w12.setCell ⟨r1,0,none⟩ (.bool ng1)).setCell ⟨r1,1,none⟩ (.slice ag1 lg1 cg1)).setCell ⟨r2,0,none⟩ (.bool ng2)).setCell ⟨r2,1,none⟩ (.slice ag2 lg2 cg2)=w20 at *
  obtain ⟨g0,g1,_⟩:=HR.out.2.2.2.1.facts
  obtain ⟨g2,g3,_⟩:=HR.out.2.2.2.2.facts
  go_wp2
  exact bodyPost_ret (v:=.tuple #[.agg #[.bool ng1,.slice ag1 lg1 cg1],.agg #[.bool ng2,.slice ag2 lg2 cg2]]) (by simp [results,Tryz.results199,go_sem,g0,g1,g2,g3]) rfl ⟨_,_,rfl,HR.out.1,HR.out.2.1,HR.out.2.2.1⟩
theorem cross_div (w:World) (v v':Value) (q q':Rat) (L:Nat) (h:Rrat w v q L) (h':Rrat w v' q' L) (h0:1<=L) (hL:L<=4194304) (hnz:q'≠0) :
  Calls Tryz.prog 117 #[v,v',.func (.func 199) #[] #[]] w (RatPost w (q / q')):=by
 obtain ⟨n1,a1,l1,c1,x1,y1,k1,l,d,rfl,hr,hd,hm,hdl,hq⟩:=h.open
 clear hm
 obtain ⟨n2,a2,l2,c2,x2,y2,k2,l',d',rfl,hr',hd',hm,hdl',hq'⟩:=h'.open
 clear hm
 have HD1:=bH (fun W (hW:XF w W)=>den_any W _ n1 a1 l1 c1 x1 y1 k1 d L rfl (hd.keep hW) hdl (by omega) h0)
 have HD2:=bH (fun W (hW:XF w W)=>den_any W _ n2 a2 l2 c2 x2 y2 k2 d' L rfl (hd'.keep hW) hdl' (by omega) h0)
 have HF:=bH (fun W (hW:XF w W) u u' hu hu'=>divf_any W _ u _ u' _ (dn (vl d):Nat) _ (dn (vl d'):Nat) L (hr.keep hW) hu (hr'.keep hW) hu' hL)
 have hd2p:=dn_pos (vl d')
 have hd1p:=dn_pos (vl d)
 have hs2:sg n2 (vl l')≠0:=fun e=>hnz (by rw [hq',e]; exact Rat.zero_mkRat _)
 have hdl1:(dg (((dn (vl d):Nat):Int)).natAbs).length<=L:=by rw [Int.natAbs_natCast]; exact dn_len hd hdl h0
 have hdl2:(dg (((dn (vl d'):Nat):Int)).natAbs).length<=L:=by rw [Int.natAbs_natCast]; exact dn_len hd' hdl' h0
 have hZl:(dg (sg n1 (vl l)*((dn (vl d'):Nat):Int)).natAbs).length<=L+L+1:=Nat.le_trans (len_mul hr.len hdl2) (by omega)
 have hYl:(dg (((dn (vl d):Nat):Int)*sg n2 (vl l')).natAbs).length<=L+L+1:=Nat.le_trans (len_mul hdl1 hr'.len) (by omega)
 have hY0:((dn (vl d):Nat):Int)*sg n2 (vl l')≠0:=Int.mul_ne_zero (by omega) hs2
 have HRd:=bH (fun W u u' (hu:IsInt W u (sg n1 (vl l)*((dn (vl d'):Nat):Int))) (hu':IsInt W u' (((dn (vl d):Nat):Int)*sg n2 (vl l')))=>reducedQ_any W u u' _ _ (L+L+1) (hu.reads hZl) (hu'.reads hYl) hY0 (by omega))
 have hres:(((sg n1 (vl l)*((dn (vl d'):Nat):Int):Int)):Rat) / (((((dn (vl d):Nat):Int)*sg n2 (vl l'):Int)):Rat)=q / q':=by
  rw [hq,hq',Rat.mkRat_eq_div,Rat.mkRat_eq_div,Rat.intCast_mul,Rat.intCast_mul,Rat.intCast_natCast,Rat.intCast_natCast]
  have e1:((dn (vl d):Nat):Rat)≠0:=fun e=>by have:=Rat.natCast_inj.1 (e.trans (by rfl:(0:Rat)=((0:Nat):Rat))); omega
  have e2:((dn (vl d'):Nat):Rat)≠0:=fun e=>by have:=Rat.natCast_inj.1 (e.trans (by rfl:(0:Rat)=((0:Nat):Rat))); omega
  have e3:((sg n2 (vl l'):Int):Rat)≠0:=fun e=>hs2 (Rat.intCast_inj.1 (e.trans Rat.intCast_zero.symm))
  have key:∀ (s1 d1 s2 d2:Rat),d1≠0->d2≠0->s2≠0->(s1*d2) / (d1*s2)=(s1 / d1) / (s2 / d2):=by
   intro s1 d1 s2 d2 h1 h2 h3
   grind
  exact key _ _ _ _ e1 e2 e3
 rw [hres] at HRd
 clear hr hr' hd hd' hdl hdl' hq hq' h h' hres hZl hYl hY0 hs2 hd1p hd2p hdl1 hdl2 hnz
 generalize q / q'=Q at *
 unfold TwoInt at HF
 generalize sg n1 (vl l)*((dn (vl d'):Nat):Int)=Z at *
 generalize ((dn (vl d):Nat):Int)*sg n2 (vl l')=Y at *
 generalize ((dn (vl d):Nat):Int)=D1 at *
 generalize ((dn (vl d'):Nat):Int)=D2 at *
 go_enter Tryz.func117,Tryz.ntmps117
 go_upto_region 0 with fail
 go_cut [3,4,6] (fun v1 v2 v3 wx=>∃ b1 b2 r,v1=.pointer (some ⟨b1,0,none⟩)/\v2=.pointer (some ⟨b2,0,none⟩)/\v3=.pointer (some ⟨r,0,none⟩)/\BoxR wx b1 n1 (.slice a1 l1 c1) (.slice x1 y1 k1)/\BoxR wx b2 n2 (.slice a2 l2 c2) (.slice x2 y2 k2)/\BoxR wx r false (.slice none 0 0) (.slice none 0 0)/\b1<r/\b2<r/\w.heap.size<=r/\XF w wx)
 case first =>
  go_wp2
  go_meet
  exact ⟨_,_,_,rfl,rfl,rfl,((boxR_new rfl n1 a1 l1 c1 x1 y1 k1).alloc _).alloc _,(boxR_new (by simp) n2 a2 l2 c2 x2 y2 k2).alloc _,boxR_new (by simp) false none 0 0 none 0 0,(by omega),(by omega),(by omega),(((Ext.refl _ w).alloc _).alloc _).alloc _⟩
 case rest =>
  obtain ⟨b1,b2,r,rfl,rfl,rfl,hb1,hb2,hrb,i1,i2,hle,hx⟩:=hcut
  have hS:=SR2.of hb1 hb2
  have HB:=bH (bI hb1 (bI hb2 (bI hrb hx)))
  clear hb1 hb2 hrb hx
  go_upto_region 1 with fail
  go_region_held3 (SR2 b1 b2 n1 n2 (.slice a1 l1 c1) (.slice x1 y1 k1) (.slice a2 l2 c2) (.slice x2 y2 k2))
   (repeat (first | (with_reducible assumption) | (with_reducible refine SR2.drew ?_) | (with_reducible refine SR2.set ?_ _ _ ?_ ?_) | (dsimp only; omega)))
   (first
    | (go_at_call 102; (with_reducible refine (HD1.out _ HB.out.2.2.2.drew).mono ?_); rintro q1 w11 ⟨v11,rfl,h11,hx11⟩; have hX1:=(Ext.refl (fun _=>False) wc).drew.trans hx11; have hK1:=SR2.of (HB.out.1.ext hX1 id) (HB.out.2.1.ext hX1 id); obtain ⟨ng1,ag1,lg1,cg1,rfl⟩:=h11.shape)
    | (go_at_call 102; (with_reducible refine (HD2.out _ (HB.out.2.2.2.trans hX1)).mono ?_); rintro q2 w12 ⟨v12,rfl,h12,hx12⟩; have hX2:=hX1.trans hx12; have hK2:=SR2.of (HB.out.1.ext hX2 id) (HB.out.2.1.ext hX2 id); have hF:=HF.out w12 (HB.out.2.2.2.trans hX2) _ _ (h11.keep hx12) h12; obtain ⟨ng2,ag2,lg2,cg2,rfl⟩:=h12.shape)
    | (go_at_call 199; (with_reducible refine hF.mono ?_); rintro q3 w13 ⟨va,vb,rfl,ha,hb,hx13⟩; have hX3:=hX2.trans hx13; have hK3:=SR2.of (HB.out.1.ext hX3 id) (HB.out.2.1.ext hX3 id); have hR:=HRd.out w13 _ _ ha hb; obtain ⟨ng3,ag3,lg3,cg3,rfl⟩:=ha.shape; obtain ⟨ng4,ag4,lg4,cg4,rfl⟩:=hb.shape)
    | (go_at_call 119; (with_reducible refine hR.mono ?_); rintro q4 w14 ⟨v14,rfl,h14,hx14⟩; have hX4:=hX3.trans hx14; have hK4:=SR2.of (HB.out.1.ext hX4 id) (HB.out.2.1.ext hX4 id); have hr4:=HB.out.2.2.1.ext hX4 id; obtain ⟨d0,d1,d2,d3,d4,d5⟩:=hr4.facts; obtain ⟨ng,sa,sn,sc,ta,tn,tc,rfl⟩:=h14.shape))
  have hp:=hr4.put (neg:=ng) (no_int sa sn sc) (no_int ta tn tc)
  have HR:=bH (bI (hp.rat h14) (bI ((HB.out.2.2.2.trans hX4).own hp.ext (fun k e=>by omega)) hp.box))
  clear hp hr4 h11 h12 ha hb h14 hx11 hx12 hx13 hx14 hX1 hX2 hX3 hX4 hK1 hK2 hK3 hK4 hS hF hR d0 d1 d2 d3 d4 d5
  generalize ((w14.setCell ⟨r,0,none⟩ (.bool ng)).setCell ⟨r,1,none⟩ (.slice sa sn sc)).setCell ⟨r,2,none⟩ (.slice ta tn tc)=w20 at *
  obtain ⟨g0,g1,g2,_⟩:=HR.out.2.2.facts
  go_wp2
  exact bodyPost_ret (v:=.agg #[.bool ng,.slice sa sn sc,.slice ta tn tc]) (by simp [results,Tryz.results117,go_sem,g0,g1,g2]) rfl ⟨_,rfl,HR.out.1,HR.out.2.1⟩
def QtPost (w:World) (q:Rat) (r:Ending) (w':World):Prop:=∃ v,r=.returned (.tuple #[v,.int .i64 0])/\IsRat w' v q/\XF w w'
theorem rdiv_any (w:World) (v v':Value) (q q':Rat) (L:Nat) (h:Rrat w v q L) (h':Rrat w v' q' L) (h0:1<=L) (hL:L<=4194304) (hnz:q'≠0) :
  Calls Tryz.prog 176 #[v,v'] w (QtPost w (q / q')):=by
 have HC:=bH (fun W (hW:XF w W)=>cross_div W v v' q q' L (h.keep hW) (h'.keep hW) h0 hL hnz)
 have HS:=bH (fun W (hW:XF w W)=>rsign_any W v' q' L (h'.keep hW) (by omega))
 have hsg:q'.num.sign≠0:=fun e=>hnz (Rat.num_eq_zero.1 (Int.sign_eq_zero_iff_zero.1 e))
 obtain ⟨n1,a1,l1,c1,x1,y1,k1,l,d,rfl,-,-,-,-,-⟩:=h.open
 obtain ⟨n2,a2,l2,c2,x2,y2,k2,l',d',rfl,-,-,-,-,-⟩:=h'.open
 clear h h'
 generalize q'.num.sign=sg at *
 generalize q / q'=Q at *
 obtain ⟨b0,b1,b2,hx⟩:=box3 w (.cells #[.bool n1,.slice a1 l1 c1,.slice x1 y1 k1] 31) (.cells #[.bool n2,.slice a2 l2 c2,.slice x2 y2 k2] 31) (.cells #[.bool false,.slice none 0 0,.slice none 0 0] 31)
 have HB:=bH (bI (boxR_of b0) (bI (boxR_of b1) (bI (boxR_of b2) hx)))
 clear b0 b1 b2 hx
 go_enter Tryz.func176,Tryz.ntmps176
 go_upto_region 1 with fail
 generalize ((w.alloc (.cells #[.bool n1,.slice a1 l1 c1,.slice x1 y1 k1] 31)).alloc (.cells #[.bool n2,.slice a2 l2 c2,.slice x2 y2 k2] 31)).alloc (.cells #[.bool false,.slice none 0 0,.slice none 0 0] 31)=w1 at *
 obtain ⟨pb,hpb⟩:∃ pb,w.heap.size=pb:=⟨_,rfl⟩
 have hpw:w.heap.size<=pb:=Nat.le_of_eq hpb
 rw [hpb] at HB ⊢
 clear hpb
 obtain ⟨e0,e1,e2,-⟩:=HB.out.2.1.facts
 go_wp2_with fail
 refine (HS.out _ HB.out.2.2.2).mono ?_
 rintro r2 w2 ⟨rfl,hx2⟩
 have HB2:=bH (bI (HB.out.1.keep hx2) (bI (HB.out.2.1.keep hx2) (bI (HB.out.2.2.1.keep hx2) (HB.out.2.2.2.trans hx2))))
 clear hx2 e0 e1 e2 HB HS
 have hsb:(sg == 0)=false:=by simpa using hsg
 obtain ⟨c0,c1',c2',-⟩:=HB2.out.1.facts
 obtain ⟨e0,e1,e2,-⟩:=HB2.out.2.1.facts
 go_wp2_with fail
 refine (HC.out _ HB2.out.2.2.2).mono ?_
 rintro q4 w14 ⟨v14,rfl,h14,hx14⟩
 obtain ⟨ng,sa,sn,sc,ta,tn,tc,rfl⟩:=h14.shape
 have hr4:=HB2.out.2.2.1.keep hx14
 obtain ⟨d0,d1,d2,d3,d4,d5⟩:=hr4.facts
 have hp:=hr4.put (neg:=ng) (no_int sa sn sc) (no_int ta tn tc)
 have HR:=bH (bI (hp.rat h14) (bI ((HB2.out.2.2.2.trans hx14).own hp.ext (fun k e=>by omega)) hp.box))
 clear hp hr4 h14 hx14
 go_wp2
 generalize ((w14.setCell ⟨pb+1+1,0,none⟩ (.bool ng)).setCell ⟨pb+1+1,1,none⟩ (.slice sa sn sc)).setCell ⟨pb+1+1,2,none⟩ (.slice ta tn tc)=w20 at *
 obtain ⟨g0,g1,g2,_⟩:=HR.out.2.2.facts
 exact bodyPost_ret (v:=.tuple #[.agg #[.bool ng,.slice sa sn sc,.slice ta tn tc],.int .i64 0]) (by simp [results,Tryz.results176,go_sem,g0,g1,g2]) rfl ⟨_,rfl,HR.out.1,HR.out.2.1⟩
abbrev S9 (b0 b1 b2 b3 b4 b5 b6 b7 b8 o0 o1 o2 o3 o4 o5 o6 o7 o8:Nat) (x0 x1 x2 x3 x4 x5 x6 x7 x8:Value) (W:World):Prop:=W.cell? ⟨b0,o0,none⟩=some x0/\W.cell? ⟨b1,o1,none⟩=some x1/\W.cell? ⟨b2,o2,none⟩=some x2/\W.cell? ⟨b3,o3,none⟩=some x3/\W.cell? ⟨b4,o4,none⟩=some x4/\W.cell? ⟨b5,o5,none⟩=some x5/\W.cell? ⟨b6,o6,none⟩=some x6/\W.cell? ⟨b7,o7,none⟩=some x7/\W.cell? ⟨b8,o8,none⟩=some x8
section
variable {b0 b1 b2 b3 b4 b5 b6 b7 b8 o0 o1 o2 o3 o4 o5 o6 o7 o8:Nat} {x0 x1 x2 x3 x4 x5 x6 x7 x8:Value} {W:World}
theorem S9.drew (h:S9 b0 b1 b2 b3 b4 b5 b6 b7 b8 o0 o1 o2 o3 o4 o5 o6 o7 o8 x0 x1 x2 x3 x4 x5 x6 x7 x8 W):S9 b0 b1 b2 b3 b4 b5 b6 b7 b8 o0 o1 o2 o3 o4 o5 o6 o7 o8 x0 x1 x2 x3 x4 x5 x6 x7 x8 W.drew:=h
theorem S9.keep {W':World} (h:S9 b0 b1 b2 b3 b4 b5 b6 b7 b8 o0 o1 o2 o3 o4 o5 o6 o7 o8 x0 x1 x2 x3 x4 x5 x6 x7 x8 W) (hx:XF W W'):S9 b0 b1 b2 b3 b4 b5 b6 b7 b8 o0 o1 o2 o3 o4 o5 o6 o7 o8 x0 x1 x2 x3 x4 x5 x6 x7 x8 W':=⟨cell_keep h.1 hx,cell_keep h.2.1 hx,cell_keep h.2.2.1 hx,cell_keep h.2.2.2.1 hx,cell_keep h.2.2.2.2.1 hx,cell_keep h.2.2.2.2.2.1 hx,cell_keep h.2.2.2.2.2.2.1 hx,cell_keep h.2.2.2.2.2.2.2.1 hx,cell_keep h.2.2.2.2.2.2.2.2 hx⟩
end
theorem sumTo_sz {g:Nat->Rat} {M:Nat}:∀ {n:Nat},(∀ i,i<n->Sz (g i) M)->Sz (sumTo n g) (1+n*(M+1))
 | 0,_=>Sz.zero.mono (by omega)
 | n+1,h=>by
  have e:1+n*(M+1)+M+1=1+(n+1)*(M+1):=by rw [Nat.succ_mul]; omega
  exact ((sumTo_sz (n:=n) (fun i hi=>h i (by omega))).add (h n (by omega))).mono (Nat.le_of_eq e)
def termA (r:RowV) (q:Rat) (j k:Nat):Rat:=if (r.t k).var=(j:Int) then ((r.t k).coef:Rat)*q else 0
def rowA (p:ProgV) (y:List Rat) (j i:Nat):Rat:=sumTo (p.r i).terms.length (termA (p.r i) (atQ y i) j)
theorem combA_eq (p:ProgV) (y:List Rat) (j:Nat):combA p y j=sumTo p.rows.length (rowA p y j):=rfl
theorem termA_sz {r:RowV} {q:Rat} {L:Nat} (hq:Sz q L) {k:Nat} (hk:TermOk (r.t k)) (j:Nat):Sz (termA r q j k) (L+2):=by
 unfold termA
 split
 ·exact ((Sz.int hk.coef).mul hq).mono (by omega)
 ·exact Sz.zero.mono (by omega)
theorem termA_zero {r:RowV} {j k:Nat}:termA r 0 j k=0:=by
 unfold termA
 split
 ·exact Rat.mul_zero _
 ·rfl
theorem rowA_zero {p:ProgV} {y:List Rat} {i:Nat} (h:atQ y i=0) (j:Nat):rowA p y j i=0:=by
 unfold rowA
 rw [h]
 exact sumTo_zero' (fun k _=>termA_zero)
theorem inf1_any (w:World) (ab B n:Nat) (f:Nat->Rat) (L:Nat) (hb:blk w ab=some (.cells #[.slice (some ⟨B,0,none⟩) n n] 32 (0,0))) (hn:n<=1000000) (ha:RArr w B n f) (h1:1<=L) (hL:L<=4194304) (hs:∀ i,i<n->Sz (f i) L) (i:Nat) (hi:i<n) :
  Calls Tryz.prog 68 #[.int .i64 i,.pointer (some ⟨ab,0,none⟩)] w (RatPost w (-f i)):=by
 obtain ⟨n0,b1,l1,d1,b2,l2,d2,e0,e1,e2,hq⟩:=ha.cells i hi
 have hx:=(Ext.refl (fun _=>False) w).alloc (.cells #[.bool false,.slice none 0 0,.slice none 0 0] 31)
 have hr:=boxR_new (W:=w) rfl false none 0 0 none 0 0
 have HN:=bH (rneg_any _ _ (f i) L ((hq.keep hx).reads (hs i hi)) h1 hL)
 have z0:=cell_keep (cellq hb 0 rfl) hx
 have c0:=cell_keep e0 hx
 have c1:=cell_keep e1 hx
 have c2:=cell_keep e2 hx
 have HB:=bH (bI hr hx)
 have j0:(0:Int)<=(i:Int):=by omega
 have j1:(i:Int)<(n:Int):=by omega
 clear e0 e1 e2 hq hr hx hb ha hs
 go_enter Tryz.func68,Tryz.ntmps68
 go_upto_region 1 with fail
 obtain ⟨r,hr⟩:∃ r,w.heap.size=r:=⟨_,rfl⟩
 have hrw:w.heap.size<=r:=Nat.le_of_eq hr
 rw [hr] at HB ⊢
 generalize w.alloc (.cells #[.bool false,.slice none 0 0,.slice none 0 0] 31)=w1 at *
 go_wp2_with fail
 refine HN.out.mono ?_
 rintro r2 w2 ⟨v2,rfl,h2,hx2⟩
 obtain ⟨ng,sa,sn,sc,ta,tn,tc,rfl⟩:=h2.shape
 have hr3:=HB.out.1.keep hx2
 obtain ⟨d0,d1',d2',d3,d4,d5⟩:=hr3.facts
 have HP:=bH (rat_put (w:=w) hr3 hrw (HB.out.2.trans hx2) h2)
 clear h2 hr3 hx2 z0 c0 c1 c2 HN
 go_wp2
 generalize ((w2.setCell ⟨r,0,none⟩ (.bool ng)).setCell ⟨r,1,none⟩ (.slice sa sn sc)).setCell ⟨r,2,none⟩ (.slice ta tn tc)=w9 at *
 obtain ⟨g0,g1,g2,_⟩:=HP.out.1.facts
 exact bodyPost_ret (v:=.agg #[.bool ng,.slice sa sn sc,.slice ta tn tc]) (by simp [results,Tryz.results68,go_sem,g0,g1,g2]) rfl HP.out.2
theorem bound1_any (w:World) (pb ab B n:Nat) (vv rv:Value) (p:ProgV) (f:Nat->Rat) (L:Nat) (hp:blk w pb=some (.cells #[vv,rv] 25 (0,0))) (hv:Vrs w vv p.vars) (hb:blk w ab=some (.cells #[.slice (some ⟨B,0,none⟩) n n] 32 (0,0))) (hn:n<=1000000) (hnv:n=p.vars.length) (ha:RArr w B n f) (h1:2<=L) (hL:L<=4194304) (hs:∀ i,i<n->Sz (f i) L) (i:Nat) (hi:i<n) :
  Calls Tryz.prog 64 #[.int .i64 i,.pointer (some ⟨pb,0,none⟩),.pointer (some ⟨ab,0,none⟩)] w (RatPost w (((p.v i).co:Rat) - f i)):=by
 obtain ⟨n0,b1,l1,d1,b2,l2,d2,e0,e1,e2,hq⟩:=ha.cells i hi
 have hBlt:=ha.lt
 obtain ⟨vo,vc,rfl,-,hvn,-⟩:=hv.shape
 have hco:=(hv.ok i (by omega)).co
 obtain ⟨b,off,rfl,hlt,-,-,-,-,e4,-⟩:=hv.atp i (by omega)
 have hx:=(Ext.refl (fun _=>False) w).alloc (.cells #[.bool false,.slice none 0 0,.slice none 0 0] 31)
 have hr:=boxR_new (W:=w) rfl false none 0 0 none 0 0
 rw [<- hnv] at hp hvn
 have hS:S6 pb ab b B B B 0 0 (off+i*5+4) (i*3) (i*3+1) (i*3+2) (.slice (some ⟨b,off,none⟩) n vc) (.slice (some ⟨B,0,none⟩) n n) (.int .i64 (p.v i).co) (.bool n0) (.slice b1 l1 d1) (.slice b2 l2 d2) (w.alloc (.cells #[.bool false,.slice none 0 0,.slice none 0 0] 31)):=S6.keep ⟨cellq hp 0 rfl,cellq hb 0 rfl,e4,e0,e1,e2⟩ hx
 have HF:=bH (fun W=>rfrom_any W (p.v i).co hco.1 hco.2)
 have HSub:=bH (fun W u (hW:XF (w.alloc (.cells #[.bool false,.slice none 0 0,.slice none 0 0] 31)) W) (hu:IsRat W u ((p.v i).co:Rat))=>rsub_any W u _ _ (f i) L (hu.reads ((Sz.int hco).mono h1)) ((hq.keep (hx.trans hW)).reads (hs i hi)) (by omega) hL)
 have HB:=bH (bI hr hx)
 have n0':=blk_lt hp
 have n1':=blk_lt hb
 have j0:(0:Int)<=(i:Int):=by omega
 have j1:(i:Int)<(n:Int):=by omega
 clear e0 e1 e2 e4 hq hr hx hb ha hs hv hp hnv hco
 go_enter Tryz.func64,Tryz.ntmps64
 go_upto_region 1 with fail
 obtain ⟨r,hr⟩:∃ r,w.heap.size=r:=⟨_,rfl⟩
 have hrw:w.heap.size<=r:=Nat.le_of_eq hr
 rw [hr] at HB n0' n1' hlt hBlt ⊢
 generalize w.alloc (.cells #[.bool false,.slice none 0 0,.slice none 0 0] 31)=w1 at *
 generalize ((p.v i).co:Rat) - f i=q at *
 generalize ((p.v i).co:Rat)=cq at *
 generalize (p.v i).co=co at *
 go_region_held3 (S6 pb ab b B B B 0 0 (off+i*5+4) (i*3) (i*3+1) (i*3+2) (.slice (some ⟨b,off,none⟩) n vc) (.slice (some ⟨B,0,none⟩) n n) (.int .i64 co) (.bool n0) (.slice b1 l1 d1) (.slice b2 l2 d2))
  (repeat (first | (with_reducible assumption) | (with_reducible refine S6.drew ?_) | (with_reducible refine S6.set ?_ _ _ ?_ ?_ ?_ ?_ ?_ ?_) | (dsimp only; omega)))
  (first
   | (go_at_call 66; (with_reducible refine (HF.out _).mono ?_); rintro q1 w11 ⟨v11,rfl,h11,hx11⟩; have hX1:=(Ext.refl (fun _=>False) w1).drew.trans hx11; have hK1:=hS.keep hX1; have hC1:=HSub.out w11 _ hX1 h11; obtain ⟨n11,a11,l11,c11,a12,l12,c12,rfl⟩:=h11.shape)
   | (go_at_call 65; (with_reducible refine hC1.mono ?_); rintro q2 w12 ⟨v12,rfl,h12,hx12⟩; have hX2:=hX1.trans hx12; have hK2:=hS.keep hX2; have hr3:=HB.out.1.keep hX2; obtain ⟨d0,d1',d2',d3,d4,d5⟩:=hr3.facts; obtain ⟨ng,sa,sn,sc,ta,tn,tc,rfl⟩:=h12.shape))
 have HP:=bH (rat_put (w:=w) hr3 hrw (HB.out.2.trans hX2) h12)
 clear hX1 hX2 hK1 hK2 h11 h12 hx11 hx12 hC1 hS hr3 d0 d1' d2' d3 d4 d5 HSub HF
 go_wp2
 generalize ((w12.setCell ⟨r,0,none⟩ (.bool ng)).setCell ⟨r,1,none⟩ (.slice sa sn sc)).setCell ⟨r,2,none⟩ (.slice ta tn tc)=w9 at *
 obtain ⟨g0,g1,g2,_⟩:=HP.out.1.facts
 exact bodyPost_ret (v:=.agg #[.bool ng,.slice sa sn sc,.slice ta tn tc]) (by simp [results,Tryz.results64,go_sem,g0,g1,g2]) rfl HP.out.2
theorem RArr.past {w w':World} {b n:Nat} {f:Nat->Rat} {S:Nat->Prop} (h:RArr w b n f) (hx:Ext S w w') (hb:¬ S b) (hr:∀ v l,Rds w v l->Rds w' v l):RArr w' b n f:=by
 obtain ⟨arr,h1,h2⟩:=h.row
 refine ⟨⟨arr,(hx.blk (blk_lt h1) hb).trans h1,h2⟩,fun i hi=>?_⟩
 obtain ⟨neg,a1,m1,c1,a2,m2,c2,e0,e1,e2,mag,dv',g1,g2,g3⟩:=h.cells i hi
 exact ⟨neg,a1,m1,c1,a2,m2,c2,(hx.cell (p:=⟨b,i*3,none⟩) h.lt hb).trans e0,(hx.cell (p:=⟨b,i*3+1,none⟩) h.lt hb).trans e1,(hx.cell (p:=⟨b,i*3+2,none⟩) h.lt hb).trans e2,mag,dv',g1,hr _ _ g2,hr _ _ g3⟩
def CombPost (w:World) (n:Nat) (f:Nat->Rat) (q:Rat) (r:Ending) (w':World):Prop:=∃ B v,r=.returned (.tuple #[.slice (some ⟨B,0,none⟩) n n,v])/\w.heap.size<=B/\RArr w' B n f/\IsRat w' v q/\XF w w'
theorem Combine_any (w:World) (pv yv:Value) (p:ProgV) (y:List Rat) (L T:Nat) (hp:IsPrg w pv p) (hy:Rats w yv y L) (h1:1<=L) (hT:∀ i,i<p.rows.length->(p.r i).terms.length<=T)
  (hL:1+p.rows.length*(T*(L+3)+2)+(1+T*(L+3))+(L+3)<=4000000) (hL2:1+p.rows.length*(L+3)+(L+3)<=4000000) (hvn:p.vars.length<=1000000) :
  Calls Tryz.prog 61 #[pv,yv] w (CombPost w p.vars.length (combA p y) (combB p y)):=by
 obtain ⟨vv,rv,rfl,hv,hr⟩:=hp
 obtain ⟨vo,vc,rfl,-,-,-⟩:=hv.shape
 obtain ⟨ro,rc,rfl,-,hn,-⟩:=hr.shape
 obtain ⟨yo,yc,rfl,-,hyn,-⟩:=hy.shape
 obtain ⟨b0,b1,b2,hx⟩:=box3 w (.cells #[.slice vo p.vars.length vc,.slice ro p.rows.length rc] 25) (.cells #[.slice yo y.length yc] 32) (.cells #[.bool false,.slice none 0 0,.slice none 0 0] 31)
 have HS:=bH (fun W0 (hW0:XF (((w.alloc (.cells #[.slice vo p.vars.length vc,.slice ro p.rows.length rc] 25)).alloc (.cells #[.slice yo y.length yc] 32)).alloc (.cells #[.bool false,.slice none 0 0,.slice none 0 0] 31)) W0) =>
  lsum_any W0 p.rows.length 113 #[.pointer (some ⟨w.heap.size,0,none⟩),.pointer (some ⟨w.heap.size+1,0,none⟩)] (fun i=>(p.r i).bound) (fun i=>atQ y i) L h1 hL2
   (fun i hi=>(hr.ok i hi).bound) (fun i _=>hy.sz h1 i) (enters_of Tryz.func113 (by kernel_rfl) rfl)
   (fun W hW i hi=>comb1_any W w.heap.size (w.heap.size+1) _ _ _ p y L (blk_keep b0 (hW0.trans hW)) (blk_keep b1 (hW0.trans hW)) (hr.keep ((hx.trans hW0).trans hW)) (hy.keep ((hx.trans hW0).trans hW)) i hi))
 have HV:=bH (bI hr hy)
 have HA:=bH (fun W (hW:XF w W) (i:Nat)=>lat_any W _ y L (hy.keep hW) i)
 have HG:=bH (fun W u q (hu:Rrat W u q L)=>rsign_any W u q L hu (by omega))
 have hsz:∀ i j k,i<p.rows.length->k<(p.r i).terms.length->Sz (sumTo i (rowA p y j)+sumTo k (termA (p.r i) (atQ y i) j)) (1+p.rows.length*(T*(L+3)+2)+(1+T*(L+3))+1):=fun i j k hi hk=>by
  have hok:∀ i,i<p.rows.length->∀ k,k<(p.r i).terms.length->TermOk ((p.r i).t k):=fun i hi k hk=>by
   obtain ⟨_,_,_,_,rfl,_,_,_,_,_,_,_,ht⟩:=hr.atp i hi
   exact ht.ok k hk
  have g1:∀ i,i<p.rows.length->∀ k,k<=(p.r i).terms.length->Sz (sumTo k (termA (p.r i) (atQ y i) j)) (1+T*(L+3)):=fun i hi k hk =>
   (sumTo_sz (M:=L+2) (fun k' hk'=>termA_sz (hy.sz h1 i) (hok i hi k' (by omega)) j)).mono (by
    have:=Nat.mul_le_mul_right (L+3) (Nat.le_trans hk (hT i hi))
    show 1+k*(L+3)<=_
    omega)
  have g2:Sz (sumTo i (rowA p y j)) (1+p.rows.length*(T*(L+3)+2)) :=
   (sumTo_sz (M:=1+T*(L+3)) (fun i' hi'=>g1 i' (by omega) _ (Nat.le_refl _))).mono (by
    have:=Nat.mul_le_mul_right (T*(L+3)+2) (Nat.le_of_lt hi)
    rw [show 1+T*(L+3)+1=T*(L+3)+2 from by omega]
    omega)
  exact g2.add (g1 i hi k (by omega))
 have Hsz:=bH hsz
 have Hq:=bH (fun i=>hy.sz h1 i)
 generalize hM:1+p.rows.length*(T*(L+3)+2)+(1+T*(L+3))+1=M at *
 have hML:M+(L+2)<=4000000:=by omega
 have HB:=bH (bI b0 (bI b1 (bI (boxR_of b2) hx)))
 obtain ⟨w2,hmk,hA,hx2⟩:=run_make_rats (((w.alloc (.cells #[.slice vo p.vars.length vc,.slice ro p.rows.length rc] 25)).alloc (.cells #[.slice yo y.length yc] 32)).alloc (.cells #[.bool false,.slice none 0 0,.slice none 0 0] 31)) p.vars.length hvn
 clear hv hr hy b0 b1 b2 hx hsz hL hL2 hM hT
 obtain ⟨m,hm'⟩:∃ m,p.rows.length=m:=⟨_,rfl⟩
 have HN:=bH hm'
 obtain ⟨qb,hqb⟩:∃ qb,combB p y=qb:=⟨_,rfl⟩
 unfold combB at hqb
 rw [hqb] at HS
 unfold combB
 rw [hqb]
 clear hqb
 rw [hm'] at hn ⊢ HV HB HS Hsz hmk hA hx2
 obtain ⟨yn,hyn'⟩:∃ yn,y.length=yn:=⟨_,rfl⟩
 have HYN:=bH hyn'
 rw [hyn'] at hyn ⊢ HV HB HS HA hmk hA hx2
 clear hyn'
 clear hm'
 generalize p.vars.length=n at *
 go_enter Tryz.func61,Tryz.ntmps61
 go_upto_region 1 with fail
 generalize (((w.alloc (.cells #[.slice vo n vc,.slice ro m rc] 25)).alloc (.cells #[.slice yo yn yc] 32)).alloc (.cells #[.bool false,.slice none 0 0,.slice none 0 0] 31))=w1 at *
 obtain ⟨pb,hpb⟩:∃ pb,w.heap.size=pb:=⟨_,rfl⟩
 have hpw:w.heap.size<=pb:=Nat.le_of_eq hpb
 rw [hpb] at HB HS ⊢
 clear hpb
 obtain ⟨B,hB⟩:∃ B,w1.heap.size=B:=⟨_,rfl⟩
 have hBw:w1.heap.size<=B:=Nat.le_of_eq hB
 have hB3:pb+1+1<B:=by have:=HB.out.2.2.1.lt; omega
 rw [hB] at hmk hA
 clear hB
 have HA2:=bH (bI hA hx2)
 clear hA
 have z0:=cellq HB.out.1 0 rfl
 have z1:=cellq HB.out.1 1 rfl
 have z1':=cell_keep z1 hx2
 clear hx2
 go_wp2_with fail
 clear hmk z0 z1 z1'
 go_loopg [18] m (fun gg v18 wr=>∃ i:Nat,i<=m/\gg=m - i/\v18=.int .i64 i/\RArr wr B n (fun j=>sumTo i (rowA p y j))/\XF w1 wr)
 case atStart=>exact ⟨0,Nat.zero_le _,rfl,rfl,HA2.out.1.congr (fun _ _=>rfl),HA2.out.2⟩
 case round =>
  obtain ⟨i,hi,rfl,rfl,harr,hx⟩:=hrel
  by_cases hin:i<m
  ·have i0:(i:Int)<(m:Int):=by omega
   have hX0:=HB.out.2.2.2.trans hx
   have HX:=bH (bI harr hx)
   clear harr hx
   obtain ⟨b,off,ta,tc,rfl,hlt,e0,e1,e2,e3,e4,-,htm⟩:=HV.out.1.atp i (by rw [HN.out]; exact hin)
   replace e0:=cell_keep e0 hX0
   replace e1:=cell_keep e1 hX0
   replace e2:=cell_keep e2 hX0
   replace e3:=cell_keep e3 hX0
   replace e4:=cell_keep e4 hX0
   have Htm:=bH htm
   obtain ⟨-,-,-,-,htn,-⟩:=htm.shape
   clear htm
   have HA1:=bH (fun W (hW:XF wr W)=>HA.out W (hX0.trans hW) i)
   have HszI:=bH (fun j k hk=>Hsz.out i j k hin hk)
   obtain ⟨tl,htl⟩:∃ tl,(p.r i).terms.length=tl:=⟨_,rfl⟩
   rw [htl] at e3 Htm HszI htn
   have HTL:=bH htl
   have hx3:=(Ext.refl (fun _=>False) wr).alloc (.cells #[.string (p.r i).name,.int .i64 (p.r i).group,.int .i64 (p.r i).kind,.slice ta tl tc,.int .i64 (p.r i).bound] 58)
   have hb3:=blk_alloc_at wr (.cells #[.string (p.r i).name,.int .i64 (p.r i).group,.int .i64 (p.r i).kind,.slice ta tl tc,.int .i64 (p.r i).bound] 58)
   have HB3:=bH (bI hb3 hx3)
   clear hb3 hx3 htl hX0
   have y0:=cell_keep (cell_keep (cellq HB.out.2.1 0 rfl) HX.out.2) HB3.out.2
   go_upto_region 5 with fail
   obtain ⟨rb,hrb⟩:∃ rb,wr.heap.size=rb:=⟨_,rfl⟩
   rw [hrb] at HB3 ⊢
   generalize wr.alloc (.cells #[.string (p.r i).name,.int .i64 (p.r i).group,.int .i64 (p.r i).kind,.slice ta tl tc,.int .i64 (p.r i).bound] 58)=w3 at *
   clear e0 e1 e2 e3 e4 hrb
   go_wp2_with fail
   refine (HA1.out w3 HB3.out.2).mono ?_
   rintro r4 w4 ⟨v4,rfl,h4,hx4⟩
   have HG4:=bH (HG.out w4 v4 _ h4)
   have HX4:=bH hx4
   clear h4 hx4 HA1 y0
   go_wp2_with fail
   refine HG4.out.mono ?_
   rintro r5 w5 ⟨rfl,hx5⟩
   have hx35:=HX4.out.trans hx5
   have HX5:=bH (HB3.out.2.trans hx35)
   have e3:=cell_keep (cellq HB3.out.1 3 rfl) hx35
   clear hx5 hx35 HX4 HG4
   by_cases hs:(atQ y i).num.sign=0
   ·have hs':((atQ y i).num.sign == 0)=true:=by simpa using hs
    have hz:=(sign_zero _).1 hs
    have HZ:=bH hz
    clear hz
    rw [hs]
    clear hs hs'
    go_wp2
    go_roundg (m - (i+1))
    case measure=>omega
    case rel=>exact ⟨i+1,by omega,rfl,by go_num,(HX.out.1.keep HX5.out).congr (fun j _=>(by show _=sumTo i (rowA p y j)+rowA p y j i; rw [rowA_zero HZ.out,Rat.add_zero])),HX.out.2.trans HX5.out⟩
   ·have hs1:((atQ y i).num.sign == 0)=false:=by simpa using hs
    have hin2:i<y.length:=by
     refine Nat.lt_of_not_le (fun hle=>hs ?_)
     rw [atQ_out y (by omega)]; rfl
    have HI2:=bH hin2
    clear hin2
    generalize (atQ y i).num.sign=sg at *
    go_wp2_with fail
    go_loopg [31] tl (fun gg v31 wq=>∃ k:Nat,k<=tl/\gg=tl - k/\v31=.int .i64 k/\RArr wq B n (fun j=>sumTo i (rowA p y j)+sumTo k (termA (p.r i) (atQ y i) j))/\XF w1 wq)
    case atStart=>exact ⟨0,Nat.zero_le _,rfl,rfl,(HX.out.1.keep HX5.out).congr (fun j _=>(by show _=_+(0:Rat); rw [Rat.add_zero])),HX.out.2.trans HX5.out⟩
    case round =>
     obtain ⟨k,hk,rfl,rfl,harr,hx⟩:=hrel
     clear e3
     by_cases hkn:k<tl
     ·have k0:(k:Int)<(tl:Int):=by omega
      have HW:=bH (bI harr hx)
      clear harr hx
      have hX0:=HB.out.2.2.2.trans HW.out.2
      obtain ⟨bt,offt,rfl,-,f0,f1,hok⟩:=(Htm.out.keep hX0).atr k (by rw [HTL.out]; exact hkn)
      have Hsz2:=bH (fun j=>HszI.out j k hkn)
      have HTA:=bH (show ∀ j,termA (p.r i) (atQ y i) j k=if ((p.r i).t k).var=(j:Int) then (((p.r i).t k).coef:Rat)*atQ y i else 0 from fun _=>rfl)
      have HOk:=bH hok
      clear hok
      obtain ⟨tv,htv⟩:∃ tv,((p.r i).t k).var=tv:=⟨_,rfl⟩
      obtain ⟨co,hco⟩:∃ co,((p.r i).t k).coef=co:=⟨_,rfl⟩
      have HOk':=bH (bI HOk.out.var HOk.out.coef)
      rw [htv] at f0 HTA
      rw [hco] at f1 HTA
      rw [htv,hco] at HOk'
      clear HOk htv hco
      have hx6:=(Ext.refl (fun _=>False) wr).alloc (.cells #[.int .i64 tv,.int .i64 co] 76)
      have hb6:=blk_alloc_at wr (.cells #[.int .i64 tv,.int .i64 co] 76)
      have HB6:=bH (bI hb6 hx6)
      have hBq:=HW.out.1.lt
      clear hb6 hx6 hX0
      go_upto_region 9 with fail
      obtain ⟨tb,htb⟩:∃ tb,wr.heap.size=tb:=⟨_,rfl⟩
      rw [htb] at HB6 hBq ⊢
      generalize wr.alloc (.cells #[.int .i64 tv,.int .i64 co] 76)=w6 at *
      clear f0 f1 htb
      obtain ⟨x0,x1⟩:w6.cell? ⟨tb,0,none⟩=some (.int .i64 tv)/\w6.cell? ⟨tb,1,none⟩=some (.int .i64 co):=⟨cellq HB6.out.1 0 rfl,cellq HB6.out.1 1 rfl⟩
      by_cases hin3:0<=tv/\tv<(n:Int)
      ·obtain ⟨v,rfl⟩:∃ v:Nat,tv=v:=⟨tv.toNat,by omega⟩
       have hvn:v<n:=by omega
       have v0:(0:Int)<=(v:Int):=by omega
       have v1:(v:Int)<(n:Int):=by omega
       clear hin3
       have hX6:=(HB.out.2.2.2.trans HW.out.2).trans HB6.out.2
       obtain ⟨yb,yoff,yn0,ya,yl,yc1,ya2,yl2,yc2,hyo,-,y0,y1,y2,hyq⟩:=HV.out.2.at i (by exact HI2.out)
       have hyq6:=hyq.keep hX6
       have harr6:=HW.out.1.keep HB6.out.2
       obtain ⟨on,oa,ol,oc,oa2,ol2,oc2,o0,o1,o2,hoq⟩:=harr6.cells v hvn
       have hyb:=cell_keep (cell_keep (cellq HB.out.2.1 0 rfl) HW.out.2) HB6.out.2
       rw [hyo] at hyb
       have i1:(i:Int)<(yn:Int):=by have:=HI2.out; rw [HYN.out] at this; omega
       have i00:(0:Int)<=(i:Int):=by omega
       have hS:S9 tb tb B B B (pb+1) yb yb yb 0 1 (v*3) (v*3+1) (v*3+2) 0 (yoff+i*3) (yoff+i*3+1) (yoff+i*3+2) (.int .i64 v) (.int .i64 co) (.bool on) (.slice oa ol oc) (.slice oa2 ol2 oc2) (.slice (some ⟨yb,yoff,none⟩) yn yc) (.bool yn0) (.slice ya yl yc1) (.slice ya2 yl2 yc2) w6 :=
        ⟨x0,x1,o0,o1,o2,hyb,cell_keep y0 hX6,cell_keep y1 hX6,cell_keep y2 hX6⟩
       have HF:=bH (fun W=>rfrom_any W co HOk'.out.2.1 HOk'.out.2.2)
       have HM:=bH (fun W (hW:XF w6 W) u (hu:IsRat W u ((co:Int):Rat))=>rmul_any W u _ _ (atQ y i) (L+2) (hu.reads ((Sz.int HOk'.out.2).mono (by omega))) ((hyq6.keep hW).mono (by omega)) (by omega) (by omega))
       have hpr:=(Sz.int HOk'.out.2).mul (Hq.out i)
       have HAd:=bH (fun W (hW:XF w6 W) u (hu:IsRat W u ((co:Rat)*atQ y i))=>radd_any W _ u _ _ (M+(L+2)) ((hoq.keep hW).reads ((Hsz2.out v).mono (by omega))) (hu.reads (hpr.mono (by omega))) (by omega) (by omega))
       have HArr:=bH (bI harr6 ((HW.out.2.trans HB6.out.2)))
       have HTv:=bH (show (fun j=>if j=v then (sumTo i (rowA p y v)+sumTo k (termA (p.r i) (atQ y i) v))+(co:Rat)*atQ y i else sumTo i (rowA p y j)+sumTo k (termA (p.r i) (atQ y i) j))=fun j=>sumTo i (rowA p y j)+sumTo (k+1) (termA (p.r i) (atQ y i) j) from funext fun j=>(by
        show _=sumTo i (rowA p y j)+(sumTo k (termA (p.r i) (atQ y i) j)+termA (p.r i) (atQ y i) j k)
        rw [HTA.out]
        by_cases e:j=v
        ·rw [if_pos e,e,if_pos rfl]; grind
        ·rw [if_neg e,if_neg (by omega)]; grind))
       clear x0 x1 o0 o1 o2 hyb y0 y1 y2 hyq hyq6 harr6 hoq hpr hX6 hyo Hsz2 HszI Hq Hsz HTA HA HG HS
       go_upto_region 10 with fail
       have Hv:=bH hvn
       clear hvn
       refine ends_begin 18 (S9 tb tb B B B (pb+1) yb yb yb 0 1 (v*3) (v*3+1) (v*3+2) 0 (yoff+i*3) (yoff+i*3+1) (yoff+i*3+2) (.int .i64 v) (.int .i64 co) (.bool on) (.slice oa ol oc) (.slice oa2 ol2 oc2) (.slice (some ⟨yb,yoff,none⟩) yn yc) (.bool yn0) (.slice ya yl yc1) (.slice ya2 yl2 yc2)) (by kernel_rfl) (hS.drew) (fun hHeld=>?_)
       refine ends_take 0 (v:=?_) rfl (by kernel_rfl) (by kernel_rfl) (by kernel_rfl) (by kernel_rfl) (fun _ _ _ h=>h) (by rfl) ?_ (by assumption) ?_
       rotate_left
       ·((intro w hSw; (try dsimp only at hSw); go_simp) <;> with_reducible rfl)
       (try go_frame)
       refine ends_take 1 (v:=?_) rfl (by kernel_rfl) (by kernel_rfl) (by kernel_rfl) (by kernel_rfl) (fun _ _ _ h=>h) (by rfl) ?_ (by assumption) ?_
       rotate_left
       ·((intro w hSw; (try dsimp only at hSw); go_simp) <;> with_reducible rfl)
       (try go_frame)
       refine ends_take 2 (v:=?_) rfl (by kernel_rfl) (by kernel_rfl) (by kernel_rfl) (by kernel_rfl) (fun _ _ _ h=>h) (by rfl) ?_ (by assumption) ?_
       rotate_left
       ·((intro w hSw; (try dsimp only at hSw); go_simp) <;> with_reducible rfl)
       (try go_frame)
       refine ends_take 3 (v:=?_) rfl (by kernel_rfl) (by kernel_rfl) (by kernel_rfl) (by kernel_rfl) (fun _ _ _ h=>h) (by rfl) ?_ (by assumption) ?_
       rotate_left
       ·((intro w hSw; (try dsimp only at hSw); go_simp) <;> with_reducible rfl)
       (try go_frame)
       refine ends_take 4 (v:=?_) rfl (by kernel_rfl) (by kernel_rfl) (by kernel_rfl) (by kernel_rfl) (fun _ _ _ h=>h) (by rfl) ?_ (by assumption) ?_
       rotate_left
       ·((intro w hSw; (try dsimp only at hSw); go_simp) <;> with_reducible rfl)
       (try go_frame)
       refine ends_take 5 (v:=?_) rfl (by kernel_rfl) (by kernel_rfl) (by kernel_rfl) (by kernel_rfl) (fun _ _ _ h=>h) (by rfl) ?_ (by assumption) ?_
       rotate_left
       ·((intro w hSw; (try dsimp only at hSw); go_simp) <;> with_reducible rfl)
       (try go_frame)
       refine ends_take 6 (v:=?_) rfl (by kernel_rfl) (by kernel_rfl) (by kernel_rfl) (by kernel_rfl) (fun _ _ _ h=>h) (by rfl) ?_ (by assumption) ?_
       rotate_left
       ·((intro w hSw; (try dsimp only at hSw); go_simp) <;> with_reducible rfl)
       (try go_frame)
       refine ends_take 7 (v:=?_) rfl (by kernel_rfl) (by kernel_rfl) (by kernel_rfl) (by kernel_rfl) (fun _ _ _ h=>h) (by rfl) ?_ (by assumption) ?_
       rotate_left
       ·((intro w hSw; (try dsimp only at hSw); go_simp) <;> with_reducible rfl)
       (try go_frame)
       refine ends_take 8 (v:=?_) rfl (by kernel_rfl) (by kernel_rfl) (by kernel_rfl) (by kernel_rfl) (fun _ _ _ h=>h) (by rfl) ?_ (by assumption) ?_
       rotate_left
       ·((intro w hSw; (try dsimp only at hSw); go_simp) <;> with_reducible rfl)
       (try go_frame)
       refine ends_take 9 (v:=?_) rfl (by kernel_rfl) (by kernel_rfl) (by kernel_rfl) (by kernel_rfl) (fun _ _ _ h=>h) (by rfl) ?_ (by assumption) ?_
       rotate_left
       ·((intro w hSw; (try dsimp only at hSw); go_simp) <;> with_reducible rfl)
       (try go_frame)
       refine ends_take 11 (v:=?_) rfl (by kernel_rfl) (by kernel_rfl) (by kernel_rfl) (by kernel_rfl) (fun _ _ _ h=>h) (by rfl) ?_ (by assumption) ?_
       rotate_left
       ·((intro w hSw; (try dsimp only at hSw); go_simp) <;> with_reducible rfl)
       (try go_frame)
       refine ends_take 12 (v:=?_) rfl (by kernel_rfl) (by kernel_rfl) (by kernel_rfl) (by kernel_rfl) (fun _ _ _ h=>h) (by rfl) ?_ (by assumption) ?_
       rotate_left
       ·((intro w hSw; (try dsimp only at hSw); go_simp) <;> with_reducible rfl)
       (try go_frame)
       refine ends_take 13 (v:=?_) rfl (by kernel_rfl) (by kernel_rfl) (by kernel_rfl) (by kernel_rfl) (fun _ _ _ h=>h) (by rfl) ?_ (by assumption) ?_
       rotate_left
       ·((intro w hSw; (try dsimp only at hSw); go_simp) <;> with_reducible rfl)
       (try go_frame)
       refine ends_take 14 (v:=?_) rfl (by kernel_rfl) (by kernel_rfl) (by kernel_rfl) (by kernel_rfl) (fun _ _ _ h=>h) (by rfl) ?_ (by assumption) ?_
       rotate_left
       ·((intro w hSw; (try dsimp only at hSw); go_simp) <;> with_reducible rfl)
       (try go_frame)
       refine ends_step 10 rfl (by kernel_rfl) (fun K hK=>?_)
       (go_simp; go_at_call 66; (with_reducible refine (HF.out _).mono ?_); rintro q1 w11 ⟨v11,rfl,h11,hx11⟩; have hX1:=(Ext.refl (fun _=>False) w6).drew.trans hx11; have hK1:=hS.keep hX1; have hM:=HM.out w11 hX1 _ h11; obtain ⟨n11,a11,l11,c11,a11',l11',c11',rfl⟩:=h11.shape)
       refine hK.out _ _ (hK1) (fun hHeld=>?_)
       clear hK K
       (try go_frame)
       refine ends_step 15 rfl (by kernel_rfl) (fun K hK=>?_)
       (go_simp; go_at_call 112; (with_reducible refine hM.mono ?_); rintro q2 w12 ⟨v12,rfl,h12,hx12⟩; have hX2:=hX1.trans hx12; have hK2:=hS.keep hX2; have hA3:=HAd.out w12 hX2 _ h12; obtain ⟨n12,a12,l12,c12,a12',l12',c12',rfl⟩:=h12.shape)
       refine hK.out _ _ (hK2) (fun hHeld=>?_)
       clear hK K
       (try go_frame)
       refine ends_step 16 rfl (by kernel_rfl) (fun K hK=>?_)
       (go_simp; go_at_call 67; (with_reducible refine hA3.mono ?_); rintro q3 w13 ⟨v13,rfl,h13,hx13⟩; have hX3:=hX2.trans hx13; have hK3:=hS.keep hX3; obtain ⟨n13,a13,l13,c13,a13',l13',c13',rfl⟩:=h13.shape)
       refine hK.out _ _ (hK3) (fun hHeld=>?_)
       clear hK K
       (try go_frame)
       refine ends_take 17 (v:=?_) rfl (by kernel_rfl) (by kernel_rfl) (by kernel_rfl) (by kernel_rfl) (fun _ _ _ h=>h) (by rfl) ?_ (by assumption) ?_
       rotate_left
       ·((intro w hSw; (try dsimp only at hSw); go_simp) <;> with_reducible rfl)
       (try go_frame)
       have harr13:=HArr.out.1.keep hX3
       have fz0:=harr13.free (v*3)
       have fz1:=harr13.free (v*3+1)
       have fz2:=harr13.free (v*3+2)
       obtain ⟨-,-,t0,t1,t2,-⟩:=hHeld
       refine ends_last rfl (by kernel_rfl) (fun K hK=>?_)
       go_simp
       refine hK.out _ _ ?_
       clear hK K
       (try go_frame)
       refine ends_done (by kernel_rfl) ?_ _
       have HX13:=bH (HArr.out.2.trans hX3)
       obtain ⟨p1,p2,-⟩:=harr13.put Hv.out h13
       have HP:=bH (bI p1 (HX13.out.own p2 (fun q e=>by omega)))
       clear p1 p2 harr13 h11 h12 h13 hx11 hx12 hx13 hX1 hX2 hX3 hK1 hK2 hK3 hS hM hA3 t0 t1 t2 fz0 fz1 fz2
       generalize ((w13.setCell ⟨B,v*3,none⟩ (.bool n13)).setCell ⟨B,v*3+1,none⟩ (.slice a13 l13 c13)).setCell ⟨B,v*3+2,none⟩ (.slice a13' l13' c13')=w9 at *
       go_wp2
       go_roundg (tl - (k+1))
       case measure=>omega
       case rel=>exact ⟨k+1,by omega,rfl,by go_num,(by have h0:=HP.out.1; rw [HTv.out] at h0; exact h0),HP.out.2⟩
      ·have hz:∀ j,j<n->termA (p.r i) (atQ y i) j k=0:=fun j hj=>by
        rw [HTA.out,if_neg (by omega)]
       have HZ:=bH hz
       have HE:=bH (bI (HW.out.1.keep HB6.out.2) (HW.out.2.trans HB6.out.2))
       clear hz
       by_cases hin4:0<=tv
       ·have hin5:¬ tv<(n:Int):=by omega
        go_wp2
        go_roundg (tl - (k+1))
        case measure=>omega
        case rel=>exact ⟨k+1,by omega,rfl,by go_num,HE.out.1.congr (fun j hj=>(by show _=sumTo i (rowA p y j)+(sumTo k (termA (p.r i) (atQ y i) j)+termA (p.r i) (atQ y i) j k); rw [HZ.out j hj,Rat.add_zero])),HE.out.2⟩
       ·go_wp2
        go_roundg (tl - (k+1))
        case measure=>omega
        case rel=>exact ⟨k+1,by omega,rfl,by go_num,HE.out.1.congr (fun j hj=>(by show _=sumTo i (rowA p y j)+(sumTo k (termA (p.r i) (atQ y i) j)+termA (p.r i) (atQ y i) j k); rw [HZ.out j hj,Rat.add_zero])),HE.out.2⟩
     ·obtain rfl:k=tl:=by omega
      have HW:=bH (bI harr hx)
      clear harr hx
      go_wp2
      go_roundg (m - (i+1))
      case measure=>omega
      case rel=>exact ⟨i+1,by omega,rfl,by go_num,HW.out.1.congr (fun j hj=>(by show _=sumTo i (rowA p y j)+rowA p y j i; unfold rowA; rw [HTL.out])),HW.out.2⟩
  ·obtain rfl:i=m:=by omega
   have HX:=bH (bI harr hx)
   clear harr hx
   have z1:=cell_keep (cellq HB.out.1 1 rfl) HX.out.2
   go_wp2_with fail
   refine (HS.out wr HX.out.2).mono ?_
   rintro r2 w2' ⟨v2,rfl,h2,hx2⟩
   obtain ⟨ng,sa,sn,sc,ta,tn,tc,rfl⟩:=h2.shape
   have hr3:=(HB.out.2.2.1.keep HX.out.2).keep hx2
   obtain ⟨d0,d1,d2,d3,d4,d5⟩:=hr3.facts
   have hp:=hr3.put (neg:=ng) (no_int sa sn sc) (no_int ta tn tc)
   have harr9:=(HX.out.1.keep hx2)
   have hne:¬ B=pb+1+1:=by omega
   have HP:=bH (bI hp (bI (hp.rat h2) (bI ((HB.out.2.2.2.trans (HX.out.2.trans hx2)).own hp.ext (fun k e=>by omega)) (harr9.past hp.ext hne hp.rds))))
   clear h2 hr3 hx2 hp harr9 HS
   go_wp2
   generalize (((w2'.setCell ⟨pb+1+1,0,none⟩ (.bool ng)).setCell ⟨pb+1+1,1,none⟩ (.slice sa sn sc)).setCell ⟨pb+1+1,2,none⟩ (.slice ta tn tc))=w9 at *
   obtain ⟨g0,g1,g2,_⟩:=HP.out.1.box.facts
   refine bodyPost_ret (v:=.tuple #[.slice (some ⟨B,0,none⟩) n n,.agg #[.bool ng,.slice sa sn sc,.slice ta tn tc]]) (by simp [results,Tryz.results61,go_sem,g0,g1,g2]) rfl ⟨B,_,rfl,by omega,HP.out.2.2.2.congr (fun j hj=>(combA_eq p y j).symm ▸ HN.out ▸ rfl),HP.out.2.1,HP.out.2.2.1⟩
def nv (k:Nat):Value:=.int .i64 (k:Int)
theorem nv_one (k:Nat):∀ u ∈ [Value.int .i64 (k:Int)],u.oneCell'=true:=fun u hu=>by
 rw [List.mem_singleton.1 hu]; rfl
def NOwn (w:World) (base:Nat) (v:Value) (l:List Nat):Prop:=w.ownsRow base 3 1 v l.length (l.map nv)
theorem nown_app {w:World} {base j k:Nat} {v:Value} {o:List Nat} (hlen:o.length=j) (h:w.ownsRow base 3 1 v (j+1) (o.map nv++[.int .i64 (k:Int)])):NOwn w base v (o++[k]):=by
 unfold NOwn
 rw [List.length_append,hlen,List.map_append]
 exact h
theorem NOwn.nil (w:World) (base:Nat):NOwn w base (.slice none 0 0) []:=World.ownsRow_nil w base _ 1
theorem NOwn.keep {w w':World} {base:Nat} {v:Value} {l:List Nat} (h:NOwn w base v l) (hx:XF w w'):NOwn w' base v l:=ownsRow_ext h hx (fun _ _ h=>h)
theorem NOwn.shape {w:World} {base:Nat} {v:Value} {l:List Nat} (h:NOwn w base v l):∃ ao cap,v=.slice ao l.length cap:=ownsRow_shape h
def NumsPost (w:World) (l:List Nat) (r:Ending) (w':World):Prop:=∃ v,r=.returned v/\NOwn w' w.heap.size v l/\XF w w'
theorem Tryz.infoInt:(Tryz.prog.info? 3).map (fun i=>(i.zero,i.size,i.bytes))=some (some (.int .i64 0),1,8):=by kernel_rfl
theorem Rats.take {w:World} {ao:Option Addr} {n c:Nat} {l:List Rat} {L:Nat} (h:Rats w (.slice ao n c) l L) (k:Nat) (hk:k<=n):Rats w (.slice ao k c) (l.take k) L:=by
 obtain ⟨cs,h0,⟨ao',c',e,h1,h2,h3,h4⟩,h5⟩:=h
 cases e
 refine ⟨cs.take k,by simp [h0],⟨ao,c,by rw [List.length_take,Nat.min_eq_left hk],by rw [List.length_take]; omega,h2,h3,fun hp=>?_⟩,fun i c' q hc hq=>?_⟩
 ·rw [List.length_take] at hp
  obtain ⟨b,off,e,hb,hc⟩:=h4 (by omega)
  refine ⟨b,off,e,hb,fun i r hi j u hu=>hc i r ?_ j u hu⟩
  rw [List.getElem?_take] at hi
  split at hi
  ·exact hi
  ·cases hi
 ·rw [List.getElem?_take] at hc hq
  split at hc
  ·rename_i hik
   rw [if_pos hik] at hq
   exact h5 i c' q hc hq
  ·cases hc
theorem clip_any (w w0:World) (pv xv:Value) (p:ProgV) (x:List Rat) (L:Nat) (hp:IsPrg w pv p) (hl:Rats w0 xv x L) :
  Calls Tryz.prog 167 #[pv,xv] w fun r w'=>(∃ v,r=.returned v/\Rats w0 v (clipQ p x) L)/\XF w w':=by
 obtain ⟨vv,rv,rfl,hv,-⟩:=hp
 obtain ⟨vo,vc,rfl,-,hn,-⟩:=hv.shape
 obtain ⟨xo,xc,rfl,hxo,hxn,hxc⟩:=hl.shape
 have HT:=bH (fun k hk=>hl.take k hk)
 have hxc63:xc<=9223372036854775807:=by
  obtain ⟨_,_,⟨_,_,e,_,h,_⟩,_⟩:=hl
  have e3:=(Value.slice.inj e).2.2
  unfold maxLen at h; omega
 unfold clipQ
 clear hv hl
 have HX:=bH ((Ext.refl (fun _=>False) w).alloc (.cells #[.slice vo p.vars.length vc,rv] 25))
 generalize p.vars.length=n at *
 generalize hxl:x.length=xn at *
 have HE:Hid (n<=xn∨x.take n=x.take xn):=bH (by
  by_cases h:n<=xn
  ·exact .inl h
  ·exact .inr (by rw [List.take_of_length_le (by omega),List.take_of_length_le (by omega)]))
 clear hxl
 cases xo with
 | none =>
  have hc0:xc=0:=hxo rfl
  subst hc0
  obtain rfl:xn=0:=by omega
  clear hxo
  go_enter Tryz.func167,Tryz.ntmps167
  go_wp2
  go_ret
  refine ⟨⟨_,rfl,?_⟩,HX.out⟩
  rcases HE.out with h | h
  ·obtain rfl:n=0:=by omega
   exact HT.out 0 (Nat.le_refl _)
  ·rw [h]; exact HT.out 0 (Nat.le_refl _)
 | some a =>
  clear hxo
  by_cases h:n<=xn
  ·have h':(n:Int)<=(xn:Int):=by omega
   have hm:min (xn:Int) (n:Int)=(n:Int):=by omega
   go_enter Tryz.func167,Tryz.ntmps167
   go_wp2
   all_goals
    go_ret
    exact ⟨⟨_,rfl,HT.out n h⟩,HX.out⟩
  ·have h':(xn:Int)<(n:Int):=by omega
   have hm:min (xn:Int) (n:Int)=(xn:Int):=by omega
   have HE':=bH (HE.out.resolve_left h)
   go_enter Tryz.func167,Tryz.ntmps167
   go_wp2
   all_goals
    go_ret
    exact ⟨⟨_,rfl,by rw [HE'.out]; exact HT.out xn (Nat.le_refl _)⟩,HX.out⟩
theorem dot_sz {ts:List TermV} {x:List Rat} {L T:Nat} (ht:∀ k,k<ts.length->TermOk (ts.getD k term0)) (hx:∀ i:Int,Sz (atQ x i) L) (hT:ts.length<=T):Sz (dotQ ts x) (1+T*(L+3)) :=
 (sumTo_sz (M:=L+2) (fun k hk=>((Sz.int (ht k hk).coef).mul (hx _)).mono (by omega))).mono (by
  have:=Nat.mul_le_mul_right (L+3) hT
  show 1+ts.length*(L+3)<=_
  omega)
theorem Rws.term_ok {p:ProgV} {w:World} {v:Value} (h:Rws w v p.rows) {i:Nat} (hi:i<p.rows.length):∀ k,k<(p.r i).terms.length->TermOk ((p.r i).t k):=fun k hk=>by
 obtain ⟨ao,c,rfl,_⟩:=h.shape
 obtain ⟨_,_,_,_,_,_,_,_,_,_,_,_,ht⟩:=h.atp i hi
 exact ht.ok k hk
theorem kind_sign {k:Int} {d b:Rat}:kindB k d b=if k=0 then !decide (0<(d - b).num.sign) else if k=1 then !decide ((d - b).num.sign<0) else decide ((d - b).num.sign=0):=by
 have h1:=sign_lt (d - b)
 have h2:=sign_gt (d - b)
 have h3:=sign_zero (d - b)
 unfold kindB
 split
 ·rw [<- decide_not]; exact decide_eq_decide.2 ⟨fun h h'=>by have:=h2.1 h'; grind,fun h=>Rat.not_lt.1 (fun h'=>h (h2.2 (by grind)))⟩
 ·split
  ·rw [<- decide_not]; exact decide_eq_decide.2 ⟨fun h h'=>by have:=h1.1 h'; grind,fun h=>Rat.not_lt.1 (fun h'=>h (h1.2 (by grind)))⟩
  ·exact decide_eq_decide.2 ⟨fun h=>h3.2 (by grind),fun h=>by have:=h3.1 h; grind⟩
theorem Violated_any (w:World) (pv xv:Value) (p:ProgV) (x:List Rat) (L T:Nat) (hp:IsPrg w pv p) (hy:Rats w xv x L) (h1:1<=L) (hT:∀ i,i<p.rows.length->(p.r i).terms.length<=T) (hL:1+T*(L+3)+(L+3)<=4000000) (hm:p.rows.length<=1000000) :
  Calls Tryz.prog 123 #[pv,xv] w (NumsPost w (violQ p x)):=by
 obtain ⟨ti,hi0⟩:=info_parts Tryz.infoInt
 have Hi:=bH hi0
 clear hi0
 obtain ⟨vv,rv,rfl,hvv,hr⟩:=hp
 obtain ⟨ro,rc,rfl,-,hn,-⟩:=hr.shape
 have HCl:=bH (fun W (hW:XF w W)=>clip_any W w _ xv p x L ⟨vv,_,rfl,hvv.keep hW,hr.keep hW⟩ hy)
 have Hsz:=bH (fun i hi=>dot_sz (x:=clipQ p x) (L:=L) (hr.term_ok hi) (fun j=>(by
  unfold clipQ
  obtain ⟨yo,yc,e,_⟩:=hy.shape
  rw [e] at hy
  by_cases h:p.vars.length<=x.length
  ·exact (hy.take p.vars.length h).sz h1 j
  ·rw [List.take_of_length_le (by omega)]; exact hy.sz h1 j)) (hT i hi))
 have HV:=bH hr
 have HT:=bH hT
 clear hvv hy hT
 obtain ⟨n,hn'⟩:∃ n,p.rows.length=n:=⟨_,rfl⟩
 have HN:=bH hn'
 have hb1:=blk_alloc_at w (.cells #[vv,.slice ro p.rows.length rc] 25)
 have hx1:=(Ext.refl (fun _=>False) w).alloc (.cells #[vv,.slice ro p.rows.length rc] 25)
 have HB:=bH (bI hb1 hx1)
 clear hr hb1 hx1
 rw [hn'] at hn hm HV HB HCl
 unfold violQ
 rw [hn']
 have hvl:∀ i,(violN (fun i=>holdsB (p.r i) (clipQ p x)) i).length<=i:=fun i=>by
  induction i with
  | zero=>exact Nat.le_refl _
  | succ i ih =>
   unfold violN
   split
   ·omega
   ·rw [List.length_append]; simp; exact ih
 have HVL:=bH hvl
 clear hn' hvl
 go_enter Tryz.func123,Tryz.ntmps123
 go_upto_region 1 with fail
 generalize w.alloc (.cells #[vv,.slice ro n rc] 25)=w1 at *
 obtain ⟨pb,hpb⟩:∃ pb,w.heap.size=pb:=⟨_,rfl⟩
 have hpw:w.heap.size<=pb:=Nat.le_of_eq hpb
 rw [hpb] at HB ⊢
 rw [<- hpb]
 rw [hpb]
 clear hpb
 have z0:=cellq HB.out.1 0 rfl
 have z1:=cellq HB.out.1 1 rfl
 go_wp2_with fail
 refine (HCl.out w1 HB.out.2).mono ?_
 rintro r2 w2 ⟨⟨xv2,rfl,hx2v⟩,hx2⟩
 have HX2:=bH (bI hx2v (HB.out.2.trans hx2))
 obtain ⟨zo,zc,rfl,-,-,-⟩:=hx2v.shape
 have z1:=cell_keep z1 hx2
 clear hx2v hx2 HCl z0
 generalize (clipQ p x).length=zn at *
 go_wp2_with fail
 go_loopg [15,5] n (fun gg v15 v5 wr=>∃ (i:Nat) (ov:Value),i<=n/\gg=n - i/\v15=.int .i64 i/\v5=ov/\NOwn wr w.heap.size ov (violN (fun i=>holdsB (p.r i) (clipQ p x)) i)/\XF w wr)
 case atStart=>exact ⟨0,_,Nat.zero_le _,rfl,rfl,rfl,NOwn.nil _ _,HX2.out.2⟩
 case round =>
  clear z1
  obtain ⟨i,ov,hi,rfl,rfl,rfl,ho,hx⟩:=hrel
  have HX:=bH hx
  obtain ⟨ao,cap,rfl⟩:=ho.shape
  have HO:=bH ho
  obtain ⟨ln,hln⟩:∃ ln,(violN (fun i=>holdsB (p.r i) (clipQ p x)) i).length=ln:=⟨_,rfl⟩
  have hlni:ln<=i:=by have:=HVL.out i; omega
  have Hlen:=bH hln
  rw [hln] at HO ⊢
  clear hln ho hx
  by_cases hin:i<n
  ·have i0:(i:Int)<(n:Int):=by omega
   obtain ⟨b,off,ta,tc,rfl,-,e0,e1,e2,e3,e4,hrok,htm⟩:=HV.out.atp i (by rw [HN.out]; exact hin)
   replace e0:=cell_keep e0 HX.out
   replace e1:=cell_keep e1 HX.out
   replace e2:=cell_keep e2 HX.out
   replace e3:=cell_keep e3 HX.out
   replace e4:=cell_keep e4 HX.out
   have HD0:=bH (fun W (hW:XF wr W)=>Dot_any W _ _ _ (clipQ p x) L (htm.keep (HX.out.trans hW)) (HX2.out.1.keep (HX.out.trans hW)) h1 (by
    have h:=HT.out i (by rw [HN.out]; exact hin)
    have:=Nat.mul_le_mul_right (L+3) h
    omega))
   have HszI:=bH (Hsz.out i (by rw [HN.out]; exact hin))
   have HBd:=bH hrok.bound
   have HR0:=bH (show holdsB (p.r i) (clipQ p x)=_ from kind_sign)
   clear htm hrok
   obtain ⟨tl,htl⟩:∃ tl,(p.r i).terms.length=tl:=⟨_,rfl⟩
   rw [htl] at e3 HD0
   clear htl
   obtain ⟨D,hD⟩:∃ D,dotQ (p.r i).terms (clipQ p x)=D:=⟨_,rfl⟩
   rw [hD] at HD0 HszI HR0
   clear hD
   obtain ⟨bd,hbd⟩:∃ bd,(p.r i).bound=bd:=⟨_,rfl⟩
   rw [hbd] at e4 HBd HR0
   clear hbd
   obtain ⟨k,hk⟩:∃ k,(p.r i).kind=k:=⟨_,rfl⟩
   rw [hk] at e2 HR0
   clear hk
   generalize (p.r i).name=nm at *
   generalize (p.r i).group=gr at *
   have hx3:=(Ext.refl (fun _=>False) wr).alloc (.cells #[.string nm,.int .i64 gr,.int .i64 k,.slice ta tl tc,.int .i64 bd] 58)
   have hb3:=blk_alloc_at wr (.cells #[.string nm,.int .i64 gr,.int .i64 k,.slice ta tl tc,.int .i64 bd] 58)
   have HB3:=bH (bI hb3 hx3)
   clear hb3 hx3
   go_upto_region 6 with fail
   obtain ⟨rb,hrb⟩:∃ rb,wr.heap.size=rb:=⟨_,rfl⟩
   rw [hrb] at HB3 ⊢
   generalize wr.alloc (.cells #[.string nm,.int .i64 gr,.int .i64 k,.slice ta tl tc,.int .i64 bd] 58)=w3 at *
   clear e0 e1 e2 e3 e4 hrb
   have hx3:=HB3.out.2
   have HD:=bH (fun W (hW:XF wr W)=>HD0.out W hW)
   have HF:=bH (fun W=>rfrom_any W bd HBd.out.1 HBd.out.2)
   have HC:=bH (fun W u u' (hu:IsRat W u D) (hu':IsRat W u' ((bd:Int):Rat))=>rcmp_any W u u' D _ (1+T*(L+3)+2) (hu.reads (HszI.out.mono (by omega))) (hu'.reads ((Sz.int HBd.out).mono (by omega))) (by omega) (by omega))
   have hS:S2 rb rb 3 4 (.slice ta tl tc) (.int .i64 bd) w3:=⟨cellq HB3.out.1 3 rfl,cellq HB3.out.1 4 rfl⟩
   obtain ⟨sg,hsg⟩:∃ sg,(D - (bd:Rat)).num.sign=sg:=⟨_,rfl⟩
   have HR:=bH (HR0.out.trans (by rw [hsg]))
   rw [hsg] at HC
   generalize (bd:Rat)=bq at *
   clear hsg HR0 HD0
   refine wp_region_held_drew (S:=(S2 rb rb 3 4 (.slice ta tl tc) (.int .i64 bd))) (by kernel_rfl) (hS.drew) (fun hHeld=>?_)
   refine ht 0 (h:=?_)
   (try go_frame)
   refine ht 1 (h:=?_)
   (try go_frame)
   refine ht 2 (h:=?_)
   (try go_frame)
   refine ht 4 (h:=?_)
   (try go_frame)
   refine ht 5 (h:=?_)
   (try go_frame)
   refine held_step 3 rfl (by kernel_rfl) (fun K hK=>?_)
   (go_simp; go_at_call 74; (with_reducible refine (HD.out _ (hx3.drew)).mono ?_); rintro q1 w11 ⟨v11,rfl,h11,hx11⟩; have hX1:=(Ext.refl (fun _=>False) w3).drew.trans hx11; have hK1:=hS.keep hX1; have hC1:=HC.out w11; obtain ⟨n11,a11,l11,c11,a11',l11',c11',rfl⟩:=h11.shape)
   refine hK.out _ _ (hK1) (fun hHeld=>?_)
   clear hK K
   (try go_frame)
   refine held_step 6 rfl (by kernel_rfl) (fun K hK=>?_)
   (go_simp; go_at_call 66; (with_reducible refine (HF.out _).mono ?_); rintro q2 w12 ⟨v12,rfl,h12,hx12⟩; have hX2:=hX1.trans hx12; have hK2:=hS.keep hX2; have hC2:=HC.out w12 _ _ (h11.keep hx12) h12; obtain ⟨n12,a12,l12,c12,a12',l12',c12',rfl⟩:=h12.shape)
   refine hK.out _ _ (hK2) (fun hHeld=>?_)
   clear hK K
   (try go_frame)
   refine held_step 7 rfl (by kernel_rfl) (fun K hK=>?_)
   (go_simp; go_at_call 53; (with_reducible refine hC2.mono ?_); rintro q3 w13 ⟨rfl,hx13⟩; have hX3:=hX2.trans hx13; have hK3:=hS.keep hX3)
   refine hK.out _ _ (hK3) (fun hHeld=>?_)
   clear hK K
   (try go_frame)
   refine ht 8 (h:=?_)
   (try go_frame)
   refine wpAnyH_done (by kernel_rfl) ?_ _
   have HXa:=bH (HX.out.trans (hx3.trans hX3))
   have e2:=cell_keep (cellq HB3.out.1 2 rfl) hX3
   have hok13:NOwn w13 w.heap.size (.slice ao ln cap) (violN (fun i=>holdsB (p.r i) (clipQ p x)) i):=HO.out.keep (hx3.trans hX3)
   have hxa:=(Ext.refl (fun _=>False) w13).alloc (.cells #[.int .i64 (i:Int)] 3)
   have HO1:Hid ((w13.alloc (.cells #[.int .i64 (i:Int)] 3)).ownsRow w.heap.size 3 1 (.slice ao ln cap) ln ((violN (fun i=>holdsB (p.r i) (clipQ p x)) i).map nv)):=bH (by have:=hok13.keep hxa; unfold NOwn at this; rw [Hlen.out] at this; exact this)
   have HGe:=bH (row_ge HO1.out)
   have HOk:=bH hok13
   clear hX1 hX2 hX3 hK1 hK2 hK3 hS h11 h12 hx11 hx12 hx13 hC1 hC2 hx3 HB3 HD HF HC hok13 hxa
   have hcase:(k=0/\0<sg)∨(k=0/\¬ 0<sg)∨(k=1/\sg<0)∨(k=1/\¬ sg<0)∨(¬ k=0/\¬ k=1/\¬ sg=0)∨(¬ k=0/\¬ k=1/\sg=0):=by omega
   rcases hcase with ⟨rfl,hs⟩ | ⟨rfl,hs⟩ | ⟨rfl,hs⟩ | ⟨rfl,hs⟩ | ⟨hk0,hk1,hs⟩ | ⟨hk0,hk1,hs⟩
   ·skip
    go_wp2_with (at_builtin; refine wpList_append_any rfl (.tmp 58) (.tmp 60) 42 rfl w.heap.size 3 ti _ 1 8 Tryz.underlying42 Hi.out.1 Hi.out.2.1 Hi.out.2.2.1 Hi.out.2.2.2 rfl (by decide) _ _ _ rfl HO1.out _ 1 1 (fun e=>by cases e) [.int .i64 (i:Int)] rfl rfl (.inr ⟨_,rfl,cells_new [.int .i64 (i:Int)] _ rfl⟩) (nv_one _) (by simp only [maxLen]; omega) (by omega) (Nat.le_trans HXa.out.size (by simp)) ?_; intro v5 w5 hown5 hgrow5 hat5; have HO:Hid (NOwn w5 w.heap.size v5 (violN (fun i=>holdsB (p.r i) (clipQ p x)) i++[i])):=bH (nown_app Hlen.out hown5); have HX5:Hid (XF w w5):=bH ((HXa.out.alloc (.cells #[.int .i64 (i:Int)] 3)).grown hgrow5 (fun k e h=>absurd (HGe.out k e) (by omega))); clear hown5 hgrow5 hat5)
    go_roundg (n - (i+1))
    case measure=>omega
    case rel=>exact ⟨i+1,v5,by omega,rfl,by go_num,rfl,(by show NOwn w5 w.heap.size v5 (if holdsB (p.r i) (clipQ p x) then _ else _); rw [if_neg (by rw [HR.out]; simp [hs])]; exact HO.out),HX5.out⟩
   ·skip
    go_wp2
    go_roundg (n - (i+1))
    case measure=>omega
    case rel=>exact ⟨i+1,.slice ao ln cap,by omega,rfl,by go_num,rfl,(by show NOwn w13 w.heap.size _ (if holdsB (p.r i) (clipQ p x) then _ else _); rw [if_pos (by rw [HR.out]; simp [hs])]; exact HOk.out),HXa.out⟩
   ·skip
    go_wp2_with (at_builtin; refine wpList_append_any rfl (.tmp 58) (.tmp 60) 42 rfl w.heap.size 3 ti _ 1 8 Tryz.underlying42 Hi.out.1 Hi.out.2.1 Hi.out.2.2.1 Hi.out.2.2.2 rfl (by decide) _ _ _ rfl HO1.out _ 1 1 (fun e=>by cases e) [.int .i64 (i:Int)] rfl rfl (.inr ⟨_,rfl,cells_new [.int .i64 (i:Int)] _ rfl⟩) (nv_one _) (by simp only [maxLen]; omega) (by omega) (Nat.le_trans HXa.out.size (by simp)) ?_; intro v5 w5 hown5 hgrow5 hat5; have HO:Hid (NOwn w5 w.heap.size v5 (violN (fun i=>holdsB (p.r i) (clipQ p x)) i++[i])):=bH (nown_app Hlen.out hown5); have HX5:Hid (XF w w5):=bH ((HXa.out.alloc (.cells #[.int .i64 (i:Int)] 3)).grown hgrow5 (fun k e h=>absurd (HGe.out k e) (by omega))); clear hown5 hgrow5 hat5)
    go_roundg (n - (i+1))
    case measure=>omega
    case rel=>exact ⟨i+1,v5,by omega,rfl,by go_num,rfl,(by show NOwn w5 w.heap.size v5 (if holdsB (p.r i) (clipQ p x) then _ else _); rw [if_neg (by rw [HR.out]; simp [hs])]; exact HO.out),HX5.out⟩
   ·skip
    go_wp2
    go_roundg (n - (i+1))
    case measure=>omega
    case rel=>exact ⟨i+1,.slice ao ln cap,by omega,rfl,by go_num,rfl,(by show NOwn w13 w.heap.size _ (if holdsB (p.r i) (clipQ p x) then _ else _); rw [if_pos (by rw [HR.out]; simp [hs])]; exact HOk.out),HXa.out⟩
   ·have k1:(k == 1)=false:=by simpa using hk1
    have k0:(k == 0)=false:=by simpa using hk0
    have k2:(k != 1)=true:=by simpa using hk1
    have k3:(k != 0)=true:=by simpa using hk0
    have s1:(sg != 0)=true:=by simpa using hs
    have s2:decide (sg=0)=false:=by simpa using hs
    go_wp2_with (at_builtin; refine wpList_append_any rfl (.tmp 58) (.tmp 60) 42 rfl w.heap.size 3 ti _ 1 8 Tryz.underlying42 Hi.out.1 Hi.out.2.1 Hi.out.2.2.1 Hi.out.2.2.2 rfl (by decide) _ _ _ rfl HO1.out _ 1 1 (fun e=>by cases e) [.int .i64 (i:Int)] rfl rfl (.inr ⟨_,rfl,cells_new [.int .i64 (i:Int)] _ rfl⟩) (nv_one _) (by simp only [maxLen]; omega) (by omega) (Nat.le_trans HXa.out.size (by simp)) ?_; intro v5 w5 hown5 hgrow5 hat5; have HO:Hid (NOwn w5 w.heap.size v5 (violN (fun i=>holdsB (p.r i) (clipQ p x)) i++[i])):=bH (nown_app Hlen.out hown5); have HX5:Hid (XF w w5):=bH ((HXa.out.alloc (.cells #[.int .i64 (i:Int)] 3)).grown hgrow5 (fun k e h=>absurd (HGe.out k e) (by omega))); clear hown5 hgrow5 hat5)
    go_roundg (n - (i+1))
    case measure=>omega
    case rel=>exact ⟨i+1,v5,by omega,rfl,by go_num,rfl,(by show NOwn w5 w.heap.size v5 (if holdsB (p.r i) (clipQ p x) then _ else _); rw [if_neg (by rw [HR.out]; simp [hk0,hk1,hs])]; exact HO.out),HX5.out⟩
   ·have k1:(k == 1)=false:=by simpa using hk1
    have k0:(k == 0)=false:=by simpa using hk0
    have k2:(k != 1)=true:=by simpa using hk1
    have k3:(k != 0)=true:=by simpa using hk0
    subst hs
    go_wp2
    go_roundg (n - (i+1))
    case measure=>omega
    case rel=>exact ⟨i+1,.slice ao ln cap,by omega,rfl,by go_num,rfl,(by show NOwn w13 w.heap.size _ (if holdsB (p.r i) (clipQ p x) then _ else _); rw [if_pos (by rw [HR.out]; simp [hk0,hk1])]; exact HOk.out),HXa.out⟩
  ·obtain rfl:i=n:=by omega
   go_wp2
   go_ret
   exact ⟨_,rfl,by have:=HO.out; exact this,HX.out⟩
end Go.Proofs.YtbgienfcmdgaaaaGreat
namespace Go.Proofs
open Go.Shelf
def Tryz.laysGw17_ren:Go.Shelf.Ren:=⟨fun | 17=>157 | 15=>188 | 20=>204 | n=>n,fun | 9=>9 | 23=>158 | 4=>4 | 3=>3 | 0=>0 | 21=>21 | n=>n,fun | n=>n⟩
theorem Tryz.laysGw17:Go.Proofs.LaysGw.n17 Tryz.prog Tryz.laysGw17_ren:={
 mixed:=by kernel_rfl
 f15:=Tryz.func188.trans (congrArg some (by kernel_rfl))
 f17:=Tryz.func157.trans (congrArg some (by kernel_rfl))
 f20:=Tryz.func204.trans (congrArg some (by kernel_rfl))
 t0:=Tryz.underlying0
 a0:=Tryz.isAgg0
 z0:=Tryz.sizeOf0
 v0:=Tryz.zeroValue0
 i0:=by kernel_rfl
 t3:=Tryz.underlying3
 a3:=Tryz.isAgg3
 z3:=Tryz.sizeOf3
 v3:=Tryz.zeroValue3
 i3:=by kernel_rfl
 t4:=Tryz.underlying4
 a4:=Tryz.isAgg4
 z4:=Tryz.sizeOf4
 v4:=Tryz.zeroValue4
 i4:=by kernel_rfl
 t9:=Tryz.underlying9
 a9:=Tryz.isAgg9
 z9:=Tryz.sizeOf9
 v9:=Tryz.zeroValue9
 i9:=by kernel_rfl
 t21:=Tryz.underlying21
 a21:=Tryz.isAgg21
 z21:=Tryz.sizeOf21
 v21:=Tryz.zeroValue21
 i21:=by kernel_rfl
 t23:=Tryz.underlying158
 a23:=Tryz.isAgg158
 z23:=Tryz.sizeOf158
 v23:=Tryz.zeroValue158
 i23:=by kernel_rfl }
open Go.RowKit Go.Lib in
theorem Tryz.strings_ContainsFunc (g:Nat) (lb:Array Value) (eg:∀ args w,(callFunc g args).run Tryz.prog w=.ok (.enter g args) w) (p:Nat->Bool) (s:ByteArray) (w:World) (hp:PredAt Tryz.prog g lb encR p w) :
  Calls Tryz.prog 157 #[.string s,.func (.func g) #[] lb] w fun e w'=>e=.returned (.bool (decide (0<=Lib.idxFunc p true s)))/\Below w.heap.size w w':=Any.strings_ContainsFunc Tryz.laysGw17 g lb eg p s w hp
def Tryz.laysSlH8_f154_ren:Go.Shelf.Ren:=⟨fun | 8=>154 | 6=>187 | n=>n,fun | 22=>82 | 23=>2 | 25=>98 | 4=>4 | 3=>3 | 0=>0 | n=>n,fun | n=>n⟩
theorem Tryz.laysSlH8_f154:Go.Proofs.SlLaysH.n8 Tryz.prog Tryz.laysSlH8_f154_ren:={
 mixed:=by kernel_rfl
 f6:=⟨Tryz.f187.name,by decide,Tryz.func187.trans (congrArg some (by kernel_rfl))⟩
 f8:=⟨Tryz.f154.name,by decide,Tryz.func154.trans (congrArg some (by kernel_rfl))⟩
 t0:=Tryz.underlying0
 a0:=Tryz.isAgg0
 z0:=Tryz.sizeOf0
 v0:=Tryz.zeroValue0
 t3:=Tryz.underlying3
 a3:=Tryz.isAgg3
 z3:=Tryz.sizeOf3
 v3:=Tryz.zeroValue3
 t4:=Tryz.underlying4
 a4:=Tryz.isAgg4
 z4:=Tryz.sizeOf4
 v4:=Tryz.zeroValue4
 t22:=Tryz.underlying82
 a22:=Tryz.isAgg82
 z22:=Tryz.sizeOf82
 v22:=Tryz.zeroValue82
 a23:=Tryz.isAgg2
 z23:=Tryz.sizeOf2
 t25:=Tryz.underlying98
 a25:=Tryz.isAgg98
 z25:=Tryz.sizeOf98
 v25:=Tryz.zeroValue98 }
open Go.RowKit Go.Lib in
theorem Tryz.slices_ContainsFunc {α:Type} [Inhabited α] (enc:α->Value) (p:α->Bool) (g:Nat) (lb:Array Value) (eg:∀ args w,(callFunc g args).run Tryz.prog w=.ok (.enter g args) w) (b off n c:Nat) (zs:List α) (w:World) (hp:PredAt Tryz.prog g lb enc p w) (hz:n<=zs.length) (hbig:n<=9223372036854775807) (hc:∀ j,j<zs.length->w.cell? ⟨b,off+j,none⟩=some (enc zs[j]!)) :
  Calls Tryz.prog 154 #[.slice (some ⟨b,off,none⟩) n c,.func (.func g) #[] lb] w fun e w'=>e=.returned (.bool ((zs.take n).any p))/\∃ q,w'=w.drewN q:=AnyE.slices_ContainsFunc Tryz.laysSlH8_f154 enc p g lb eg b off n c zs w hp hz hbig hc
def Tryz.laysRow8_ren:Go.Shelf.Ren:=⟨fun | 8=>107 | 6=>156 | n=>n,fun | 22=>23 | 23=>58 | 25=>119 | 4=>4 | 3=>3 | 0=>0 | n=>n,fun | n=>n⟩
theorem Tryz.laysRow8:Go.Proofs.SlLaysH0.n8 Tryz.prog Tryz.laysRow8_ren:={
 mixed:=by kernel_rfl
 f6:=⟨Tryz.f156.name,by decide,Tryz.func156.trans (congrArg some (by kernel_rfl))⟩
 f8:=⟨Tryz.f107.name,by decide,Tryz.func107.trans (congrArg some (by kernel_rfl))⟩
 t0:=Tryz.underlying0
 a0:=Tryz.isAgg0
 z0:=Tryz.sizeOf0
 v0:=Tryz.zeroValue0
 t3:=Tryz.underlying3
 a3:=Tryz.isAgg3
 z3:=Tryz.sizeOf3
 v3:=Tryz.zeroValue3
 t4:=Tryz.underlying4
 a4:=Tryz.isAgg4
 z4:=Tryz.sizeOf4
 v4:=Tryz.zeroValue4
 t22:=Tryz.underlying23
 a22:=Tryz.isAgg23
 z22:=Tryz.sizeOf23
 v22:=Tryz.zeroValue23
 t25:=Tryz.underlying119
 a25:=Tryz.isAgg119
 z25:=Tryz.sizeOf119
 v25:=Tryz.zeroValue119 }
def Tryz.laysVar8_ren:Go.Shelf.Ren:=⟨fun | 8=>83 | 6=>134 | n=>n,fun | 22=>22 | 23=>63 | 25=>101 | 4=>4 | 3=>3 | 0=>0 | n=>n,fun | n=>n⟩
theorem Tryz.laysVar8:Go.Proofs.SlLaysH0.n8 Tryz.prog Tryz.laysVar8_ren:={
 mixed:=by kernel_rfl
 f6:=⟨Tryz.f134.name,by decide,Tryz.func134.trans (congrArg some (by kernel_rfl))⟩
 f8:=⟨Tryz.f83.name,by decide,Tryz.func83.trans (congrArg some (by kernel_rfl))⟩
 t0:=Tryz.underlying0
 a0:=Tryz.isAgg0
 z0:=Tryz.sizeOf0
 v0:=Tryz.zeroValue0
 t3:=Tryz.underlying3
 a3:=Tryz.isAgg3
 z3:=Tryz.sizeOf3
 v3:=Tryz.zeroValue3
 t4:=Tryz.underlying4
 a4:=Tryz.isAgg4
 z4:=Tryz.sizeOf4
 v4:=Tryz.zeroValue4
 t22:=Tryz.underlying22
 a22:=Tryz.isAgg22
 z22:=Tryz.sizeOf22
 v22:=Tryz.zeroValue22
 t25:=Tryz.underlying101
 a25:=Tryz.isAgg101
 z25:=Tryz.sizeOf101
 v25:=Tryz.zeroValue101 }
def Tryz.laysRat8_ren:Go.Shelf.Ren:=⟨fun | 8=>170 | 6=>198 | n=>n,fun | 22=>32 | 23=>31 | 25=>106 | 4=>4 | 3=>3 | 0=>0 | n=>n,fun | n=>n⟩
theorem Tryz.laysRat8:Go.Proofs.SlLaysH0.n8 Tryz.prog Tryz.laysRat8_ren:={
 mixed:=by kernel_rfl
 f6:=⟨Tryz.f198.name,by decide,Tryz.func198.trans (congrArg some (by kernel_rfl))⟩
 f8:=⟨Tryz.f170.name,by decide,Tryz.func170.trans (congrArg some (by kernel_rfl))⟩
 t0:=Tryz.underlying0
 a0:=Tryz.isAgg0
 z0:=Tryz.sizeOf0
 v0:=Tryz.zeroValue0
 t3:=Tryz.underlying3
 a3:=Tryz.isAgg3
 z3:=Tryz.sizeOf3
 v3:=Tryz.zeroValue3
 t4:=Tryz.underlying4
 a4:=Tryz.isAgg4
 z4:=Tryz.sizeOf4
 v4:=Tryz.zeroValue4
 t22:=Tryz.underlying32
 a22:=Tryz.isAgg32
 z22:=Tryz.sizeOf32
 v22:=Tryz.zeroValue32
 t25:=Tryz.underlying106
 a25:=Tryz.isAgg106
 z25:=Tryz.sizeOf106
 v25:=Tryz.zeroValue106 }
end Go.Proofs
namespace Go.Proofs.YtbgienfcmdgaaaaGreat
open Go.RowKit Go.MapKept
open Go.ChangeMaps (setBlock)
open Go.RowKit Go.MapKept Go.Lib
theorem Below.ext {w w':World} (h:Below w.heap.size w w'):XF w w':=⟨h.os,h.tape,h.output,h.size,fun k hk _=>h.block k hk⟩
theorem limited1_pred (w:World):PredAt Tryz.prog 155 #[] (fun z:Int=>Value.int .i64 z) (fun z=>!limB z) w:=fun W z _=>by
 unfold FnGives limB
 by_cases h1:z < -1099511627776
 ·go_enter Tryz.func155,Tryz.ntmps155
  go_wp2
  go_ret
  exact ⟨ret_bool (by first | rfl | (simp; done) | (simp; omega) | omega),0,rfl⟩
 ·by_cases h2:1099511627776<z
  ·go_enter Tryz.func155,Tryz.ntmps155
   go_wp2
   go_ret
   exact ⟨ret_bool (by first | rfl | (simp; done) | (simp; omega) | omega),0,rfl⟩
  ·go_enter Tryz.func155,Tryz.ntmps155
   go_wp2
   go_ret
   exact ⟨ret_bool (by first | rfl | (simp; done) | (simp; omega) | omega),0,rfl⟩
theorem any_not_all {α:Type} (f:α->Bool):∀ l:List α,(!l.any fun z=>!f z)=l.all f
 | []=>rfl
 | a :: l=>by
  rw [List.any_cons,List.all_cons,<- any_not_all f l]
  cases f a <;> cases (l.any fun z=>!f z) <;> rfl
theorem limited_any (w:World) (b off c:Nat) (l:List Int) (hl:l.length<=9223372036854775807) (hc:∀ j z,l[j]?=some z->w.cell? ⟨b,off+j,none⟩=some (.int .i64 z)) :
  Calls Tryz.prog 106 #[.slice (some ⟨b,off,none⟩) l.length c] w (BoolPost w (l.all limB)):=by
 have hq:=Tryz.slices_ContainsFunc (fun z:Int=>Value.int .i64 z) (fun z=>!limB z) 155 #[] (enters_of Tryz.func155 (by kernel_rfl) rfl) b off l.length c l w (limited1_pred w) (Nat.le_refl _) hl (fun j hj=>(by
  rw [getElem!_pos l j hj]
  exact hc j _ (List.getElem?_eq_getElem hj)))
 rw [List.take_length] at hq
 have ha:=any_not_all limB l
 generalize (l.any fun z=>!limB z)=x at *
 have HQ:=bH hq
 have HA:=bH ha
 clear hq ha hc
 generalize l.all limB=y at *
 generalize l.length=n at *
 go_enter Tryz.func106,Tryz.ntmps106
 go_wp2_with (go_at_call 154; refine HQ.out.mono ?_; rintro e w' ⟨rfl,q,rfl⟩)
 go_ret
 exact ⟨ret_bool HA.out,(Ext.refl _ w).drewN q⟩
theorem name1_pred (w:World):PredAt Tryz.prog 158 #[] encR (fun r=>decide (r<32) || decide (126<r)) w:=fun W z _=>by
 unfold FnGives
 show Calls Tryz.prog 158 #[.int .i32 (z:Int)] W _
 by_cases h1:z<32
 ·have h1':(z:Int)<32:=by omega
  go_enter Tryz.func158,Tryz.ntmps158
  go_wp2
  go_ret
  exact ⟨ret_bool (by first | rfl | (simp; done) | (simp; omega) | omega),0,rfl⟩
 ·have h1':¬ (z:Int)<32:=by omega
  by_cases h2:126<z
  ·have h2':(126:Int)<z:=by omega
   go_enter Tryz.func158,Tryz.ntmps158
   go_wp2
   go_ret
   exact ⟨ret_bool (by first | rfl | (simp; done) | (simp; omega) | omega),0,rfl⟩
  ·have h2':¬ (126:Int)<z:=by omega
   go_enter Tryz.func158,Tryz.ntmps158
   go_wp2
   go_ret
   exact ⟨ret_bool (by first | rfl | (simp; done) | (simp; omega) | omega),0,rfl⟩
def badR (r:Nat):Bool:=decide (r<32) || decide (126<r)
theorem idx_bad (s:ByteArray):∀ (f pos:Nat),s.size<=pos+f->(0<=idxFuncFrom badR true s f pos↔∃ i,pos<=i/\∃ h:i<s.size,badR (s[i]'h).toNat=true)
 | 0,pos,h=>by
  unfold idxFuncFrom
  constructor
  ·intro h1; omega
  ·rintro ⟨i,h1,h2,_⟩; omega
 | f+1,pos,h=>by
  unfold idxFuncFrom
  by_cases hp:pos<s.size
  ·rw [if_pos hp]
   by_cases ha:(s[pos]'hp).toNat<128
   ·rw [decode_ascii s pos hp ha]
    by_cases hb:badR (s[pos]'hp).toNat=true
    ·rw [if_pos hb]
     exact ⟨fun _=>⟨pos,Nat.le_refl _,hp,hb⟩,fun _=>by omega⟩
    ·rw [if_neg hb,idx_bad s f (pos+1) (by omega)]
     constructor
     ·rintro ⟨i,h1,h2⟩; exact ⟨i,by omega,h2⟩
     ·rintro ⟨i,h1,h2,h3⟩
      refine ⟨i,?_,h2,h3⟩
      rcases Nat.lt_or_ge pos i with h4 | h4
      ·omega
      ·obtain rfl:i=pos:=by omega
       exact absurd h3 hb
   ·have hd:=(decode_high s pos hp (by omega)).1
    have hb:badR (Utf8.decode s pos).1=true:=by unfold badR; rw [decide_eq_true (p:=(126<_)) (by omega)]; simp
    rw [if_pos hb]
    refine ⟨fun _=>⟨pos,Nat.le_refl _,hp,?_⟩,fun _=>by omega⟩
    unfold badR
    rw [decide_eq_true (p:=(126<(s[pos]'hp).toNat)) (by omega)]; simp
  ·rw [if_neg hp]
   constructor
   ·intro h1; omega
   ·rintro ⟨i,h1,h2,_⟩; omega
theorem name_idx (s:ByteArray):(!decide (0<=idxFunc badR true s))=nameB s:=by
 have h:=idx_bad s s.size 0 (by omega)
 have hl:s.toList=s.data.toList:=ByteArray.toList_eq s
 cases hq:nameB s with
 | true =>
  rw [decide_eq_false]; rfl
  intro h0
  obtain ⟨i,_,hi,hb⟩:=h.1 h0
  unfold nameB at hq
  rw [hl,List.all_eq_true] at hq
  have:=hq (s[i]'hi) (by
   show s.data[i] ∈ s.data.toList
   simp)
  unfold badR at hb
  simp only [Bool.and_eq_true,Bool.or_eq_true,decide_eq_true_eq] at this hb
  omega
 | false =>
  rw [decide_eq_true]; rfl
  refine h.2 ?_
  unfold nameB at hq
  rw [hl,List.all_eq_false] at hq
  obtain ⟨x,hx,hb⟩:=hq
  obtain ⟨i,hi,rfl⟩:=List.getElem_of_mem hx
  have hi':i<s.size:=by rw [Array.length_toList] at hi; exact hi
  refine ⟨i,Nat.zero_le _,hi',?_⟩
  unfold badR
  simp only [Bool.and_eq_true,decide_eq_true_eq,Bool.or_eq_true] at hb ⊢
  have e:s[i]'hi'=s.data.toList[i]:=by
   show s.data[i]=_
   rw [Array.getElem_toList]
  rw [e]
  omega
open Go.RowKit Go.MapKept Go.Lib
theorem limited_one (w:World) (z:Int) (c:Nat):Calls Tryz.prog 106 #[.slice (some ⟨w.heap.size,0,none⟩) 1 c] (w.alloc (.cells #[.int .i64 z] 2)) (BoolPost (w.alloc (.cells #[.int .i64 z] 2)) (limB z)):=by
 have h:=limited_any (w.alloc (.cells #[.int .i64 z] 2)) w.heap.size 0 c [z] (by simp) (fun j u hj=>by
  have:=cells_new (w:=w) [Value.int .i64 z] 2 rfl j (.int .i64 u) (by
   match j,hj with
   | 0,hj=>cases hj; rfl
   | j+1,hj=>simp at hj)
  simpa [Addr.add_lit] using this)
 simpa using h
theorem name_any (w:World) (s:ByteArray):Calls Tryz.prog 157 #[.string s,.func (.func 158) #[] #[]] w fun r w'=>r=.returned (.bool (!nameB s))/\XF w w':=by
 refine (Tryz.strings_ContainsFunc 158 #[] (enters_of Tryz.func158 (by kernel_rfl) rfl) _ s w (name1_pred w)).mono ?_
 rintro r w' ⟨rfl,hb⟩
 refine ⟨ret_bool ?_,Below.ext hb⟩
 have:=name_idx s
 unfold badR at this
 rw [<- this,Bool.not_not]
theorem termsB_cons (n last:Int) (t:TermV) (l:List TermV):termsB n last (t :: l)=(decide (last<t.var) && decide (t.var<n) && !decide (t.coef=0) && limB t.coef && termsB n t.var l):=rfl
theorem validRow_any (w:World) (vars:Nat) (hv:vars<=9223372036854775807) (r:RowV) (ta:Option Addr) (tc:Nat) (hok:RowOk r) (ht:Tms w (.slice ta r.terms.length tc) r.terms) :
  Calls Tryz.prog 109 #[.int .i64 vars,.agg #[.string r.name,.int .i64 r.group,.int .i64 r.kind,.slice ta r.terms.length tc,.int .i64 r.bound]] w (BoolPost w (rowB vars r)):=by
 have hns:r.name.size<=9223372036854775807:=by have:=hok.name; unfold maxLen at this; omega
 have hg:=hok.group
 have hk:=hok.kind
 unfold InR at hg hk
 obtain ⟨-,-,-,-,htn,-⟩:=ht.shape
 have HT:=bH ht
 have HR:=bH (show rowB vars r=(decide (0<=r.kind) && decide (r.kind<=2) && decide (0<=r.group) && decide (r.group<=60) && decide (r.name.size<=80) && limB r.bound && nameB r.name && termsB vars (-1) r.terms) from rfl)
 have hb1:=blk_alloc_at w (.cells #[.string r.name,.int .i64 r.group,.int .i64 r.kind,.slice ta r.terms.length tc,.int .i64 r.bound] 58)
 have hx1:=(Ext.refl (fun _=>False) w).alloc (.cells #[.string r.name,.int .i64 r.group,.int .i64 r.kind,.slice ta r.terms.length tc,.int .i64 r.bound] 58)
 have HB:=bH (bI hb1 hx1)
 clear ht hok hb1 hx1
 obtain ⟨tl,htl⟩:∃ tl,r.terms.length=tl:=⟨_,rfl⟩
 have HTL:=bH htl
 rw [htl] at htn HT HB ⊢
 clear htl
 obtain ⟨gr,hgr⟩:∃ gr,r.group=gr:=⟨_,rfl⟩
 rw [hgr] at hg HR HB ⊢
 clear hgr
 obtain ⟨kd,hkd⟩:∃ kd,r.kind=kd:=⟨_,rfl⟩
 rw [hkd] at hk HR HB ⊢
 clear hkd
 obtain ⟨bd,hbd⟩:∃ bd,r.bound=bd:=⟨_,rfl⟩
 rw [hbd] at HR HB ⊢
 clear hbd
 obtain ⟨nm,hnm⟩:∃ nm,r.name=nm:=⟨_,rfl⟩
 rw [hnm] at hns HR HB ⊢
 clear hnm
 go_enter Tryz.func109,Tryz.ntmps109
 go_upto_region 1 with fail
 generalize hw1:w.alloc (.cells #[.string nm,.int .i64 gr,.int .i64 kd,.slice ta tl tc,.int .i64 bd] 58)=w1 at *
 clear hw1
 obtain ⟨rb,hrb⟩:∃ rb,w.heap.size=rb:=⟨_,rfl⟩
 rw [hrb] at HB ⊢
 clear hrb
 have e0:=cellq HB.out.1 0 rfl
 have e1:=cellq HB.out.1 1 rfl
 have e2:=cellq HB.out.1 2 rfl
 have e3:=cellq HB.out.1 3 rfl
 have e4:=cellq HB.out.1 4 rfl
 by_cases c1:80<nm.size
 ·have c1':(80:Int)<(nm.size:Int):=by omega
  go_wp2
  go_ret
  exact ⟨ret_bool (by rw [HR.out,decide_eq_false (p:=(nm.size<=80)) (by omega)]; simp),HB.out.2⟩
 have c1':¬ (80:Int)<(nm.size:Int):=by omega
 by_cases c2:gr<0
 ·go_wp2
  go_ret
  exact ⟨ret_bool (by rw [HR.out,decide_eq_false (p:=(0<=gr)) (by omega)]; simp),HB.out.2⟩
 by_cases c3:60<gr
 ·go_wp2
  go_ret
  exact ⟨ret_bool (by rw [HR.out,decide_eq_false (p:=(gr<=60)) (by omega)]; simp),HB.out.2⟩
 by_cases c4:kd<0
 ·go_wp2
  go_ret
  exact ⟨ret_bool (by rw [HR.out,decide_eq_false (p:=(0<=kd)) (by omega)]; simp),HB.out.2⟩
 by_cases c5:2<kd
 ·go_wp2
  go_ret
  exact ⟨ret_bool (by rw [HR.out,decide_eq_false (p:=(kd<=2)) (by omega)]; simp),HB.out.2⟩
 have HL:=bH (fun W (z:Int) c=>limited_one W z c)
 have HN:=bH (fun W=>name_any W nm)
 have HR2:Hid (rowB vars r=(limB bd && nameB nm && termsB vars (-1) r.terms)):=bH (by
  rw [HR.out,decide_eq_true (p:=(0<=kd)) (by omega),decide_eq_true (p:=(kd<=2)) (by omega),decide_eq_true (p:=(0<=gr)) (by omega),decide_eq_true (p:=(gr<=60)) (by omega),decide_eq_true (p:=(nm.size<=80)) (by omega)]
  simp)
 clear HR
 go_wp2_with fail
 refine (HL.out w1 bd _).mono ?_
 rintro r2 w2 ⟨rfl,hx2⟩
 have hx12:=((Ext.refl (fun _=>False) w1).alloc (.cells #[.int .i64 bd] 2)).trans hx2
 have HB2:=bH (bI (blk_keep HB.out.1 hx12) (HB.out.2.trans hx12))
 clear hx2 hx12 HB e0 e1 e2 e3 e4
 cases hlb:limB bd with
 | false =>
  rw [hlb] at HR2
  clear hlb
  go_wp2
  go_ret
  exact ⟨ret_bool (by rw [HR2.out]; rfl),HB2.out.2⟩
 | true =>
  rw [hlb] at HR2
  clear hlb
  have e3:=cellq HB2.out.1 3 rfl
  go_wp2_with fail
  go_loopg [42,5] tl (fun gg v42 v5 wr=>∃ (k:Nat) (la:Int),k<=tl/\gg=tl - k/\v42=.int .i64 k/\v5=.int .i64 la∧-9223372036854775808<=la/\la<=9223372036854775807/\termsB vars (-1) r.terms=termsB vars la (r.terms.drop k)/\XF w2 wr)
  case atStart=>exact ⟨0,-1,Nat.zero_le _,rfl,rfl,rfl,by omega,by omega,rfl,Ext.refl _ _⟩
  case round =>
   clear e3
   obtain ⟨k,la,hk,rfl,rfl,rfl,hla0,hla1,heq,hx⟩:=hrel
   have HX:=bH (bI heq hx)
   clear heq hx
   by_cases hin:k<tl
   ·have i0:(k:Int)<(tl:Int):=by omega
    have hkl:k<r.terms.length:=by rw [HTL.out]; exact hin
    have hdr:r.terms.drop k=r.t k :: r.terms.drop (k+1):=by
     rw [List.drop_eq_getElem_cons hkl,r.t_at hkl]
    have HD:=bH (HX.out.1.trans (by rw [hdr,termsB_cons]))
    obtain ⟨b,off,rfl,-,e0,e1,htok⟩:=(HT.out.keep (HB2.out.2.trans HX.out.2)).atr k hkl
    have hva:=htok.var
    have hco:=htok.coef
    unfold InR at hva hco
    clear hdr hkl htok
    obtain ⟨tv,htv⟩:∃ tv,(r.t k).var=tv:=⟨_,rfl⟩
    obtain ⟨co,hco'⟩:∃ co,(r.t k).coef=co:=⟨_,rfl⟩
    rw [htv] at e0 HD hva
    rw [hco'] at e1 HD hco
    clear htv hco'
    have hb3:=blk_alloc_at wr (.cells #[.int .i64 tv,.int .i64 co] 76)
    have hx3:=(Ext.refl (fun _=>False) wr).alloc (.cells #[.int .i64 tv,.int .i64 co] 76)
    have HB3:=bH (bI hb3 hx3)
    clear hb3 hx3
    go_upto_region 7 with fail
    generalize hw3:wr.alloc (.cells #[.int .i64 tv,.int .i64 co] 76)=w3 at *
    clear hw3
    obtain ⟨tb,htb⟩:∃ tb,wr.heap.size=tb:=⟨_,rfl⟩
    rw [htb] at HB3 ⊢
    clear htb e0 e1
    obtain ⟨x0,x1⟩:w3.cell? ⟨tb,0,none⟩=some (.int .i64 tv)/\w3.cell? ⟨tb,1,none⟩=some (.int .i64 co):=⟨cellq HB3.out.1 0 rfl,cellq HB3.out.1 1 rfl⟩
    have HE:=bH ((HB2.out.2.trans HX.out.2).trans HB3.out.2)
    by_cases t1:tv<=la
    ·go_wp2
     go_ret
     exact ⟨ret_bool (by rw [HR2.out,HD.out,decide_eq_false (p:=(la<tv)) (by omega)]; simp),HE.out⟩
    by_cases t2:(vars:Int)<=tv
    ·go_wp2
     go_ret
     exact ⟨ret_bool (by rw [HR2.out,HD.out,decide_eq_false (p:=(tv<(vars:Int))) (by omega)]; simp),HE.out⟩
    by_cases t3:co=0
    ·have t3':(co == 0)=true:=by simpa using t3
     subst t3
     go_wp2
     go_ret
     exact ⟨ret_bool (by rw [HR2.out,HD.out]; simp),HE.out⟩
    have t3':(co == 0)=false:=by simpa using t3
    have HD2:Hid (termsB vars (-1) r.terms=(limB co && termsB vars tv (r.terms.drop (k+1)))):=bH (by
     rw [HD.out,decide_eq_true (p:=(la<tv)) (by omega),decide_eq_true (p:=(tv<(vars:Int))) (by omega),decide_eq_false t3]; simp)
    clear HD
    go_wp2_with fail
    refine (HL.out w3 co _).mono ?_
    rintro r4 w4 ⟨rfl,hx4⟩
    have hx34:=((Ext.refl (fun _=>False) w3).alloc (.cells #[.int .i64 co] 2)).trans hx4
    have HX4:=bH ((HX.out.2.trans HB3.out.2).trans hx34)
    have y0:=cell_keep x0 hx34
    clear hx4 hx34 x0 x1 HE
    cases hlc:limB co with
    | false =>
     rw [hlc] at HD2
     clear hlc
     go_wp2
     go_ret
     exact ⟨ret_bool (by rw [HR2.out,HD2.out]; simp),HB2.out.2.trans HX4.out⟩
    | true =>
     rw [hlc] at HD2
     clear hlc
     go_wp2
     go_roundg (tl - (k+1))
     case measure=>omega
     case rel=>exact ⟨k+1,tv,by omega,rfl,by go_num,rfl,by omega,by omega,by rw [HD2.out]; simp,HX4.out⟩
   ·obtain rfl:k=tl:=by omega
    have HF:Hid (termsB vars (-1) r.terms=true):=bH (by
     rw [HX.out.1,List.drop_of_length_le (by rw [HTL.out]; exact Nat.le_refl _)]; rfl)
    have e0:=cell_keep (cellq HB2.out.1 0 rfl) HX.out.2
    go_wp2_with fail
    refine (HN.out wr).mono ?_
    rintro r4 w4 ⟨rfl,hx4⟩
    have HX4:=bH ((HB2.out.2.trans HX.out.2).trans hx4)
    clear hx4 e0
    go_wp2
    go_ret
    exact ⟨ret_bool (by rw [HR2.out,HF.out]; simp),HX4.out⟩
open Go.RowKit Go.MapKept Go.Lib
theorem rows_empty (w:World) (ao:Option Addr) (c:Nat) (fv:Value):Calls Tryz.prog 107 #[.slice ao 0 c,fv] w fun r w'=>r=.returned (.bool false)/\w'=w:=by
 have h:∀ W,Calls Tryz.prog 156 #[.slice ao 0 c,fv] W fun r w'=>r=.returned (.int .i64 (-1))/\w'=W:=fun W=>by
  go_enter Tryz.func156,Tryz.ntmps156
  go_wp2_with fail
  go_loopg [8] 0 (fun gg s8 wr=>s8=.int .i64 0/\wr=W)
  case atStart=>exact ⟨rfl,rfl⟩
  case round =>
   obtain ⟨rfl,rfl⟩:=hrel
   go_wp2
   go_ret
   exact ⟨rfl,rfl⟩
 have H:=bH h
 clear h
 go_enter Tryz.func107,Tryz.ntmps107
 go_wp2_with (go_at_call 156; refine (H.out _).mono ?_; rintro e w' ⟨rfl,rfl⟩)
 go_ret
 exact ⟨rfl,rfl⟩
def rowC (p:ProgV) (tvs:List Value) (j:Nat):List Value:=cR (p.r j) (tvs.getD j (.slice none 0 0))
theorem valid1_any (w:World) (pb:Nat) (vv rv:Value) (p:ProgV) (hp:blk w pb=some (.cells #[vv,rv] 25 (0,0))) (hv:Vrs w vv p.vars) (r:RowV) (tv:Value) (ht:Tms w tv r.terms) (hok:RowOk r) :
  Calls Tryz.prog 108 #[.agg (cR r tv).toArray,.pointer (some ⟨pb,0,none⟩)] w (BoolPost w (!rowB p.vars.length r)):=by
 obtain ⟨vo,vc,rfl,-,hn,-⟩:=hv.shape
 obtain ⟨ta,tc,rfl,-,-,-⟩:=ht.shape
 have HR:=bH (fun W (hW:XF w W)=>validRow_any W p.vars.length hn r ta tc hok (ht.keep hW))
 have hx:=(Ext.refl (fun _=>False) w).alloc (.cells #[.string r.name,.int .i64 r.group,.int .i64 r.kind,.slice ta r.terms.length tc,.int .i64 r.bound] 58)
 have z0:=cell_keep (cellq hp 0 rfl) hx
 have HX:=bH hx
 clear hv ht hok hp hx
 generalize p.vars.length=n at *
 generalize r.terms.length=tl at *
 generalize rowB n r=b at *
 show Calls Tryz.prog 108 #[.agg #[.string r.name,.int .i64 r.group,.int .i64 r.kind,.slice ta tl tc,.int .i64 r.bound],.pointer (some ⟨pb,0,none⟩)] w _
 go_enter Tryz.func108,Tryz.ntmps108
 go_wp2_with (go_at_call 109; refine (HR.out _ HX.out).mono ?_; rintro e w' ⟨rfl,hx'⟩)
 go_ret
 exact ⟨rfl,HX.out.trans hx'⟩
theorem all_range {α:Type} (f:α->Bool) (l:List α) (d:α):(!(List.range l.length).any fun j=>!f (l.getD j d))=l.all f:=by
 rw [any_not_all]
 have h:(List.range l.length).map (fun j=>l.getD j d)=l:=by
  refine List.ext_getElem (by simp) (fun i h1 h2=>?_)
  simp [List.getElem?_eq_getElem h2]
 conv=>rhs; rw [<- h]
 rw [List.all_map]; rfl
theorem rows_any (w:World) (pb:Nat) (vv rv:Value) (p:ProgV) (hp:blk w pb=some (.cells #[vv,rv] 25 (0,0))) (hv:Vrs w vv p.vars) (hr:Rws w rv p.rows) :
  Calls Tryz.prog 107 #[rv,.func (.func 108) #[] #[.pointer (some ⟨pb,0,none⟩)]] w fun r w'=>r=.returned (.bool (!p.rows.all (rowB p.vars.length)))/\XF w w':=by
 obtain ⟨ro,rc,rfl,-,hn,-⟩:=hr.shape
 by_cases h0:p.rows.length=0
 ·rw [h0]
  refine (rows_empty w ro rc _).mono ?_
  rintro r w' ⟨rfl,rfl⟩
  refine ⟨ret_bool ?_,Ext.refl _ _⟩
  rw [List.eq_nil_of_length_eq_zero h0]; rfl
 obtain ⟨tvs,hl,⟨ao,c,e,h1,h2,h3,h4⟩,h5⟩:=hr
 rw [List.length_zipWith,hl,Nat.min_self] at e h1 h4
 cases e
 obtain ⟨b,off,rfl,hlt,hc⟩:=h4 (by omega)
 have hall:∀ j,Tms w (tvs.getD j (.slice none 0 0)) (p.r j).terms/\RowOk (p.r j):=fun j=>by
  by_cases hj:j<p.rows.length
  ·have hj':j<tvs.length:=by omega
   have:=h5 j _ _ (List.getElem?_eq_getElem hj) (List.getElem?_eq_getElem hj')
   rw [p.r_at hj] at this
   rw [getD_lt hj']
   exact this
  ·have e1:p.r j=row0:=by
    unfold ProgV.r
    rw [List.getD_eq_getElem?_getD,List.getElem?_eq_none (by omega)]; rfl
   rw [List.getD_eq_getElem?_getD,List.getElem?_eq_none (by omega),e1]
   refine ⟨⟨Sl.nil w 2,fun t ht=>(by cases ht)⟩,⟨?_,?_,?_,?_⟩⟩
   ·show (0:Nat)<=maxLen; exact Nat.zero_le _
   all_goals (constructor <;> (show (_:Int)<=_) <;> decide)
 have hq:=AnyQ.slices_ContainsFunc Tryz.laysRow8 5 Tryz.isAgg58 Tryz.sizeOf58 (rowC p tvs) (fun _=>rfl) (fun j=>!rowB p.vars.length (p.r j)) 108 #[.pointer (some ⟨pb,0,none⟩)] (enters_of Tryz.func108 (by kernel_rfl) rfl) b off p.rows.length rc (List.range p.rows.length) w
  (fun W j hW=>by
   have hx:=Below.ext hW
   refine (valid1_any W pb vv _ p (blk_keep hp hx) (hv.keep hx) (p.r j) _ ((hall j).1.keep hx) (hall j).2).mono ?_
   rintro e w' ⟨rfl,hx'⟩
   exact ⟨rfl,(hx.trans hx').below⟩)
  (by simp) hn hlt (fun j hj i v hi=>by
   rw [List.length_range] at hj
   rw [getElem!_pos _ j (by simpa using hj),List.getElem_range] at hi
   refine hc j _ ?_ i v hi
   have hj':j<tvs.length:=by omega
   rw [List.getElem?_zipWith,List.getElem?_eq_getElem hj,List.getElem?_eq_getElem hj',p.r_at hj]
   show some (cR (p.r j) tvs[j])=some (cR (p.r j) (tvs.getD j _))
   rw [getD_lt hj'])
 refine hq.mono ?_
 rintro r w' ⟨rfl,hb⟩
 refine ⟨ret_bool ?_,Below.ext hb⟩
 have ht:List.take p.rows.length (List.range p.rows.length)=List.range p.rows.length:=by
  rw [List.take_of_length_le (by simp)]
 rw [ht,<- all_range (rowB p.vars.length) p.rows row0,Bool.not_not]
 rfl
theorem varB_eq (v:VarV):varB v=([v.lo,v.up,v.co].all limB && !(v.op && !decide (v.up=0))):=by
 unfold varB
 simp [Bool.and_assoc]
theorem all_next {α:Type} {f:α->Bool} {l:List α} {d:α} {i:Nat} (hi:i<l.length) (h:(l.take i).all f=true) (hf:f (l.getD i d)=true):(l.take (i+1)).all f=true:=by
 rw [List.take_succ_eq_append_getElem hi,List.all_append,h,Bool.true_and,List.all_cons,List.all_nil,Bool.and_true,<- getD_lt hi d]
 exact hf
theorem all_fails {α:Type} {f:α->Bool} {l:List α} {d:α} {i:Nat} (hi:i<l.length) (hf:f (l.getD i d)=false):l.all f=false:=by
 rw [List.all_eq_false]
 exact ⟨_,List.getElem_mem hi,by rw [<- getD_lt hi d,hf]; simp⟩
theorem Valid_any (w:World) (pv:Value) (p:ProgV) (hp:IsPrg w pv p):Calls Tryz.prog 57 #[pv] w (BoolPost w (validB p)):=by
 obtain ⟨vv,rv,rfl,hv,hr⟩:=hp
 obtain ⟨vo,vc,rfl,-,hn,-⟩:=hv.shape
 obtain ⟨ro,rc,rfl,-,hrn,-⟩:=hr.shape
 have HV:=bH (bI hv hr)
 have HR:=bH (show validB p=(decide (p.vars.length<=400) && decide (p.rows.length<=4000) && p.vars.all varB && p.rows.all (rowB p.vars.length)) from rfl)
 have hb:=blk_alloc_at w (.cells #[.slice vo p.vars.length vc,.slice ro p.rows.length rc] 25)
 have hx:=(Ext.refl (fun _=>False) w).alloc (.cells #[.slice vo p.vars.length vc,.slice ro p.rows.length rc] 25)
 have HB:=bH (bI hb hx)
 have HW:=bH (fun W (hW:XF w W) pb hpb=>rows_any W pb _ _ p hpb (hv.keep hW) (hr.keep hW))
 clear hv hr hb hx
 obtain ⟨n,hn'⟩:∃ n,p.vars.length=n:=⟨_,rfl⟩
 have HN:=bH hn'
 rw [hn'] at hn HV HR HB HW ⊢
 clear hn'
 obtain ⟨m,hm'⟩:∃ m,p.rows.length=m:=⟨_,rfl⟩
 rw [hm'] at hrn HV HR HB HW ⊢
 clear hm'
 generalize p.rows.all (rowB n)=rb at *
 go_enter Tryz.func57,Tryz.ntmps57
 go_upto_region 1 with fail
 generalize hw1:w.alloc (.cells #[.slice vo n vc,.slice ro m rc] 25)=w1 at *
 clear hw1
 obtain ⟨pb,hpb⟩:∃ pb,w.heap.size=pb:=⟨_,rfl⟩
 rw [hpb] at HB ⊢
 clear hpb
 have z0:=cellq HB.out.1 0 rfl
 have z1:=cellq HB.out.1 1 rfl
 by_cases c1:400<n
 ·have c1':(400:Int)<(n:Int):=by omega
  go_wp2
  go_ret
  exact ⟨ret_bool (by rw [HR.out,decide_eq_false (p:=(n<=400)) (by omega)]; simp),HB.out.2⟩
 have c1':¬ (400:Int)<(n:Int):=by omega
 by_cases c2:4000<m
 ·have c2':(4000:Int)<(m:Int):=by omega
  go_wp2
  go_ret
  exact ⟨ret_bool (by rw [HR.out,decide_eq_false (p:=(m<=4000)) (by omega)]; simp),HB.out.2⟩
 have c2':¬ (4000:Int)<(m:Int):=by omega
 have HR2:Hid (validB p=(p.vars.all varB && rb)):=bH (by rw [HR.out,decide_eq_true (p:=(n<=400)) (by omega),decide_eq_true (p:=(m<=4000)) (by omega)]; simp)
 clear HR
 go_wp2_with fail
 go_loopg [18] n (fun gg v18 wr=>∃ i:Nat,i<=n/\gg=n - i/\v18=.int .i64 i/\(p.vars.take i).all varB=true/\XF w1 wr)
 case atStart=>exact ⟨0,Nat.zero_le _,rfl,rfl,rfl,Ext.refl _ _⟩
 case round =>
  clear z0 z1
  obtain ⟨i,hi,rfl,rfl,hall,hx⟩:=hrel
  have HX:=bH (bI hall hx)
  clear hall hx
  by_cases hin:i<n
  ·have i0:(i:Int)<(n:Int):=by omega
   have HI:Hid (i<p.vars.length):=bH (by rw [HN.out]; exact hin)
   obtain ⟨b,off,rfl,-,e0,e1,e2,e3,e4,-⟩:=(HV.out.1.keep (HB.out.2.trans HX.out.2)).atp i HI.out
   have hb1:=BoxV.new wr (p.v i)
   have hx1:=(Ext.refl (fun _=>False) wr).alloc (.cells #[.int .i64 (p.v i).lo,.int .i64 (p.v i).up,.bool (p.v i).op,.bool (p.v i).ig,.int .i64 (p.v i).co] 63)
   have HB1:=bH (bI hb1 hx1)
   have HVB:=bH (varB_eq (p.v i))
   clear hb1 hx1
   go_upto_region 6 with fail
   generalize hw2:wr.alloc (.cells #[.int .i64 (p.v i).lo,.int .i64 (p.v i).up,.bool (p.v i).op,.bool (p.v i).ig,.int .i64 (p.v i).co] 63)=w2 at *
   clear hw2 e0 e1 e2 e3 e4
   obtain ⟨vb,hvb⟩:∃ vb,wr.heap.size=vb:=⟨_,rfl⟩
   rw [hvb] at HB1 ⊢
   clear hvb
   obtain ⟨f0,f1,f2,-,f4⟩:=HB1.out.1.facts
   have HL:=bH (limited_any (w2.alloc (.cells #[.int .i64 (p.v i).lo,.int .i64 (p.v i).up,.int .i64 (p.v i).co] 2)) w2.heap.size 0 3 [(p.v i).lo,(p.v i).up,(p.v i).co] (by simp) (fun j u hj=>(by
    have:=cells_new (w:=w2) [Value.int .i64 (p.v i).lo,.int .i64 (p.v i).up,.int .i64 (p.v i).co] 2 rfl j (.int .i64 u) (by
     match j,hj with
     | 0,hj=>cases hj; rfl
     | 1,hj=>cases hj; rfl
     | 2,hj=>cases hj; rfl
     | j+3,hj=>simp at hj)
    simpa [Addr.add_lit] using this)))
   simp only [List.length_cons,List.length_nil,Nat.zero_add] at HL
   obtain ⟨lb,hlb⟩:∃ lb,[(p.v i).lo,(p.v i).up,(p.v i).co].all limB=lb:=⟨_,rfl⟩
   rw [hlb] at HL HVB
   clear hlb
   generalize (p.v i).lo=lo at *
   generalize (p.v i).up=up at *
   generalize (p.v i).op=o at *
   generalize (p.v i).ig=ig at *
   generalize (p.v i).co=co at *
   go_wp2_with fail
   refine HL.out.mono ?_
   rintro r3 w3 ⟨rfl,hx3⟩
   have hx23:=((Ext.refl (fun _=>False) w2).alloc (.cells #[.int .i64 lo,.int .i64 up,.int .i64 co] 2)).trans hx3
   have HX3:=bH ((HX.out.2.trans HB1.out.2).trans hx23)
   have g1:=cell_keep f1 hx23
   have g2:=cell_keep f2 hx23
   clear f0 f1 f2 f4 hx3 hx23 HL HB1
   cases lb with
   | false =>
    go_wp2
    go_ret
    exact ⟨ret_bool (by rw [HR2.out,all_fails (d:=var0) HI.out (HVB.out.trans rfl)]; rfl),HB.out.2.trans HX3.out⟩
   | true =>
    cases o with
    | false =>
     go_wp2
     go_roundg (n - (i+1))
     case measure=>omega
     case rel=>exact ⟨i+1,by omega,rfl,by go_num,all_next (d:=var0) HI.out HX.out.1 (HVB.out.trans rfl),HX3.out⟩
    | true =>
     by_cases hu:up=0
     ·have hu':(up == 0)=true:=by simpa using hu
      have HVB':=bH (HVB.out.trans (show _=true by rw [decide_eq_true hu]; rfl))
      clear HVB
      subst hu
      go_wp2
      go_roundg (n - (i+1))
      case measure=>omega
      case rel=>exact ⟨i+1,by omega,rfl,by go_num,all_next (d:=var0) HI.out HX.out.1 HVB'.out,HX3.out⟩
     ·have hu':(up == 0)=false:=by simpa using hu
      have hu2:(up != 0)=true:=by simpa using hu
      have HVB':=bH (HVB.out.trans (show _=false by rw [decide_eq_false hu]; rfl))
      clear HVB
      go_wp2
      go_ret
      exact ⟨ret_bool (by rw [HR2.out,all_fails (d:=var0) HI.out HVB'.out]; rfl),HB.out.2.trans HX3.out⟩
  ·obtain rfl:i=n:=by omega
   have HF:Hid (p.vars.all varB=true):=bH (by
    have:=HX.out.1
    rw [List.take_of_length_le (by rw [HN.out]; exact Nat.le_refl _)] at this
    exact this)
   have z1:=cell_keep (cellq HB.out.1 1 rfl) HX.out.2
   have HW2:=bH (HW.out wr (HB.out.2.trans HX.out.2) pb (blk_keep HB.out.1 HX.out.2))
   go_wp2_with fail
   refine HW2.out.mono ?_
   rintro r3 w3 ⟨rfl,hx3⟩
   have HX3:=bH ((HB.out.2.trans HX.out.2).trans hx3)
   clear hx3 z1 HW2
   go_wp2
   go_ret
   exact ⟨ret_bool (by rw [HR2.out,HF.out]; simp),HX3.out⟩
structure Room (n m T L:Nat):Prop where
 one:1<=L
 sum:(n+1)*(m*(T*(L+3)+2)+7)+T*(L+3)+m*(L+3)+n*(L+3)+L<=1000000
def sizeA (m T L:Nat):Nat:=1+m*(T*(L+3)+2)
theorem Room.all {n m T L:Nat} (h:Room n m T L):1+m*(T*(L+3)+2)+(1+T*(L+3))+(L+3)<=4000000/\1+m*(L+3)+(L+3)<=4000000/\n<=1000000/\sizeA m T L+3<=1000000 /\
  1+n*(sizeA m T L+3+3)+(sizeA m T L+3+3)<=2000000/\1+T*(L+3)+(L+3)<=4000000/\1+n*(L+3)+(L+3)<=4000000/\L<=1000000/\1+m*(L+3)<=1000000:=by
 have h1:=h.sum
 unfold sizeA
 generalize m*(T*(L+3)+2)=X at *
 generalize T*(L+3)=Y at *
 have e:n*(1+X+3+3)=n*(X+7):=by rw [show 1+X+3+3=X+7 from by omega]
 rw [Nat.succ_mul] at h1
 rw [e]
 have h2:n<=n*(X+7):=Nat.le_mul_of_pos_right n (by omega)
 generalize n*(X+7)=Z at *
 generalize m*(L+3)=U at *
 generalize n*(L+3)=V at *
 omega
theorem combA_sz {p:ProgV} {y:List Rat} {w:World} {v:Value} {L T:Nat} (hr:Rws w v p.rows) (hy:∀ i:Int,Sz (atQ y i) L) (hT:∀ i,i<p.rows.length->(p.r i).terms.length<=T) (j:Nat):Sz (combA p y j) (sizeA p.rows.length T L):=by
 rw [combA_eq]
 refine (sumTo_sz (M:=1+T*(L+3)) (fun i hi=>?_)).mono (by
  unfold sizeA
  rw [show 1+T*(L+3)+1=T*(L+3)+2 from by omega]
  exact Nat.le_refl _)
 refine (sumTo_sz (M:=L+2) (fun k hk=>termA_sz (hy i) (hr.term_ok hi k hk) j)).mono ?_
 have:=Nat.mul_le_mul_right (L+3) (hT i hi)
 show 1+(p.r i).terms.length*(L+3)<=_
 omega
theorem combB_sz {p:ProgV} {y:List Rat} {w:World} {v:Value} {L:Nat} (hr:Rws w v p.rows) (hy:∀ i:Int,Sz (atQ y i) L):Sz (combB p y) (1+p.rows.length*(L+3)) :=
 sumTo_sz (M:=L+2) (fun i hi=>((Sz.int (hr.ok i hi).bound).mul (hy i)).mono (by omega))
theorem leastS_sz {p:ProgV} {c:List Rat} {w:World} {v:Value} {L:Nat} (hv:Vrs w v p.vars) (hc:∀ i:Int,Sz (atQ c i) L):Sz (leastS p c) (1+p.vars.length*(L+3)) :=
 sumTo_sz (M:=L+2) (fun i hi=>((Sz.int (pick_in hv c i hi)).mul (hc i)).mono (by omega))
theorem OptPost.open {w w':World} {q:Option Rat} {r:Ending} (h:OptPost w q r w'):∃ neg a1 m1 c1 a2 m2 c2,r=.returned (.tuple #[.agg #[.bool neg,.slice a1 m1 c1,.slice a2 m2 c2],.bool q.isSome])/\IsRat w' (.agg #[.bool neg,.slice a1 m1 c1,.slice a2 m2 c2]) (q.getD 0)/\XF w w':=by
 obtain ⟨hx,h⟩:=h
 cases q with
 | none =>
  obtain ⟨v,rfl,hv⟩:=h
  obtain ⟨neg,a1,m1,c1,a2,m2,c2,rfl⟩:=hv.shape
  exact ⟨neg,a1,m1,c1,a2,m2,c2,rfl,hv,hx⟩
 | some q =>
  obtain ⟨v,rfl,hv⟩:=h
  obtain ⟨neg,a1,m1,c1,a2,m2,c2,rfl⟩:=hv.shape
  exact ⟨neg,a1,m1,c1,a2,m2,c2,rfl,hv,hx⟩
theorem atQ_listTo_sz {n:Nat} {f:Nat->Rat} {L:Nat} (h:∀ i,i<n->Sz (f i) L) (h1:1<=L) (i:Int):Sz (atQ (listTo n f) i) L:=by
 by_cases h0:i<0
 ·rw [atQ_neg _ h0]; exact Sz.zero.mono h1
 by_cases h2:((listTo n f).length:Int)<=i
 ·rw [atQ_out _ h2]; exact Sz.zero.mono h1
 obtain ⟨j,rfl⟩:∃ j:Nat,i=j:=⟨i.toNat,by omega⟩
 rw [listTo_length] at h2
 rw [atQ_listTo _ (by omega)]
 exact h j (by omega)
structure Small (p:ProgV) (T L:Nat):Prop where
 room:Room p.vars.length p.rows.length T L
 terms:∀ i,i<p.rows.length->(p.r i).terms.length<=T
theorem Bound_any (w:World) (pv yv:Value) (p:ProgV) (y:List Rat) (L T:Nat) (hp:IsPrg w pv p) (hy:Rats w yv y L) (hs:Small p T L) :
  Calls Tryz.prog 23 #[pv,yv] w (OptPost w (boundQ p y)):=by
 have h1:=hs.room.one
 obtain ⟨r1,r2,r3,r4,r5,r6,r7,r8,r9⟩:=hs.room.all
 have HP:=bH hp
 obtain ⟨vv,rv,rfl,hv,hr⟩:=hp
 obtain ⟨vo,vc,rfl,-,hn,-⟩:=hv.shape
 obtain ⟨ro,rc,rfl,-,hrn,-⟩:=hr.shape
 have HVal:=bH (fun W (hW:XF w W)=>Valid_any W _ p (HP.out.keep hW))
 have HSig:=bH (fun W (hW:XF w W)=>Signed_any W _ _ p y L (HP.out.keep hW) (hy.keep hW) h1 (by omega))
 have HCom:=bH (fun W (hW:XF w W)=>Combine_any W _ _ p y L T (HP.out.keep hW) (hy.keep hW) h1 hs.terms r1 r2 r3)
 have hyz:=hy.sz h1
 have hA:=combA_sz hr hyz hs.terms
 have hB:=combB_sz hr hyz
 have hD:∀ i,i<p.vars.length->Sz (((p.v i).co:Rat) - combA p y i) (sizeA p.rows.length T L+3):=fun i hi=>((Sz.int (hv.ok i hi).co).sub (hA i)).mono (by omega)
 have HEa:=bH (fun W (hW:XF w W) pb ab B (hpb:blk W pb=some (.cells #[.slice vo p.vars.length vc,.slice ro p.rows.length rc] 25 (0,0))) (hab:blk W ab=some (.cells #[.slice (some ⟨B,0,none⟩) p.vars.length p.vars.length] 32 (0,0))) (ha:RArr W B p.vars.length (combA p y)) =>
  each_any W p.vars.length 64 #[.pointer (some ⟨pb,0,none⟩),.pointer (some ⟨ab,0,none⟩)] (fun i=>((p.v i).co:Rat) - combA p y i) r3 (enters_of Tryz.func64 (by kernel_rfl) rfl)
   (fun W' hW' i hi=>bound1_any W' pb ab B p.vars.length _ _ p (combA p y) (sizeA p.rows.length T L+3) (blk_keep hpb hW') (hv.keep (hW.trans hW')) (blk_keep hab hW') r3 rfl (ha.keep hW') (by omega) (by omega) (fun j _=>(hA j).mono (by omega)) i hi))
 have HLa:=bH (fun W (hW:XF w W) B (ha:RArr W B p.vars.length (fun i=>((p.v i).co:Rat) - combA p y i)) =>
  Least_any W _ _ p (listTo p.vars.length fun i=>((p.v i).co:Rat) - combA p y i) (sizeA p.rows.length T L+3) (HP.out.keep hW) (ha.rats hD (Nat.le_refl _) (by unfold maxLen; omega)) (by omega) (by omega))
 have hlz:=leastS_sz (c:=listTo p.vars.length fun i=>((p.v i).co:Rat) - combA p y i) hv (atQ_listTo_sz hD (by omega))
 have HAd:=bH (fun W u u' q (hu:IsRat W u (combB p y)) (hu':IsRat W u' q) (hq:Sz q (1+p.vars.length*(sizeA p.rows.length T L+3+3)))=>radd_any W u u' _ q (1+p.vars.length*(sizeA p.rows.length T L+3+3)+(1+p.rows.length*(L+3))) (hu.reads (hB.mono (by omega))) (hu'.reads (hq.mono (by omega))) (by omega) (by omega))
 have HQ:=bH (show boundQ p y=if validB p && signedB p y then (leastQ p (listTo p.vars.length fun i=>((p.v i).co:Rat) - combA p y i)).map (combB p y+·) else none from rfl)
 have HLz:Hid (∀ q,leastQ p (listTo p.vars.length fun i=>((p.v i).co:Rat) - combA p y i)=some q->Sz q (1+p.vars.length*(sizeA p.rows.length T L+3+3))):=bH (fun q hq=>by
  obtain ⟨_,_,e⟩:=least_some hq
  rw [e]; exact hlz)
 clear hv hr hy hyz hA hB hD hlz HP hs r1 r2 r4 r5 r6 r7 r8 r9 h1
 obtain ⟨n,hn'⟩:∃ n,p.vars.length=n:=⟨_,rfl⟩
 rw [hn'] at hn r3 HVal HSig HCom HEa HLa HAd HQ HLz ⊢
 clear hn'
 obtain ⟨m,hm'⟩:∃ m,p.rows.length=m:=⟨_,rfl⟩
 rw [hm'] at hrn HVal HSig HCom HEa HLa HAd HLz ⊢
 clear hm'
 generalize (1+n*(sizeA m T L+3+3))=szl at *
 obtain ⟨f,hf⟩:∃ f,(fun i=>((p.v i).co:Rat) - combA p y i)=f:=⟨_,rfl⟩
 rw [hf] at HEa HLa HQ HLz
 clear hf
 generalize leastQ p (listTo n f)=lq at *
 obtain ⟨b0,b1⟩:blk ((w.alloc (.cells #[.slice vo n vc,.slice ro m rc] 25)).alloc (.cells #[.bool false,.slice none 0 0,.slice none 0 0] 31)) w.heap.size=some (.cells #[.slice vo n vc,.slice ro m rc] 25 (0,0))/\BoxR ((w.alloc (.cells #[.slice vo n vc,.slice ro m rc] 25)).alloc (.cells #[.bool false,.slice none 0 0,.slice none 0 0] 31)) (w.heap.size+1) false (.slice none 0 0) (.slice none 0 0):=by
  refine ⟨(blk_alloc_past _ _ _ (by simp)).trans (blk_alloc_at _ _),?_⟩
  have:=boxR_new (W:=w.alloc (.cells #[.slice vo n vc,.slice ro m rc] 25)) rfl false none 0 0 none 0 0
  rwa [World.size_alloc] at this
 have HB:=bH (bI b0 (bI b1 (((Ext.refl (fun _=>False) w).alloc (.cells #[.slice vo n vc,.slice ro m rc] 25)).alloc (.cells #[.bool false,.slice none 0 0,.slice none 0 0] 31))))
 clear b0 b1
 go_enter Tryz.func23,Tryz.ntmps23
 go_upto_region 1 with fail
 generalize hw1:(w.alloc (.cells #[.slice vo n vc,.slice ro m rc] 25)).alloc (.cells #[.bool false,.slice none 0 0,.slice none 0 0] 31)=w1 at *
 clear hw1
 obtain ⟨pb,hpb⟩:∃ pb,w.heap.size=pb:=⟨_,rfl⟩
 have hpw:w.heap.size<=pb:=Nat.le_of_eq hpb
 rw [hpb] at HB ⊢
 clear hpb
 have z0:=cellq HB.out.1 0 rfl
 have z1:=cellq HB.out.1 1 rfl
 go_wp2_with fail
 refine (HVal.out w1 HB.out.2.2).mono ?_
 rintro r2 w2 ⟨rfl,hx2⟩
 have y0:=cell_keep z0 hx2
 have y1:=cell_keep z1 hx2
 have HX2:=bH hx2
 clear hx2 z0 z1
 cases hvb:validB p with
 | false =>
  rw [hvb] at HQ
  clear hvb
  have hbr:=HB.out.2.1.keep HX2.out
  obtain ⟨d0,d1,d2,d3,d4,d5⟩:=hbr.facts
  have HPut:=bH (hbr.put (neg:=false) (no_int none 0 0) (no_int none 0 0))
  clear hbr
  go_wp2
  generalize (((w2.setCell ⟨pb+1,0,none⟩ (.bool false)).setCell ⟨pb+1,1,none⟩ (.slice none 0 0)).setCell ⟨pb+1,2,none⟩ (.slice none 0 0))=w9 at *
  obtain ⟨g0,g1,g2,_⟩:=HPut.out.box.facts
  refine bodyPost_ret (v:=.tuple #[.agg #[.bool false,.slice none 0 0,.slice none 0 0],.bool false]) (by simp [results,Tryz.results23,go_sem,g0,g1,g2]) rfl ⟨?_,?_⟩
  ·exact (HB.out.2.2.trans HX2.out).own HPut.out.ext (fun k e=>by omega)
  ·rw [HQ.out]
   exact ⟨_,rfl,IsRat.zero _⟩
 | true =>
  rw [hvb] at HQ
  clear hvb
  go_wp2_with fail
  refine (HSig.out w2 (HB.out.2.2.trans HX2.out)).mono ?_
  rintro r3' w3 ⟨rfl,hx3⟩
  have hx13:=HX2.out.trans hx3
  have hbr:=HB.out.2.1.keep hx13
  have hpb3:=blk_keep HB.out.1 hx13
  have HB3:=bH (bI hpb3 (bI hbr (HB.out.2.2.trans hx13)))
  clear hbr hpb3 hx13 hx3 HX2 y0 y1 HB
  cases hsb:signedB p y with
  | false =>
   rw [hsb] at HQ
   clear hsb
   obtain ⟨d0,d1,d2,d3,d4,d5⟩:=HB3.out.2.1.facts
   have HPut:=bH (HB3.out.2.1.put (neg:=false) (no_int none 0 0) (no_int none 0 0))
   go_wp2
   generalize (((w3.setCell ⟨pb+1,0,none⟩ (.bool false)).setCell ⟨pb+1,1,none⟩ (.slice none 0 0)).setCell ⟨pb+1,2,none⟩ (.slice none 0 0))=w9 at *
   obtain ⟨g0,g1,g2,_⟩:=HPut.out.box.facts
   refine bodyPost_ret (v:=.tuple #[.agg #[.bool false,.slice none 0 0,.slice none 0 0],.bool false]) (by simp [results,Tryz.results23,go_sem,g0,g1,g2]) rfl ⟨?_,?_⟩
   ·exact (HB3.out.2.2).own HPut.out.ext (fun k e=>by omega)
   ·rw [HQ.out]
    exact ⟨_,rfl,IsRat.zero _⟩
  | true =>
   rw [hsb] at HQ
   clear hsb
   have z0:=cellq HB3.out.1 0 rfl
   have z1:=cellq HB3.out.1 1 rfl
   go_wp2_with fail
   refine (HCom.out w3 HB3.out.2.2).mono ?_
   rintro r5 w5 ⟨B,cv,rfl,hBw,hA5,hb5,hx5⟩
   obtain ⟨cn,ca,cl,cc,ca2,cl2,cc2,rfl⟩:=hb5.shape
   clear z0 z1
   have hxa:=(Ext.refl (fun _=>False) w5).alloc (.cells #[.slice (some ⟨B,0,none⟩) n n] 32)
   have hxb:=hxa.alloc (.cells #[.bool cn,.slice ca cl cc,.slice ca2 cl2 cc2] 31)
   have hab:blk ((w5.alloc (.cells #[.slice (some ⟨B,0,none⟩) n n] 32)).alloc (.cells #[.bool cn,.slice ca cl cc,.slice ca2 cl2 cc2] 31)) w5.heap.size=some (.cells #[.slice (some ⟨B,0,none⟩) n n] 32 (0,0)):=(blk_alloc_past _ _ _ (by simp)).trans (blk_alloc_at _ _)
   have hbb:=boxR_new (W:=w5.alloc (.cells #[.slice (some ⟨B,0,none⟩) n n] 32)) rfl cn ca cl cc ca2 cl2 cc2
   rw [World.size_alloc] at hbb
   have hp5:pb+1<w5.heap.size:=by have:=HB3.out.2.1.lt; have:=hx5.size; omega
   have HB4:=bH (bI (blk_keep HB3.out.1 (hx5.trans hxb)) (bI (HB3.out.2.1.keep (hx5.trans hxb)) (bI hab (bI hbb (bI (hb5.keep hxb) (bI (hA5.keep hxb) (HB3.out.2.2.trans (hx5.trans hxb))))))))
   clear hxa hxb hab hbb hA5 hb5 hx5 HB3
   go_upto_region 4 with fail
   generalize hw4:(w5.alloc (.cells #[.slice (some ⟨B,0,none⟩) n n] 32)).alloc (.cells #[.bool cn,.slice ca cl cc,.slice ca2 cl2 cc2] 31)=w4 at *
   obtain ⟨ab,hab⟩:∃ ab,w5.heap.size=ab:=⟨_,rfl⟩
   have hab4:ab+1<w4.heap.size:=by rw [<- hw4]; simp; omega
   rw [hab] at HB4 hp5 ⊢
   clear hab hw4
   have hS:S3 pb pb ab 0 1 0 (.slice vo n vc) (.slice ro m rc) (.slice (some ⟨B,0,none⟩) n n) w4:=⟨cellq HB4.out.1 0 rfl,cellq HB4.out.1 1 rfl,cellq HB4.out.2.2.1 0 rfl⟩
   have HX4:=bH HB4.out.2.2.2.2.2.2
   have HE:=bH (fun W (hW:XF w4 W)=>HEa.out W (HX4.out.trans hW) pb ab B (blk_keep HB4.out.1 hW) (blk_keep HB4.out.2.2.1 hW) (HB4.out.2.2.2.2.2.1.keep hW))
   have HLs:=bH (fun W (hW:XF w4 W) B' ha=>HLa.out W (HX4.out.trans hW) B' ha)
   go_cut [8,9] (fun v8 v9 wx=>∃ bb ng a1 k1 c1 a2 k2 c2,v8=.pointer (some ⟨bb,0,none⟩)/\v9=.bool lq.isSome/\BoxR wx bb ng (.slice a1 k1 c1) (.slice a2 k2 c2)/\IsRat wx (.agg #[.bool ng,.slice a1 k1 c1,.slice a2 k2 c2]) (lq.getD 0)/\XF w4 wx)
   case first =>
    refine wp_region_held_drew (S:=(S3 pb pb ab 0 1 0 (.slice vo n vc) (.slice ro m rc) (.slice (some ⟨B,0,none⟩) n n))) (by kernel_rfl) (hS.drew) (fun hHeld=>?_)
    have hxd:=(Ext.refl (fun _=>False) w4).drew
    generalize w4.drew=wd at *
    refine ht 0 (h:=?_)
    (try go_frame)
    refine ht 1 (h:=?_)
    (try go_frame)
    refine ht 2 (h:=?_)
    (try go_frame)
    refine ht 3 (h:=?_)
    (try go_frame)
    refine held_two 4 9 rfl rfl (by kernel_rfl) (fun K hK=>?_) (fun K hK=>?_)
    ·go_simp
     go_at_call 63
     (with_reducible refine (HE.out _ hxd).mono ?_)
     rintro q1 w10 ⟨B2,rfl,hB2,hArr1,hx1⟩
     have hX1:=hxd.trans hx1
     have hL1:=HLs.out _ hX1 B2 hArr1
     refine hK.out _ _ (hS.keep hX1) (fun hHeld=>?_)
     clear hK K
     (try go_frame)
     refine held_two 5 9 rfl rfl (by kernel_rfl) (fun K hK=>?_) (fun K hK=>?_)
     ·go_simp
      go_at_call 62
      have hL2b:=HLs.out _ hX1 B2 hArr1
      (with_reducible refine hL2b.mono ?_)
      rintro q2 w20 hopt2
      obtain ⟨n12,a12,l12,c12,a12',l12',c12',rfl,hRat2,hx2⟩:=OptPost.open hopt2
      have hX2:=hX1.trans hx2
      refine hK.out _ _ (hS.keep hX2) (fun hHeld=>?_)
      clear hK K
      (try go_frame)
      refine ht 6 (h:=?_)
      (try go_frame)
      refine ht 7 (h:=?_)
      (try go_frame)
      refine ht 8 (h:=?_)
      (try go_frame)
      refine held_step 9 rfl (by kernel_rfl) (fun K hK=>?_)
      go_simp
      obtain ⟨bb,hbb⟩:∃ bb,w20.heap.size=bb:=⟨_,rfl⟩
      have hbbs:w4.heap.size<=bb:=by have:=hX2.size; omega
      have hbox3:=boxR_new (W:=w20) rfl false none 0 0 none 0 0
      have hX3:=hX2.alloc (.cells #[.bool false,.slice none 0 0,.slice none 0 0] 31)
      have hRat3:=hRat2.keep ((Ext.refl (fun _=>False) w20).alloc (.cells #[.bool false,.slice none 0 0,.slice none 0 0] 31))
      rw [hbb] at hbox3 ⊢
      clear hbb
      generalize w20.alloc (.cells #[.bool false,.slice none 0 0,.slice none 0 0] 31)=wa at *
      refine hK.out _ _ (hS.keep hX3) (fun hHeld=>?_)
      clear hK K
      (try go_frame)
      refine held_step 10 rfl (by kernel_rfl) (fun K hK=>?_)
      have np:¬ pb=bb:=by omega
      have na:¬ ab=bb:=by omega
      obtain ⟨d0,d1,d2,d3,d4,d5⟩:=hbox3.facts
      go_simp
      refine hK.out _ _ (S3.set (S3.set (S3.set (hS.keep hX3) ⟨bb,0,none⟩ _ np np na) ⟨bb,1,none⟩ _ np np na) ⟨bb,2,none⟩ _ np np na) (fun hHeld=>?_)
      clear hK K
      (try go_frame)
      refine ht 11 (h:=?_)
      (try go_frame)
      refine wpAnyH_done (by kernel_rfl) ?_ _
      have hput:=hbox3.put (neg:=n12) (no_int a12 l12 c12) (no_int a12' l12' c12')
      have HFin:=bH (bI hput.box (bI (hput.rat hRat3) (hX3.own hput.ext (fun k e=>by omega))))
      clear hput hS hHeld hbbs
      go_wp2
      go_meet
      exact ⟨bb,n12,a12,l12,c12,a12',l12',c12',rfl,rfl,HFin.out.1,HFin.out.2.1,HFin.out.2.2⟩
     ·go_simp
      obtain ⟨bb,hbb⟩:∃ bb,w10.heap.size=bb:=⟨_,rfl⟩
      have hbbs:w4.heap.size<=bb:=by have:=hX1.size; omega
      have hbox2:=boxR_new (W:=w10) rfl false none 0 0 none 0 0
      have hX2:=hX1.alloc (.cells #[.bool false,.slice none 0 0,.slice none 0 0] 31)
      have hArr2:=hArr1.keep ((Ext.refl (fun _=>False) w10).alloc (.cells #[.bool false,.slice none 0 0,.slice none 0 0] 31))
      rw [hbb] at hbox2 ⊢
      clear hbb
      generalize w10.alloc (.cells #[.bool false,.slice none 0 0,.slice none 0 0] 31)=wa at *
      refine hK.out _ _ (hS.keep hX2) (fun hHeld=>?_)
      clear hK K
      (try go_frame)
      refine held_step 5 rfl (by kernel_rfl) (fun K hK=>?_)
      go_simp
      go_at_call 62
      have hL3b:=HLs.out _ hX2 B2 hArr2
      (with_reducible refine hL3b.mono ?_)
      rintro q3 w30 hopt3
      obtain ⟨n12,a12,l12,c12,a12',l12',c12',rfl,hRat3,hx3⟩:=OptPost.open hopt3
      have hX3:=hX2.trans hx3
      have hbox3:=hbox2.keep hx3
      refine hK.out _ _ (hS.keep hX3) (fun hHeld=>?_)
      clear hK K
      (try go_frame)
      refine ht 6 (h:=?_)
      (try go_frame)
      refine ht 7 (h:=?_)
      (try go_frame)
      refine ht 8 (h:=?_)
      (try go_frame)
      refine held_step 10 rfl (by kernel_rfl) (fun K hK=>?_)
      have np:¬ pb=bb:=by omega
      have na:¬ ab=bb:=by omega
      obtain ⟨d0,d1,d2,d3,d4,d5⟩:=hbox3.facts
      go_simp
      refine hK.out _ _ (S3.set (S3.set (S3.set (hS.keep hX3) ⟨bb,0,none⟩ _ np np na) ⟨bb,1,none⟩ _ np np na) ⟨bb,2,none⟩ _ np np na) (fun hHeld=>?_)
      clear hK K
      (try go_frame)
      refine ht 11 (h:=?_)
      (try go_frame)
      refine wpAnyH_done (by kernel_rfl) ?_ _
      have hput:=hbox3.put (neg:=n12) (no_int a12 l12 c12) (no_int a12' l12' c12')
      have HFin:=bH (bI hput.box (bI (hput.rat hRat3) (hX3.own hput.ext (fun k e=>by omega))))
      clear hput hS hHeld hbbs
      go_wp2
      go_meet
      exact ⟨bb,n12,a12,l12,c12,a12',l12',c12',rfl,rfl,HFin.out.1,HFin.out.2.1,HFin.out.2.2⟩
    ·go_simp
     obtain ⟨bb,hbb⟩:∃ bb,wd.heap.size=bb:=⟨_,rfl⟩
     have hbbs:w4.heap.size<=bb:=by have:=hxd.size; omega
     have hbox1:=boxR_new (W:=wd) rfl false none 0 0 none 0 0
     have hX1:=hxd.alloc (.cells #[.bool false,.slice none 0 0,.slice none 0 0] 31)
     rw [hbb] at hbox1 ⊢
     clear hbb
     generalize wd.alloc (.cells #[.bool false,.slice none 0 0,.slice none 0 0] 31)=wa at *
     refine hK.out _ _ (hS.keep hX1) (fun hHeld=>?_)
     clear hK K
     (try go_frame)
     refine held_step 4 rfl (by kernel_rfl) (fun K hK=>?_)
     go_simp
     go_at_call 63
     (with_reducible refine (HE.out _ hX1).mono ?_)
     rintro q2 w20 ⟨B2,rfl,hB2,hArr2,hx2⟩
     have hX2:=hX1.trans hx2
     have hL2:=HLs.out _ hX2 B2 hArr2
     have hbox2:=hbox1.keep hx2
     refine hK.out _ _ (hS.keep hX2) (fun hHeld=>?_)
     clear hK K
     (try go_frame)
     refine held_step 5 rfl (by kernel_rfl) (fun K hK=>?_)
     go_simp
     go_at_call 62
     have hL3b:=HLs.out _ hX2 B2 hArr2
     (with_reducible refine hL3b.mono ?_)
     rintro q3 w30 hopt3
     obtain ⟨n12,a12,l12,c12,a12',l12',c12',rfl,hRat3,hx3⟩:=OptPost.open hopt3
     have hX3:=hX2.trans hx3
     have hbox3:=hbox2.keep hx3
     refine hK.out _ _ (hS.keep hX3) (fun hHeld=>?_)
     clear hK K
     (try go_frame)
     refine ht 6 (h:=?_)
     (try go_frame)
     refine ht 7 (h:=?_)
     (try go_frame)
     refine ht 8 (h:=?_)
     (try go_frame)
     refine held_step 10 rfl (by kernel_rfl) (fun K hK=>?_)
     have np:¬ pb=bb:=by omega
     have na:¬ ab=bb:=by omega
     obtain ⟨d0,d1,d2,d3,d4,d5⟩:=hbox3.facts
     go_simp
     refine hK.out _ _ (S3.set (S3.set (S3.set (hS.keep hX3) ⟨bb,0,none⟩ _ np np na) ⟨bb,1,none⟩ _ np np na) ⟨bb,2,none⟩ _ np np na) (fun hHeld=>?_)
     clear hK K
     (try go_frame)
     refine ht 11 (h:=?_)
     (try go_frame)
     refine wpAnyH_done (by kernel_rfl) ?_ _
     have hput:=hbox3.put (neg:=n12) (no_int a12 l12 c12) (no_int a12' l12' c12')
     have HFin:=bH (bI hput.box (bI (hput.rat hRat3) (hX3.own hput.ext (fun k e=>by omega))))
     clear hput hS hHeld hbbs
     go_wp2
     go_meet
     exact ⟨bb,n12,a12,l12,c12,a12',l12',c12',rfl,rfl,HFin.out.1,HFin.out.2.1,HFin.out.2.2⟩
   case rest =>
    clear hS HE HLs HEa HLa HCom HSig HVal
    obtain ⟨bb,ng,a1,k1,c1,a2,k2,c2,rfl,rfl,hbb,hlq,hx4⟩:=hcut
    have HB6:=bH (bI (HB4.out.2.1.keep hx4) (bI (HB4.out.2.2.2.1.keep hx4) (bI (HB4.out.2.2.2.2.1.keep hx4) (HX4.out.trans hx4))))
    have HL6:=bH (bI hbb hlq)
    clear hbb hlq hx4 HB4 HX4
    cases lq with
    | none =>
     obtain ⟨d0,d1,d2,d3,d4,d5⟩:=HB6.out.1.facts
     have HPut:=bH (HB6.out.1.put (neg:=false) (no_int none 0 0) (no_int none 0 0))
     rw [show (none:Option Rat).isSome=false from rfl]
     go_wp2
     generalize (((wc.setCell ⟨pb+1,0,none⟩ (.bool false)).setCell ⟨pb+1,1,none⟩ (.slice none 0 0)).setCell ⟨pb+1,2,none⟩ (.slice none 0 0))=w9 at *
     obtain ⟨g0,g1,g2,_⟩:=HPut.out.box.facts
     refine bodyPost_ret (v:=.tuple #[.agg #[.bool false,.slice none 0 0,.slice none 0 0],.bool false]) (by simp [results,Tryz.results23,go_sem,g0,g1,g2]) rfl ⟨?_,?_⟩
     ·exact (HB6.out.2.2.2).own HPut.out.ext (fun k e=>by omega)
     ·rw [HQ.out]
      exact ⟨_,rfl,IsRat.zero _⟩
    | some q =>
     have HA1:=bH (HAd.out wc _ _ q HB6.out.2.2.1 HL6.out.2 (HLz.out q rfl))
     obtain ⟨x0,x1,x2,-⟩:=HB6.out.2.1.facts
     obtain ⟨t0,t1,t2,-⟩:=HL6.out.1.facts
     rw [show (some q:Option Rat).isSome=true from rfl]
     go_wp2_with fail
     refine HA1.out.mono ?_
     rintro r7 w7 ⟨v7,rfl,h7,hx7⟩
     obtain ⟨ng7,sa,sn,sc,ta,tn,tc,rfl⟩:=h7.shape
     have hbr:=HB6.out.1.keep hx7
     obtain ⟨d0,d1,d2,d3,d4,d5⟩:=hbr.facts
     have hp:=hbr.put (neg:=ng7) (no_int sa sn sc) (no_int ta tn tc)
     have HPut:=bH (bI hp (bI (hp.rat h7) ((HB6.out.2.2.2.trans hx7).own hp.ext (fun k e=>by omega))))
     clear hp hbr h7 hx7 x0 x1 x2 t0 t1 t2 HA1
     go_wp2
     generalize (((w7.setCell ⟨pb+1,0,none⟩ (.bool ng7)).setCell ⟨pb+1,1,none⟩ (.slice sa sn sc)).setCell ⟨pb+1,2,none⟩ (.slice ta tn tc))=w9 at *
     obtain ⟨g0,g1,g2,_⟩:=HPut.out.1.box.facts
     refine bodyPost_ret (v:=.tuple #[.agg #[.bool ng7,.slice sa sn sc,.slice ta tn tc],.bool true]) (by simp [results,Tryz.results23,go_sem,g0,g1,g2]) rfl ⟨HPut.out.2.2,?_⟩
     rw [HQ.out]
     exact ⟨_,rfl,HPut.out.2.1⟩
end Go.Proofs.YtbgienfcmdgaaaaGreat
