/-
  Texts of the proof, part 4. Conditions: each lemma names its own.
-/
import Derived.Test.YtjaldknfeojjkaaGreatW1
import Derived.Test.YtjaldknfeojjkaaGreatW3
import Derived.Deep.RegionHeld3
import Derived.Shelf.SlicesQ.IndexFunc
import Derived.Shelf.SlGeneric
import Derived.Ground.SlgfProg
import Derived.Shelf.Small.Bits
import Derived.Shelf.Strconv.Itoa0
import Derived.Shelf.GgClosure.StringsIndexFunc
import Derived.Ground.GgwProg
import Derived.Shelf.GgClosure.StringsIndexFuncTop
import Derived.Shelf.Strings.FuncGrows
import Derived.Shelf.Slices.Turned
import Derived.Ground.Names2Prog
import Derived.Shelf.Slices.Clone
import Derived.Ground.SlgfProg
import Derived.Shelf.SlicesE.IndexFunc
import Derived.Test.YtjaldknfeojjkaaGreatProg
import Derived.Maps.RangeWalk
set_option linter.unusedVariables false
set_option linter.unusedSimpArgs false
set_option maxRecDepth 100000
set_option maxHeartbeats 16000000
namespace Go.Proofs.YtjaldknfeojjkaaGreat
open Go.RowKit Go.MapKept
open Go.ChangeMaps (setBlock)
def Stepped (w:World) (Z:Int) (v:Value) (w':World):Prop:=∃ b ng sa sn sc,v=.pointer (some ⟨b,0,none⟩)/\w.heap.size<=b/\BoxI w' b ng (.slice sa sn sc)/\IsInt w' (.agg #[.bool ng,.slice sa sn sc]) Z/\XF w w'
theorem Stepped.put {w w':World} {Z:Int} {b:Nat} {ng:Bool} {sa:Option Addr} {sn sc:Nat} (hb:w.heap.size<=b) (hr:BoxI w' b false (.slice none 0 0)) (h:IsInt w' (.agg #[.bool ng,.slice sa sn sc]) Z) (hx:XF w w') :
  Stepped w Z (.pointer (some ⟨b,0,none⟩)) ((w'.setCell ⟨b,0,none⟩ (.bool ng)).setCell ⟨b,1,none⟩ (.slice sa sn sc)) :=
 have hp:=hr.put (neg:=ng) (no_int sa sn sc)
 ⟨b,ng,sa,sn,sc,rfl,hb,hp.box,hp.int h,hx.own hp.ext (fun k e=>by omega)⟩
theorem Stepped.new {w w':World} {Z:Int} {ng:Bool} {sa:Option Addr} {sn sc:Nat} (h:IsInt w' (.agg #[.bool ng,.slice sa sn sc]) Z) (hx:XF w w') :
  Stepped w Z (.pointer (some ⟨w'.heap.size,0,none⟩)) (w'.alloc (.cells #[.bool ng,.slice sa sn sc] 62)) :=
 ⟨_,ng,sa,sn,sc,rfl,hx.size,boxI_new rfl ng sa sn sc,h.keep ((Ext.refl _ _).alloc _),hx.alloc _⟩
theorem cell_new {W:World} {b i:Nat} {x:Value} (h:W.cell? ⟨b,i,none⟩=some x) (o:Obj):(W.alloc o).cell? ⟨b,i,none⟩=some x :=
 (((Ext.refl (fun _=>False) W).alloc o).cell (p:=⟨b,i,none⟩) (World.block_lt_of_cell? W _ h) id).trans h
theorem SR2.alloc {b1 b2:Nat} {n1 n2:Bool} {m1 e1 m2 e2:Value} {W:World} (h:SR2 b1 b2 n1 n2 m1 e1 m2 e2 W) (o:Obj):SR2 b1 b2 n1 n2 m1 e1 m2 e2 (W.alloc o):=by
 obtain ⟨a1,a2,a3,a4,a5,a6⟩:=h;exact ⟨cell_new a1 o,cell_new a2 o,cell_new a3 o,cell_new a4 o,cell_new a5 o,cell_new a6 o⟩
abbrev SRI (b1 b2 p1 p2:Nat) (n1 n2:Bool) (m1 e1 m2 e2:Value) (g1 g2:Bool) (u1 u2:Value) (W:World):Prop :=
 SR2 b1 b2 n1 n2 m1 e1 m2 e2 W/\W.cell? ⟨p1,0,none⟩=some (.bool g1)/\W.cell? ⟨p1,1,none⟩=some u1/\W.cell? ⟨p2,0,none⟩=some (.bool g2)/\W.cell? ⟨p2,1,none⟩=some u2
section
variable {b1 b2 p1 p2:Nat} {n1 n2:Bool} {m1 e1 m2 e2:Value} {g1 g2:Bool} {u1 u2:Value} {W:World}
theorem SRI.of (h:SR2 b1 b2 n1 n2 m1 e1 m2 e2 W) (h1:BoxI W p1 g1 u1) (h2:BoxI W p2 g2 u2):SRI b1 b2 p1 p2 n1 n2 m1 e1 m2 e2 g1 g2 u1 u2 W:=⟨h,h1.facts.1,h1.facts.2.1,h2.facts.1,h2.facts.2.1⟩
theorem SRI.drew (h:SRI b1 b2 p1 p2 n1 n2 m1 e1 m2 e2 g1 g2 u1 u2 W):SRI b1 b2 p1 p2 n1 n2 m1 e1 m2 e2 g1 g2 u1 u2 W.drew:=h
theorem SRI.set (h:SRI b1 b2 p1 p2 n1 n2 m1 e1 m2 e2 g1 g2 u1 u2 W) (p:Addr) (u:Value) (k1:¬ b1=p.block) (k2:¬ b2=p.block) (k3:¬ p1=p.block) (k4:¬ p2=p.block):SRI b1 b2 p1 p2 n1 n2 m1 e1 m2 e2 g1 g2 u1 u2 (W.setCell p u) :=
 ⟨h.1.set p u k1 k2,cell_other h.2.1 k3,cell_other h.2.2.1 k3,cell_other h.2.2.2.1 k4,cell_other h.2.2.2.2 k4⟩
end
theorem Rradd_any (w:World) (v v':Value) (q q':Rat) (L:Nat) (h:Rrat w v q L) (h':Rrat w v' q' L) (h0:1<=L) (hL:L<=16777216) :
  Calls Tryz.prog 66 #[v,v'] w (RatPost w (q+q')):=by
 obtain ⟨n1,a1,l1,c1,x1,y1,k1,l,d,rfl,hr,hd,hm,hdl,hq⟩:=h.open;clear hm;obtain ⟨n2,a2,l2,c2,x2,y2,k2,l',d',rfl,hr',hd',hm,hdl',hq'⟩:=h'.open;clear hm;have hdl1:=dn_len hd hdl h0;have hdl2:=dn_len hd' hdl' h0;have HD1:=bH (fun W (hW:XF w W)=>Rden_any W n1 a1 l1 c1 x1 y1 k1 d (hd.keep hW) (by omega));have HD2:=bH (fun W (hW:XF w W)=>Rden_any W n2 a2 l2 c2 x2 y2 k2 d' (hd'.keep hW) (by omega));have HM1:=bH (fun W (hW:XF w W) ao n c (hu:IsNat W (.slice ao n c) (dn (vl d')))=>Rimul_any W _ (.agg #[.bool false,.slice ao n c]) (sg n1 (vl l)) ((dn (vl d'):Nat):Int) L (hr.keep hW) ⟨false,_,_,rfl,hu,hdl2,by rw [vl_dg]; rfl⟩ (by omega));have HM2:=bH (fun W (hW:XF w W) ao n c (hu:IsNat W (.slice ao n c) (dn (vl d)))=>Rimul_any W _ (.agg #[.bool false,.slice ao n c]) (sg n2 (vl l')) ((dn (vl d):Nat):Int) L (hr'.keep hW) ⟨false,_,_,rfl,hu,hdl1,by rw [vl_dg]; rfl⟩ (by omega));have HN:=bH (fun W u u' (hu:IsNat W u (dn (vl d))) (hu':IsNat W u' (dn (vl d')))=>Rmul_any W u u' _ _ hu hu' (by omega) (by omega));simp only [vl_dg] at HN;have hdi1:(dg (((dn (vl d):Nat):Int)).natAbs).length<=L:=by rw [Int.natAbs_natCast]; exact hdl1
 have hdi2:(dg (((dn (vl d'):Nat):Int)).natAbs).length<=L:=by rw [Int.natAbs_natCast]; exact hdl2
 have hz1:=len_mul hr.len hdi2;have hz2:=len_mul hr'.len hdi1;have HA:=bH (fun W u u' (hu:IsInt W u (sg n1 (vl l)*((dn (vl d'):Nat):Int))) (hu':IsInt W u' (sg n2 (vl l')*((dn (vl d):Nat):Int)))=>Riadd_any W u u' _ _ (L+L) (hu.reads hz1) (hu'.reads hz2) (by omega));have hYl:=dg_len_mul (Nat.lt_of_lt_of_le (dg_lt (dn (vl d))) (pow_mono hdl1)) (Nat.lt_of_lt_of_le (dg_lt (dn (vl d'))) (pow_mono hdl2));have hZl:=len_add hz1 hz2;have HRd:=bH (fun W u u' (hu:IsInt W u (sg n1 (vl l)*((dn (vl d'):Nat):Int)+sg n2 (vl l')*((dn (vl d):Nat):Int))) (hu':IsNat W u' (dn (vl d)*dn (vl d')))=>Rrbuild_any W u _ (dn (vl d)*dn (vl d')) (L+L+1) u' (hu.reads hZl) hu' (Nat.mul_pos (dn_pos _) (dn_pos _)) (by omega) (by omega));have hres:mkRat (sg n1 (vl l)*((dn (vl d'):Nat):Int)+sg n2 (vl l')*((dn (vl d):Nat):Int)) (dn (vl d)*dn (vl d'))=q+q':=by
  rw [hq,hq',Rat.mkRat_add_mkRat _ _ (Nat.ne_of_gt (dn_pos _)) (Nat.ne_of_gt (dn_pos _))]
 rw [hres] at HRd;clear hr hr' hd hd' hdl hdl' hq hq' h h' hres hZl hYl hdl1 hdl2 hdi1 hdi2 hz1 hz2;generalize q+q'=Q at *;generalize sg n1 (vl l)*((dn (vl d'):Nat):Int)=Z1 at *;generalize sg n2 (vl l')*((dn (vl d):Nat):Int)=Z2 at *;generalize hP:dn (vl d)*dn (vl d')=Y at *;clear hP;generalize dn (vl d)=D1 at *;generalize dn (vl d')=D2 at *;go_enter Tryz.func66,Tryz.ntmps66;go_upto_region 0 with fail;go_cut [2,3,4] (fun v1 v2 v3 wx=>∃ b1 b2 r,v1=.pointer (some ⟨b1,0,none⟩)/\v2=.pointer (some ⟨b2,0,none⟩)/\v3=.pointer (some ⟨r,0,none⟩)/\BoxR wx b1 n1 (.slice a1 l1 c1) (.slice x1 y1 k1)/\BoxR wx b2 n2 (.slice a2 l2 c2) (.slice x2 y2 k2)/\BoxR wx r false (.slice none 0 0) (.slice none 0 0)/\b1<r/\b2<r/\w.heap.size<=r/\r<wx.heap.size/\XF w wx);case first =>
  go_wp2;go_meet;exact ⟨_,_,_,rfl,rfl,rfl,((boxR_new rfl n1 a1 l1 c1 x1 y1 k1).alloc _).alloc _,(boxR_new (by simp) n2 a2 l2 c2 x2 y2 k2).alloc _,boxR_new (by simp) false none 0 0 none 0 0,(by omega),(by omega),(by omega),(by simp),(((Ext.refl _ w).alloc _).alloc _).alloc _⟩
 case rest =>
  obtain ⟨b1,b2,r,rfl,rfl,rfl,hb1,hb2,hrb,i1,i2,hle,hlr,hx⟩:=hcut;have hS:=SR2.of hb1 hb2;have HB:=bH (bI hb1 (bI hb2 (bI hrb hx)));have HBB:=bH (bI hb1 hb2);clear hb1 hb2 hrb hx;obtain ⟨wa,hwa⟩:∃ wa,wa=wc:=⟨_,rfl⟩;subst hwa;go_upto_region 1 with fail;go_cut [5] (fun vx wx=>Stepped wa Z1 vx wx);case first =>
   go_region_held3 (SR2 b1 b2 n1 n2 (.slice a1 l1 c1) (.slice x1 y1 k1) (.slice a2 l2 c2) (.slice x2 y2 k2))
    (repeat (first | (with_reducible assumption) | (with_reducible refine SR2.drew ?_) | (with_reducible refine SR2.alloc ?_ _) | (with_reducible refine SR2.set ?_ _ _ ?_ ?_) | (dsimp only; omega)))
    (first
     | (go_at_call 69; (with_reducible refine (HD2.o _ ?_).mono ?_); (refine Ext.trans HB.o.2.2.2 ?_; (repeat (first | (with_reducible assumption) | (with_reducible exact Ext.refl _ _) | (with_reducible refine Ext.drew ?_) | (with_reducible refine Ext.alloc ?_ _)))); rintro q1 w11 ⟨v11,rfl,h11,hx11⟩; have hX1:XF wa w11:=Ext.trans (by (repeat (first | (with_reducible assumption) | (with_reducible exact Ext.refl _ _) | (with_reducible refine Ext.drew ?_) | (with_reducible refine Ext.alloc ?_ _)))) hx11; have hz1:=hX1.size; have hK1:=SR2.of (HBB.o.1.ext hX1 id) (HBB.o.2.ext hX1 id); (first | (have hq1:BoxI w11 wa.heap.size false (.slice none 0 0):=(boxI_new (W:=wa) rfl false none 0 0).ext ((Ext.refl (fun _=>False) _).drew.trans hx11) id; obtain ⟨d0,d1,d2,d3⟩:=hq1.facts) | skip); obtain ⟨ag1,cg1,rfl⟩:=h11.shape)
     | (go_at_call 95; (with_reducible refine (HM1.o _ ?_ _ _ _ ?_).mono ?_); (refine Ext.trans HB.o.2.2.2 ?_; (repeat (first | (with_reducible assumption) | (with_reducible exact Ext.refl _ _) | (with_reducible refine Ext.drew ?_) | (with_reducible refine Ext.alloc ?_ _) | (with_reducible refine IsNat.keep h11 ?_)))); rintro q2 w12 ⟨v12,rfl,h12,hx12⟩; have hX2:XF wa w12:=Ext.trans (by (repeat (first | (with_reducible assumption) | (with_reducible exact Ext.refl _ _) | (with_reducible refine Ext.drew ?_) | (with_reducible refine Ext.alloc ?_ _)))) hx12; have hz2:=hX2.size; have hK2:=SR2.of (HBB.o.1.ext hX2 id) (HBB.o.2.ext hX2 id); (first | (have hq2:BoxI w12 wa.heap.size false (.slice none 0 0):=hq1.ext hx12 id; obtain ⟨d0,d1,d2,d3⟩:=hq2.facts) | (have hq2:BoxI w12 w11.heap.size false (.slice none 0 0):=(boxI_new (W:=w11) rfl false none 0 0).ext hx12 id; obtain ⟨d0,d1,d2,d3⟩:=hq2.facts) | skip); obtain ⟨ng,sa,sn,sc,rfl⟩:=h12.shape))
   ·have HS:=bH (Stepped.new h12 hX2);clear hX1 hX2 hK1 hK2 hx11 hx12 h11 h12 hz1 hz2;go_wp2_with fail;go_meet;exact HS.o
   ·have HS:=bH (Stepped.put (by omega) hq2 h12 hX2);clear hX1 hX2 hK1 hK2 hx11 hx12 h11 h12 hz1 hz2;go_wp2_with fail;go_meet;exact HS.o
   ·have HS:=bH (Stepped.put (by omega) hq2 h12 hX2);clear hX1 hX2 hK1 hK2 hx11 hx12 h11 h12 hz1 hz2;go_wp2_with fail;go_meet;exact HS.o
  case rest =>
  obtain ⟨wb,hwa⟩:∃ wa,wa=wc:=⟨_,rfl⟩;subst hwa;obtain ⟨p1,g1,s1,u1,t1,rfl,hp1,hbx1,hi1,hx1⟩:=hcut;have HB1:=bH (bI (HBB.o.1.ext hx1 id) (HBB.o.2.ext hx1 id));have HX1:=bH (HB.o.2.2.2.trans hx1);have HR1:=bH (bI (HB.o.2.2.1.ext hx1 id) (bI hbx1 hi1));have hlr1:r<wb.heap.size:=Nat.lt_of_lt_of_le hlr hx1.size;have hS1:=SR2.of HB1.o.1 HB1.o.2;clear hS hbx1 hi1 hx1;go_upto_region 2 with fail;go_cut [6] (fun vx wx=>Stepped wb Z2 vx wx);case first =>
   go_region_held3 (SR2 b1 b2 n1 n2 (.slice a1 l1 c1) (.slice x1 y1 k1) (.slice a2 l2 c2) (.slice x2 y2 k2))
    (repeat (first | (with_reducible assumption) | (with_reducible refine SR2.drew ?_) | (with_reducible refine SR2.alloc ?_ _) | (with_reducible refine SR2.set ?_ _ _ ?_ ?_) | (dsimp only; omega)))
    (first
     | (go_at_call 69; (with_reducible refine (HD1.o _ ?_).mono ?_); (refine Ext.trans HX1.o ?_; (repeat (first | (with_reducible assumption) | (with_reducible exact Ext.refl _ _) | (with_reducible refine Ext.drew ?_) | (with_reducible refine Ext.alloc ?_ _)))); rintro q1 w11 ⟨v11,rfl,h11,hx11⟩; have hX1:XF wb w11:=Ext.trans (by (repeat (first | (with_reducible assumption) | (with_reducible exact Ext.refl _ _) | (with_reducible refine Ext.drew ?_) | (with_reducible refine Ext.alloc ?_ _)))) hx11; have hz1:=hX1.size; have hK1:=SR2.of (HB1.o.1.ext hX1 id) (HB1.o.2.ext hX1 id); (first | (have hq1:BoxI w11 wb.heap.size false (.slice none 0 0):=(boxI_new (W:=wb) rfl false none 0 0).ext ((Ext.refl (fun _=>False) _).drew.trans hx11) id; obtain ⟨d0,d1,d2,d3⟩:=hq1.facts) | skip); obtain ⟨ag1,cg1,rfl⟩:=h11.shape)
     | (go_at_call 95; (with_reducible refine (HM2.o _ ?_ _ _ _ ?_).mono ?_); (refine Ext.trans HX1.o ?_; (repeat (first | (with_reducible assumption) | (with_reducible exact Ext.refl _ _) | (with_reducible refine Ext.drew ?_) | (with_reducible refine Ext.alloc ?_ _) | (with_reducible refine IsNat.keep h11 ?_)))); rintro q2 w12 ⟨v12,rfl,h12,hx12⟩; have hX2:XF wb w12:=Ext.trans (by (repeat (first | (with_reducible assumption) | (with_reducible exact Ext.refl _ _) | (with_reducible refine Ext.drew ?_) | (with_reducible refine Ext.alloc ?_ _)))) hx12; have hz2:=hX2.size; have hK2:=SR2.of (HB1.o.1.ext hX2 id) (HB1.o.2.ext hX2 id); (first | (have hq2:BoxI w12 wb.heap.size false (.slice none 0 0):=hq1.ext hx12 id; obtain ⟨d0,d1,d2,d3⟩:=hq2.facts) | (have hq2:BoxI w12 w11.heap.size false (.slice none 0 0):=(boxI_new (W:=w11) rfl false none 0 0).ext hx12 id; obtain ⟨d0,d1,d2,d3⟩:=hq2.facts) | skip); obtain ⟨ng,sa,sn,sc,rfl⟩:=h12.shape))
   ·have HS:=bH (Stepped.new h12 hX2);clear hX1 hX2 hK1 hK2 hx11 hx12 h11 h12 hz1 hz2;go_wp2_with fail;go_meet;exact HS.o
   ·have HS:=bH (Stepped.put (by omega) hq2 h12 hX2);clear hX1 hX2 hK1 hK2 hx11 hx12 h11 h12 hz1 hz2;go_wp2_with fail;go_meet;exact HS.o
   ·have HS:=bH (Stepped.put (by omega) hq2 h12 hX2);clear hX1 hX2 hK1 hK2 hx11 hx12 h11 h12 hz1 hz2;go_wp2_with fail;go_meet;exact HS.o
  case rest =>
  obtain ⟨w3,hwa⟩:∃ wa,wa=wc:=⟨_,rfl⟩;subst hwa;obtain ⟨p2,g2,s2,u2,t2,rfl,hp2,hbx2,hi2,hx2⟩:=hcut;have hX:=HX1.o.trans hx2;have HB2:=bH (bI (HB1.o.1.ext hx2 id) (bI (HB1.o.2.ext hx2 id) (bI (HR1.o.2.1.ext hx2 id) (bI hbx2 (bI (HR1.o.1.ext hx2 id) hX)))));have HA2:=bH (HA.o w3.drew _ _ (HR1.o.2.2.keep hx2.drew) (hi2.keep ((Ext.refl _ _).drew)));have hS2:=SRI.of (SR2.of HB2.o.1 HB2.o.2.1) HB2.o.2.2.1 HB2.o.2.2.2.1;have k1r:p1≠r:=(by omega);have k2r:p2≠r:=(by omega);clear hx2 hbx2 hi2 hS1 hX;go_upto_region 3 with fail;go_region_held3 (SRI b1 b2 p1 p2 n1 n2 (.slice a1 l1 c1) (.slice x1 y1 k1) (.slice a2 l2 c2) (.slice x2 y2 k2) g1 g2 (.slice s1 u1 t1) (.slice s2 u2 t2))
   (repeat (first | (with_reducible assumption) | (with_reducible refine SRI.drew ?_) | (with_reducible refine SRI.set ?_ _ _ ?_ ?_ ?_ ?_) | (dsimp only; omega)))
   (first
    | (go_at_call 94; (with_reducible refine HA2.o.mono ?_); rintro q1 w11 ⟨v11,rfl,h11,hx11⟩; have hX1:=(Ext.refl (fun _=>False) w3).drew.trans hx11; have hK1:=SRI.of (SR2.of (HB2.o.1.ext hX1 id) (HB2.o.2.1.ext hX1 id)) (HB2.o.2.2.1.ext hX1 id) (HB2.o.2.2.2.1.ext hX1 id); obtain ⟨ng1,ag1,lg1,cg1,rfl⟩:=h11.shape)
    | (go_at_call 69; (with_reducible refine (HD1.o _ (HB2.o.2.2.2.2.2.trans hX1)).mono ?_); rintro q2 w12 ⟨v12,rfl,h12,hx12⟩; have hX2:=hX1.trans hx12; have hK2:=SRI.of (SR2.of (HB2.o.1.ext hX2 id) (HB2.o.2.1.ext hX2 id)) (HB2.o.2.2.1.ext hX2 id) (HB2.o.2.2.2.1.ext hX2 id); obtain ⟨ag2,cg2,rfl⟩:=h12.shape)
    | (go_at_call 69; (with_reducible refine (HD2.o _ (HB2.o.2.2.2.2.2.trans hX2)).mono ?_); rintro q3 w13 ⟨v13,rfl,h13,hx13⟩; have hX3:=hX2.trans hx13; have hK3:=SRI.of (SR2.of (HB2.o.1.ext hX3 id) (HB2.o.2.1.ext hX3 id)) (HB2.o.2.2.1.ext hX3 id) (HB2.o.2.2.2.1.ext hX3 id); have hN:=HN.o w13 _ _ (h12.keep hx13) h13; obtain ⟨ag3,cg3,rfl⟩:=h13.shape)
    | (go_at_call 125; (with_reducible refine hN.mono ?_); rintro q5 w15 ⟨v15,rfl,h15,hx15⟩; have hX5:=hX3.trans hx15; have hK5:=SRI.of (SR2.of (HB2.o.1.ext hX5 id) (HB2.o.2.1.ext hX5 id)) (HB2.o.2.2.1.ext hX5 id) (HB2.o.2.2.2.1.ext hX5 id); have hR:=HRd.o w15 _ _ (h11.keep (hx12.trans (hx13.trans hx15))) h15; obtain ⟨ag5,cg5,rfl⟩:=h15.shape)
    | (go_at_call 68; (with_reducible refine hR.mono ?_); rintro q4 w14 ⟨v14,rfl,h14,hx14⟩; have hX4:=hX5.trans hx14; have hK4:=SRI.of (SR2.of (HB2.o.1.ext hX4 id) (HB2.o.2.1.ext hX4 id)) (HB2.o.2.2.1.ext hX4 id) (HB2.o.2.2.2.1.ext hX4 id); have hr4:=HB2.o.2.2.2.2.1.ext hX4 id; obtain ⟨d0,d1,d2,d3,d4,d5⟩:=hr4.facts; obtain ⟨ng,sa,sn,sc,ta,tn,tc,rfl⟩:=h14.shape))
  have hp:=hr4.put (neg:=ng) (no_int sa sn sc) (no_int ta tn tc);have HR:=bH (bI (hp.rat h14) (bI ((HB2.o.2.2.2.2.2.trans hX4).own hp.ext (fun k e=>by omega)) hp.box));clear hp hr4 h14 hX4 h11 h12 h13 h15 hx11 hx12 hx13 hx14 hx15 hX1 hX2 hX3 hX5 hK1 hK2 hK3 hK4 hK5 hN hR hS2 d0 d1 d2 d3 d4 d5;generalize ((w14.setCell ⟨r,0,none⟩ (.bool ng)).setCell ⟨r,1,none⟩ (.slice sa sn sc)).setCell ⟨r,2,none⟩ (.slice ta tn tc)=w20 at *;obtain ⟨g0,g1',g2',_⟩:=HR.o.2.2.facts;go_wp2;exact bodyPost_ret (v:=.agg #[.bool ng,.slice sa sn sc,.slice ta tn tc]) (by simp [results,Tryz.results66,go_sem,g0,g1',g2']) rfl ⟨_,rfl,HR.o.1,HR.o.2.1⟩
theorem Rrsub_any (w:World) (v v':Value) (q q':Rat) (L:Nat) (h:Rrat w v q L) (h':Rrat w v' q' L) (h0:1<=L) (hL:L<=16777216) :
  Calls Tryz.prog 65 #[v,v'] w (RatPost w (q - q')):=by
 have HN:=bH (fun W (hW:XF w W)=>Rrneg_any W v' q' L (h'.keep hW) h0 (by omega));have hsz:=(h'.sz h0).neg;have HA:=bH (fun W (hW:XF w W) u (hu:IsRat W u (-q'))=>Rradd_any W v u q (-q') L (h.keep hW) (hu.reads hsz) h0 hL);rw [<- Rat.sub_eq_add_neg] at HA;obtain ⟨n1,a1,l1,c1,x1,y1,k1,l,d,rfl,hr,hd,hm,hdl,hq⟩:=h.open;obtain ⟨n2,a2,l2,c2,x2,y2,k2,l',d',rfl,hr',hd',hm',hdl',hq'⟩:=h'.open;clear hr hr' hd hd' hdl hdl' hq hq' h h' hm hm' hsz;go_enter Tryz.func65,Tryz.ntmps65;go_upto_region 0 with fail;go_cut [2,3,4] (fun v1 v2 v3 wx=>∃ b1 b2 r,v1=.pointer (some ⟨b1,0,none⟩)/\v2=.pointer (some ⟨b2,0,none⟩)/\v3=.pointer (some ⟨r,0,none⟩)/\BoxR wx b1 n1 (.slice a1 l1 c1) (.slice x1 y1 k1)/\BoxR wx b2 n2 (.slice a2 l2 c2) (.slice x2 y2 k2)/\BoxR wx r false (.slice none 0 0) (.slice none 0 0)/\b1<r/\b2<r/\w.heap.size<=r/\XF w wx);case first =>
  go_wp2;go_meet;exact ⟨_,_,_,rfl,rfl,rfl,((boxR_new rfl n1 a1 l1 c1 x1 y1 k1).alloc _).alloc _,(boxR_new (by simp) n2 a2 l2 c2 x2 y2 k2).alloc _,boxR_new (by simp) false none 0 0 none 0 0,(by omega),(by omega),(by omega),(((Ext.refl _ w).alloc _).alloc _).alloc _⟩
 case rest =>
  obtain ⟨b1,b2,r,rfl,rfl,rfl,hb1,hb2,hrb,i1,i2,hle,hx⟩:=hcut;have hS:=SR2.of hb1 hb2;have HB:=bH (bI hb1 (bI hb2 (bI hrb hx)));clear hb1 hb2 hrb hx;go_upto_region 1 with fail;go_region_held3 (SR2 b1 b2 n1 n2 (.slice a1 l1 c1) (.slice x1 y1 k1) (.slice a2 l2 c2) (.slice x2 y2 k2))
   (repeat (first | (with_reducible assumption) | (with_reducible refine SR2.drew ?_) | (with_reducible refine SR2.set ?_ _ _ ?_ ?_) | (dsimp only; omega)))
   (first
    | (go_at_call 124; (with_reducible refine (HN.o _ HB.o.2.2.2.drew).mono ?_); rintro q1 w11 ⟨v11,rfl,h11,hx11⟩; have hX1:=(Ext.refl (fun _=>False) wc).drew.trans hx11; have hK1:=SR2.of (HB.o.1.ext hX1 id) (HB.o.2.1.ext hX1 id); have hA:=HA.o w11 (HB.o.2.2.2.trans hX1) _ h11; obtain ⟨ng1,sa1,sn1,sc1,ta1,tn1,tc1,rfl⟩:=h11.shape)
    | (go_at_call 66; (with_reducible refine hA.mono ?_); rintro q4 w14 ⟨v14,rfl,h14,hx14⟩; have hX4:=hX1.trans hx14; have hK4:=SR2.of (HB.o.1.ext hX4 id) (HB.o.2.1.ext hX4 id); have hr4:=HB.o.2.2.1.ext hX4 id; obtain ⟨d0,d1,d2,d3,d4,d5⟩:=hr4.facts; obtain ⟨ng,sa,sn,sc,ta,tn,tc,rfl⟩:=h14.shape))
  have hp:=hr4.put (neg:=ng) (no_int sa sn sc) (no_int ta tn tc);have HR:=bH (bI (hp.rat h14) (bI ((HB.o.2.2.2.trans hX4).own hp.ext (fun k e=>by omega)) hp.box));clear hp hr4 h11 h14 hx11 hx14 hX1 hX4 hK1 hK4 hS hA d0 d1 d2 d3 d4 d5;generalize ((w14.setCell ⟨r,0,none⟩ (.bool ng)).setCell ⟨r,1,none⟩ (.slice sa sn sc)).setCell ⟨r,2,none⟩ (.slice ta tn tc)=w20 at *;obtain ⟨g0,g1,g2,_⟩:=HR.o.2.2.facts;go_wp2;exact bodyPost_ret (v:=.agg #[.bool ng,.slice sa sn sc,.slice ta tn tc]) (by simp [results,Tryz.results65,go_sem,g0,g1,g2]) rfl ⟨_,rfl,HR.o.1,HR.o.2.1⟩
theorem sz_add {q q':Rat} {L M:Nat} (h:Sz q L) (h':Sz q' M):Sz (q+q') (L+M+1):=by
 have e:q+q'=mkRat (q.num*(q'.den:Int)+q'.num*(q.den:Int)) (q.den*q'.den):=by
  rw [<- Rat.mkRat_add_mkRat _ _ q.den_nz q'.den_nz,Rat.mkRat_self,Rat.mkRat_self]
 rw [e];have n1:=Nat.lt_of_lt_of_le (dg_lt q.num.natAbs) (pow_mono h.1);have n2:=Nat.lt_of_lt_of_le (dg_lt q'.num.natAbs) (pow_mono h'.1);have d1:=Nat.lt_of_lt_of_le (dg_lt q.den) (pow_mono h.2);have d2:=Nat.lt_of_lt_of_le (dg_lt q'.den) (pow_mono h'.2);have h1:(dg (q.num*(q'.den:Int)).natAbs).length<=L+M:=by
  rw [Int.natAbs_mul,Int.natAbs_natCast];exact dg_len_mul n1 d2
 have h2:(dg (q'.num*(q.den:Int)).natAbs).length<=L+M:=by
  rw [Int.natAbs_mul,Int.natAbs_natCast,Nat.add_comm L M];exact dg_len_mul n2 d1
 exact sz_mkRat (Nat.mul_pos q.den_pos q'.den_pos) (len_add h1 h2) (Nat.le_trans (dg_len_mul d1 d2) (Nat.le_succ _)) (Nat.le_refl _)
theorem Rrcmp_any (w:World) (v v':Value) (q q':Rat) (L:Nat) (h:Rrat w v q L) (h':Rrat w v' q' L) (h0:1<=L) (hL:L<=16777216) :
  Calls Tryz.prog 35 #[v,v'] w fun r w'=>r=.returned (.int .i64 (q - q').num.sign)/\XF w w':=by
 have HS:=bH (fun W (hW:XF w W)=>Rrsub_any W v v' q q' L (h.keep hW) (h'.keep hW) h0 hL);have hsz:Sz (q - q') (L+L+1):=by rw [Rat.sub_eq_add_neg]; exact sz_add (h.sz h0) (h'.sz h0).neg
 have HG:=bH (fun W u (hu:IsRat W u (q - q'))=>Rrsign_any W u (q - q') (L+L+1) (hu.reads hsz) (by omega));obtain ⟨n1,a1,l1,c1,x1,y1,k1,l,d,rfl,hr,hd,hm,hdl,hq⟩:=h.open;obtain ⟨n2,a2,l2,c2,x2,y2,k2,l',d',rfl,hr',hd',hm',hdl',hq'⟩:=h'.open;clear hr hr' hd hd' hdl hdl' hq hq' h h' hm hm' hsz;generalize q - q'=Q at *;go_enter Tryz.func35,Tryz.ntmps35;go_upto_region 0 with fail;go_cut [2,3] (fun v1 v2 wx=>∃ b1 b2,v1=.pointer (some ⟨b1,0,none⟩)/\v2=.pointer (some ⟨b2,0,none⟩)/\BoxR wx b1 n1 (.slice a1 l1 c1) (.slice x1 y1 k1)/\BoxR wx b2 n2 (.slice a2 l2 c2) (.slice x2 y2 k2)/\XF w wx);case first =>
  go_wp2;go_meet;exact ⟨_,_,rfl,rfl,(boxR_new rfl n1 a1 l1 c1 x1 y1 k1).alloc _,boxR_new (by simp) n2 a2 l2 c2 x2 y2 k2,((Ext.refl _ w).alloc _).alloc _⟩
 case rest =>
  obtain ⟨b1,b2,rfl,rfl,hb1,hb2,hx⟩:=hcut;obtain ⟨c0,c1',c2',_⟩:=hb1.facts;obtain ⟨e0,e1,e2,_⟩:=hb2.facts;have HX:=bH hx;have HS1:=bH (HS.o wc hx);clear hb1 hb2 hx;go_wp2_with fail;refine HS1.o.mono ?_;rintro r1 w1 ⟨v1,rfl,h1,hx1⟩;have HG1:=bH (HG.o w1 v1 h1);have HX1:=bH (HX.o.trans hx1);obtain ⟨ng,sa,sn,sc,ta,tn,tc,rfl⟩:=h1.shape;clear h1 hx1;go_wp2_with fail;refine HG1.o.mono ?_;rintro r2 w2 ⟨rfl,hx2⟩;have HX2:=bH (HX1.o.trans hx2);clear hx2;go_wp2;go_ret;exact ⟨rfl,HX2.o⟩
theorem getD_lt {α:Type} {l:List α} {i:Nat} (h:i<l.length) (d:α):l.getD i d=l[i]:=by
 rw [List.getD_eq_getElem?_getD,List.getElem?_eq_getElem h]; rfl
def Sl (w:World) (v:Value) (m:Nat) (cs:List (List Value)):Prop :=
 ∃ ao c,v=.slice ao cs.length c/\cs.length<=c/\c<=maxLen/\(ao=none->c=0)/\(0<cs.length->∃ b off,ao=some ⟨b,off,none⟩/\b<w.heap.size/\∀ i r,cs[i]?=some r->∀ j u,r[j]?=some u->w.cell? ⟨b,off+i*m+j,none⟩=some u)
theorem Sl.keep {w w':World} {v:Value} {m:Nat} {cs:List (List Value)} (h:Sl w v m cs) (hx:XF w w'):Sl w' v m cs:=by
 obtain ⟨ao,c,rfl,h1,h2,h3,h4⟩:=h;refine ⟨ao,c,rfl,h1,h2,h3,fun hp=>?_⟩;obtain ⟨b,off,e,hb,hc⟩:=h4 hp;exact ⟨b,off,e,Nat.lt_of_lt_of_le hb hx.size,fun i r hi j u hu=>(hx.cell (p:=⟨b,off+i*m+j,none⟩) hb id).trans (hc i r hi j u hu)⟩
theorem Sl.nil (w:World) (m:Nat):Sl w (.slice none 0 0) m []:=⟨none,0,rfl,Nat.le_refl _,Nat.zero_le _,fun _=>rfl,fun h=>absurd h (Nat.lt_irrefl 0)⟩
theorem Sl.shape {w:World} {v:Value} {m:Nat} {cs:List (List Value)} (h:Sl w v m cs):∃ ao c,v=.slice ao cs.length c/\(ao=none->c=0)/\cs.length<=9223372036854775807/\cs.length<=c:=by
 obtain ⟨ao,c,rfl,h1,h2,h3,_⟩:=h;exact ⟨ao,c,rfl,h3,(by unfold maxLen at h2; omega),h1⟩
theorem Sl.at {w:World} {ao:Option Addr} {n c m:Nat} {cs:List (List Value)} (h:Sl w (.slice ao n c) m cs) {i:Nat} {r:List Value} (hi:cs[i]?=some r) :
  ∃ b off,ao=some ⟨b,off,none⟩/\b<w.heap.size/\∀ j u,r[j]?=some u->w.cell? ⟨b,off+i*m+j,none⟩=some u:=by
 obtain ⟨ao',c',e,h1,h2,h3,h4⟩:=h;cases e;obtain ⟨b,off,e,hb,hc⟩:=h4 (by have:=(List.getElem?_eq_some_iff.1 hi).1; omega);exact ⟨b,off,e,hb,hc i r hi⟩
def InR (n:Int):Prop:=-9223372036854775808<=n/\n<=9223372036854775807
def cV (v:VarV):List Value:=[.int .i64 v.lo,.int .i64 v.up,.bool v.op,.bool v.ig,.int .i64 v.co]
def cT (t:TermV):List Value:=[.int .i64 t.var,.int .i64 t.coef]
def cR (r:RowV) (tv:Value):List Value:=[.string r.name,.int .i64 r.group,.int .i64 r.kind,tv,.int .i64 r.bound]
structure VarOk (v:VarV):Prop where
 lo:InR v.lo
 up:InR v.up
 co:InR v.co
structure TermOk (t:TermV):Prop where
 var:InR t.var
 coef:InR t.coef
structure RowOk (r:RowV):Prop where
 name:r.name.size<=maxLen
 group:InR r.group
 kind:InR r.kind
 bound:InR r.bound
def Tms (w:World) (v:Value) (l:List TermV):Prop:=Sl w v 2 (l.map cT)/\∀ t ∈ l,TermOk t
def Vrs (w:World) (v:Value) (l:List VarV):Prop:=Sl w v 5 (l.map cV)/\∀ x ∈ l,VarOk x
def Rws (w:World) (v:Value) (l:List RowV):Prop:=∃ tvs:List Value,tvs.length=l.length/\Sl w v 5 (List.zipWith cR l tvs)/\∀ (i:Nat) r tv,l[i]?=some r->tvs[i]?=some tv->Tms w tv r.terms/\RowOk r
def Rats (w:World) (v:Value) (l:List Rat) (L:Nat):Prop:=∃ cs:List (List Value),cs.length=l.length/\Sl w v 3 cs/\∀ (i:Nat) c q,cs[i]?=some c->l[i]?=some q->Rrat w (.agg c.toArray) q L
def IsPrg (w:World) (v:Value) (p:ProgV):Prop:=∃ vv rv,v=.agg #[vv,rv]/\Vrs w vv p.vars/\Rws w rv p.rows
section
variable {w w':World} {v:Value}
theorem Tms.keep {l:List TermV} (h:Tms w v l) (hx:XF w w'):Tms w' v l:=⟨h.1.keep hx,h.2⟩
theorem Vrs.keep {l:List VarV} (h:Vrs w v l) (hx:XF w w'):Vrs w' v l:=⟨h.1.keep hx,h.2⟩
theorem Rws.keep {l:List RowV} (h:Rws w v l) (hx:XF w w'):Rws w' v l:=by
 obtain ⟨tvs,h1,h2,h3⟩:=h;exact ⟨tvs,h1,h2.keep hx,fun i r tv hr ht=>⟨(h3 i r tv hr ht).1.keep hx,(h3 i r tv hr ht).2⟩⟩
theorem Rats.keep {l:List Rat} {L:Nat} (h:Rats w v l L) (hx:XF w w'):Rats w' v l L:=by
 obtain ⟨cs,h1,h2,h3⟩:=h;exact ⟨cs,h1,h2.keep hx,fun i c q hc hq=>(h3 i c q hc hq).keep hx⟩
theorem Rats.mono {l:List Rat} {L M:Nat} (h:Rats w v l L) (hl:L<=M):Rats w v l M:=by
 obtain ⟨cs,h1,h2,h3⟩:=h;exact ⟨cs,h1,h2,fun i c q hc hq=>(h3 i c q hc hq).mono hl⟩
theorem Rats.nil (w:World) (L:Nat):Rats w (.slice none 0 0) [] L:=⟨[],rfl,Sl.nil w 3,fun i c q hc=>by simp at hc⟩
theorem IsPrg.keep {p:ProgV} (h:IsPrg w v p) (hx:XF w w'):IsPrg w' v p:=by
 obtain ⟨vv,rv,h1,h2,h3⟩:=h;exact ⟨vv,rv,h1,h2.keep hx,h3.keep hx⟩
theorem Tms.shape {l:List TermV} (h:Tms w v l):∃ ao c,v=.slice ao l.length c/\(ao=none->c=0)/\l.length<=9223372036854775807/\l.length<=c:=by
 obtain ⟨ao,c,h1,h2⟩:=h.1.shape;rw [List.length_map] at h1 h2;exact ⟨ao,c,h1,h2⟩
theorem Vrs.shape {l:List VarV} (h:Vrs w v l):∃ ao c,v=.slice ao l.length c/\(ao=none->c=0)/\l.length<=9223372036854775807/\l.length<=c:=by
 obtain ⟨ao,c,h1,h2⟩:=h.1.shape;rw [List.length_map] at h1 h2;exact ⟨ao,c,h1,h2⟩
theorem Rws.shape {l:List RowV} (h:Rws w v l):∃ ao c,v=.slice ao l.length c/\(ao=none->c=0)/\l.length<=9223372036854775807/\l.length<=c:=by
 obtain ⟨tvs,h0,h1,_⟩:=h;obtain ⟨ao,c,h1,h2⟩:=h1.shape;rw [List.length_zipWith,h0,Nat.min_self] at h1 h2;exact ⟨ao,c,h1,h2⟩
theorem Rats.shape {l:List Rat} {L:Nat} (h:Rats w v l L):∃ ao c,v=.slice ao l.length c/\(ao=none->c=0)/\l.length<=9223372036854775807/\l.length<=c:=by
 obtain ⟨cs,h0,h1,_⟩:=h;obtain ⟨ao,c,h1,h2⟩:=h1.shape;rw [h0] at h1 h2;exact ⟨ao,c,h1,h2⟩
theorem Tms.at {ao:Option Addr} {n c:Nat} {l:List TermV} (h:Tms w (.slice ao n c) l) (i:Nat) (hi:i<l.length):∃ b off,ao=some ⟨b,off,none⟩/\b<w.heap.size /\
  w.cell? ⟨b,off+i*2,none⟩=some (.int .i64 (l.getD i term0).var)/\w.cell? ⟨b,off+i*2+1,none⟩=some (.int .i64 (l.getD i term0).coef)/\TermOk (l.getD i term0):=by
 rw [getD_lt hi term0];obtain ⟨b,off,h1,h2,h3⟩:=h.1.at (i:=i) (r:=cT l[i]) (by rw [List.getElem?_map,List.getElem?_eq_getElem hi]; rfl);exact ⟨b,off,h1,h2,h3 0 _ rfl,h3 1 _ rfl,h.2 _ (List.getElem_mem hi)⟩
theorem Vrs.at {ao:Option Addr} {n c:Nat} {l:List VarV} (h:Vrs w (.slice ao n c) l) (i:Nat) (hi:i<l.length):∃ b off,ao=some ⟨b,off,none⟩/\b<w.heap.size /\
  w.cell? ⟨b,off+i*5,none⟩=some (.int .i64 (l.getD i var0).lo)/\w.cell? ⟨b,off+i*5+1,none⟩=some (.int .i64 (l.getD i var0).up)/\w.cell? ⟨b,off+i*5+2,none⟩=some (.bool (l.getD i var0).op)/\w.cell? ⟨b,off+i*5+3,none⟩=some (.bool (l.getD i var0).ig)/\w.cell? ⟨b,off+i*5+4,none⟩=some (.int .i64 (l.getD i var0).co)/\VarOk (l.getD i var0):=by
 rw [getD_lt hi var0];obtain ⟨b,off,h1,h2,h3⟩:=h.1.at (i:=i) (r:=cV l[i]) (by rw [List.getElem?_map,List.getElem?_eq_getElem hi]; rfl);exact ⟨b,off,h1,h2,h3 0 _ rfl,h3 1 _ rfl,h3 2 _ rfl,h3 3 _ rfl,h3 4 _ rfl,h.2 _ (List.getElem_mem hi)⟩
theorem Rws.at {ao:Option Addr} {n c:Nat} {l:List RowV} (h:Rws w (.slice ao n c) l) (i:Nat) (hi:i<l.length):∃ b off ta tc,ao=some ⟨b,off,none⟩/\b<w.heap.size /\
  w.cell? ⟨b,off+i*5,none⟩=some (.string (l.getD i row0).name)/\w.cell? ⟨b,off+i*5+1,none⟩=some (.int .i64 (l.getD i row0).group)/\w.cell? ⟨b,off+i*5+2,none⟩=some (.int .i64 (l.getD i row0).kind)/\w.cell? ⟨b,off+i*5+3,none⟩=some (.slice ta (l.getD i row0).terms.length tc)/\w.cell? ⟨b,off+i*5+4,none⟩=some (.int .i64 (l.getD i row0).bound)/\RowOk (l.getD i row0)/\Tms w (.slice ta (l.getD i row0).terms.length tc) (l.getD i row0).terms:=by
 rw [getD_lt hi row0];obtain ⟨tvs,h0,h1,h2⟩:=h;have hi':i<tvs.length:=by omega
 obtain ⟨b,off,g1,g2,g3⟩:=h1.at (i:=i) (r:=cR l[i] tvs[i]) (by rw [List.getElem?_zipWith,List.getElem?_eq_getElem hi,List.getElem?_eq_getElem hi']);obtain ⟨k1,k2⟩:=h2 i _ _ (List.getElem?_eq_getElem hi) (List.getElem?_eq_getElem hi');obtain ⟨ta,tc,e,_⟩:=k1.shape;rw [e] at k1;have g4:=g3 3 _ rfl;rw [e] at g4;exact ⟨b,off,ta,tc,g1,g2,g3 0 _ rfl,g3 1 _ rfl,g3 2 _ rfl,g4,g3 4 _ rfl,k2,k1⟩
theorem Rats.at {ao:Option Addr} {n c:Nat} {l:List Rat} {L:Nat} (h:Rats w (.slice ao n c) l L) (i:Nat) (hi:i<l.length):∃ b off neg a1 m1 c1 a2 m2 c2,ao=some ⟨b,off,none⟩/\b<w.heap.size /\
  w.cell? ⟨b,off+i*3,none⟩=some (.bool neg)/\w.cell? ⟨b,off+i*3+1,none⟩=some (.slice a1 m1 c1)/\w.cell? ⟨b,off+i*3+2,none⟩=some (.slice a2 m2 c2)/\Rrat w (.agg #[.bool neg,.slice a1 m1 c1,.slice a2 m2 c2]) (atQ l i) L:=by
 rw [atQ_in l hi];obtain ⟨cs,h0,h1,h2⟩:=h;have hi':i<cs.length:=by omega
 obtain ⟨b,off,g1,g2,g3⟩:=h1.at (i:=i) (List.getElem?_eq_getElem hi');have k1:=h2 i _ _ (List.getElem?_eq_getElem hi') (List.getElem?_eq_getElem hi);obtain ⟨neg,a1,m1,c1,a2,m2,c2,_,_,e,_⟩:=k1.open;rw [e] at k1;have ec:cs[i]=[.bool neg,.slice a1 m1 c1,.slice a2 m2 c2]:=by
  injection e with e;have:=congrArg Array.toList e;simpa using this
 rw [ec] at g3;exact ⟨b,off,neg,a1,m1,c1,a2,m2,c2,g1,g2,g3 0 _ rfl,g3 1 _ rfl,g3 2 _ rfl,k1⟩
theorem Rrat.zero (w:World) (L:Nat):Rrat w (.agg #[.bool false,.slice none 0 0,.slice none 0 0]) 0 L :=
 ⟨false,_,_,[],[],rfl,Rds.nil w,Nat.zero_le _,Rds.nil w,Nat.zero_le _,rfl⟩
theorem IsRat.zero (w:World):IsRat w (.agg #[.bool false,.slice none 0 0,.slice none 0 0]) 0:=⟨_,_,rfl,IsNat.nil w,IsNat.nil w⟩
end
theorem Vrs.atp {w:World} {p:ProgV} {ao:Option Addr} {n c:Nat} (h:Vrs w (.slice ao n c) p.vars) (i:Nat) (hi:i<p.vars.length):∃ b off,ao=some ⟨b,off,none⟩/\b<w.heap.size /\
  w.cell? ⟨b,off+i*5,none⟩=some (.int .i64 (p.v i).lo)/\w.cell? ⟨b,off+i*5+1,none⟩=some (.int .i64 (p.v i).up)/\w.cell? ⟨b,off+i*5+2,none⟩=some (.bool (p.v i).op)/\w.cell? ⟨b,off+i*5+3,none⟩=some (.bool (p.v i).ig)/\w.cell? ⟨b,off+i*5+4,none⟩=some (.int .i64 (p.v i).co)/\VarOk (p.v i):=h.at i hi
theorem Rws.atp {w:World} {p:ProgV} {ao:Option Addr} {n c:Nat} (h:Rws w (.slice ao n c) p.rows) (i:Nat) (hi:i<p.rows.length):∃ b off ta tc,ao=some ⟨b,off,none⟩/\b<w.heap.size /\
  w.cell? ⟨b,off+i*5,none⟩=some (.string (p.r i).name)/\w.cell? ⟨b,off+i*5+1,none⟩=some (.int .i64 (p.r i).group)/\w.cell? ⟨b,off+i*5+2,none⟩=some (.int .i64 (p.r i).kind)/\w.cell? ⟨b,off+i*5+3,none⟩=some (.slice ta (p.r i).terms.length tc)/\w.cell? ⟨b,off+i*5+4,none⟩=some (.int .i64 (p.r i).bound)/\RowOk (p.r i)/\Tms w (.slice ta (p.r i).terms.length tc) (p.r i).terms:=h.at i hi
theorem Tms.atr {w:World} {r:RowV} {ao:Option Addr} {n c:Nat} (h:Tms w (.slice ao n c) r.terms) (i:Nat) (hi:i<r.terms.length):∃ b off,ao=some ⟨b,off,none⟩/\b<w.heap.size /\
  w.cell? ⟨b,off+i*2,none⟩=some (.int .i64 (r.t i).var)/\w.cell? ⟨b,off+i*2+1,none⟩=some (.int .i64 (r.t i).coef)/\TermOk (r.t i):=h.at i hi
theorem ProgV.r_at (p:ProgV) {i:Nat} (h:i<p.rows.length):p.rows[i]=p.r i:=(getD_lt h _).symm
theorem RowV.t_at (r:RowV) {i:Nat} (h:i<r.terms.length):r.terms[i]=r.t i:=(getD_lt h _).symm
theorem Sz.mono {q:Rat} {L M:Nat} (h:Sz q L) (hl:L<=M):Sz q M:=⟨Nat.le_trans h.1 hl,Nat.le_trans h.2 hl⟩
theorem den_lt {q:Rat} {L:Nat} (h:Sz q L):q.den<4294967296 ^ L:=Nat.lt_of_lt_of_le (dg_lt _) (pow_mono h.2)
theorem num_lt {q:Rat} {L:Nat} (h:Sz q L):q.num.natAbs<4294967296 ^ L:=Nat.lt_of_lt_of_le (dg_lt _) (pow_mono h.1)
theorem Sz.add {q q':Rat} {L M:Nat} (h:Sz q L) (h':Sz q' M):Sz (q+q') (L+M+1):=by
 have e:q+q'=mkRat (q.num*(q'.den:Int)+q'.num*(q.den:Int)) (q.den*q'.den):=by
  rw [<- Rat.mkRat_add_mkRat _ _ q.den_nz q'.den_nz,Rat.mkRat_self,Rat.mkRat_self]
 rw [e];have h1:(dg (q.num*(q'.den:Int)).natAbs).length<=L+M:=by
  rw [Int.natAbs_mul,Int.natAbs_natCast];exact dg_len_mul (num_lt h) (den_lt h')
 have h2:(dg (q'.num*(q.den:Int)).natAbs).length<=L+M:=by
  rw [Int.natAbs_mul,Int.natAbs_natCast];have:=dg_len_mul (num_lt h') (den_lt h);omega
 refine sz_mkRat (Nat.mul_pos q.den_pos q'.den_pos) (len_add h1 h2) (Nat.le_trans (dg_len_mul (den_lt h) (den_lt h')) (Nat.le_succ _)) (Nat.le_refl _)
theorem Sz.mul {q q':Rat} {L M:Nat} (h:Sz q L) (h':Sz q' M):Sz (q*q') (L+M):=by
 have e:q*q'=mkRat (q.num*q'.num) (q.den*q'.den):=by
  rw [<- Rat.mkRat_mul_mkRat,Rat.mkRat_self,Rat.mkRat_self]
 rw [e];refine sz_mkRat (Nat.mul_pos q.den_pos q'.den_pos) ?_ (dg_len_mul (den_lt h) (den_lt h')) (Nat.le_refl _);rw [Int.natAbs_mul];exact dg_len_mul (num_lt h) (num_lt h')
theorem Sz.sub {q q':Rat} {L M:Nat} (h:Sz q L) (h':Sz q' M):Sz (q - q') (L+M+1):=by
 rw [Rat.sub_eq_add_neg]; exact h.add h'.neg
theorem Sz.int {k:Int} (h:InR k):Sz (k:Rat) 2:=by
 constructor
 ·rw [Rat.num_intCast];refine dg_length_le ?_;have:(4294967296:Nat) ^ 2=18446744073709551616:=(by decide);rw [this];unfold InR at h;omega
 ·rw [Rat.den_intCast];exact dg_length_le (k:=2) (by decide)
theorem Sz.zero:Sz 0 1:=⟨dg_length_le (k:=1) (by decide),dg_length_le (k:=1) (by decide)⟩
def AtPost (w:World) (q:Rat) (L:Nat) (r:Ending) (w':World):Prop:=∃ u,r=.returned u/\Rrat w' u q L/\XF w w'
theorem PutR.rrat {w w':World} {r:Nat} {neg:Bool} {mag den v:Value} {q:Rat} {L:Nat} (h:PutR w w' r neg mag den) (hi:Rrat w v q L):Rrat w' v q L:=by
 obtain ⟨n,m,d,l,k,h1,h2,h3,h4,h5⟩:=hi;exact ⟨n,m,d,l,k,h1,h.rds _ _ h2,h3,h.rds _ _ h4,h5⟩
theorem at_put {w w1:World} {r:Nat} {neg n0:Bool} {a1 a2:Option Addr} {m1 c1 m2 c2:Nat} {q:Rat} {L:Nat} {x0 y0:Value} (hb:BoxR w1 r n0 x0 y0) (hr:w.heap.size<=r) (hx:XF w w1)
  (h:Rrat w1 (.agg #[.bool neg,.slice a1 m1 c1,.slice a2 m2 c2]) q L) :
  BoxR (((w1.setCell ⟨r,0,none⟩ (.bool neg)).setCell ⟨r,1,none⟩ (.slice a1 m1 c1)).setCell ⟨r,2,none⟩ (.slice a2 m2 c2)) r neg (.slice a1 m1 c1) (.slice a2 m2 c2) /\
   AtPost w q L (.returned (.agg #[.bool neg,.slice a1 m1 c1,.slice a2 m2 c2])) (((w1.setCell ⟨r,0,none⟩ (.bool neg)).setCell ⟨r,1,none⟩ (.slice a1 m1 c1)).setCell ⟨r,2,none⟩ (.slice a2 m2 c2)) :=
 have hp:=hb.put (neg:=neg) (no_int a1 m1 c1) (no_int a2 m2 c2)
 ⟨hp.box,_,rfl,hp.rrat h,hx.own hp.ext (fun k e=>by omega)⟩
theorem lat_any (w:World) (v:Value) (l:List Rat) (L:Nat) (h:Rats w v l L) (i:Int):Calls Tryz.prog 140 #[v,.int .i64 i] w (AtPost w (atQ l i) L):=by
 obtain ⟨ao,c,rfl,_,hn,_⟩:=h.shape;have hb:=boxR_new (W:=w) rfl false none 0 0 none 0 0;have hx:=(Ext.refl (fun _=>False) w).alloc (.cells #[.bool false,.slice none 0 0,.slice none 0 0] 64);have H:=bH (h.keep hx);have HB:=bH (bI hb hx);clear h;go_enter Tryz.func140,Tryz.ntmps140;go_upto_region 1 with fail;clear hb hx;generalize w.alloc (.cells #[.bool false,.slice none 0 0,.slice none 0 0] 64)=w1 at *;obtain ⟨d0,d1,d2,d3,d4,d5⟩:=HB.o.1.facts;have hz:∀ q,q=0->Rrat w1 (.agg #[.bool false,.slice none 0 0,.slice none 0 0]) q L:=fun q hq=>by subst hq; exact Rrat.zero w1 L
 by_cases h0:i<0
 ·obtain ⟨hp,ha⟩:=at_put HB.o.1 (Nat.le_refl _) HB.o.2 (hz _ (atQ_neg l h0));have HP:=bH (bI hp ha);clear hp ha hz;generalize l.length=n at *;go_wp2;generalize ((w1.setCell ⟨w.heap.size,0,none⟩ (.bool false)).setCell ⟨w.heap.size,1,none⟩ (.slice none 0 0)).setCell ⟨w.heap.size,2,none⟩ (.slice none 0 0)=w9 at *;obtain ⟨g0,g1,g2,_⟩:=HP.o.1.facts;exact bodyPost_ret (v:=.agg #[.bool false,.slice none 0 0,.slice none 0 0]) (by simp [results,Tryz.results140,go_sem,g0,g1,g2]) rfl HP.o.2
 by_cases h1:(l.length:Int)<=i
 ·obtain ⟨hp,ha⟩:=at_put HB.o.1 (Nat.le_refl _) HB.o.2 (hz _ (atQ_out l h1));have HP:=bH (bI hp ha);clear hp ha hz;generalize l.length=n at *;go_wp2;generalize ((w1.setCell ⟨w.heap.size,0,none⟩ (.bool false)).setCell ⟨w.heap.size,1,none⟩ (.slice none 0 0)).setCell ⟨w.heap.size,2,none⟩ (.slice none 0 0)=w9 at *;obtain ⟨g0,g1,g2,_⟩:=HP.o.1.facts;exact bodyPost_ret (v:=.agg #[.bool false,.slice none 0 0,.slice none 0 0]) (by simp [results,Tryz.results140,go_sem,g0,g1,g2]) rfl HP.o.2
 ·obtain ⟨j,rfl⟩:∃ j:Nat,i=j:=⟨i.toNat,by omega⟩;have hj:j<l.length:=(by omega);obtain ⟨b,off,neg,a1,m1,c1,a2,m2,c2,rfl,hlt,e0,e1,e2,hq⟩:=H.o.at j hj;obtain ⟨hp,ha⟩:=at_put HB.o.1 (Nat.le_refl _) HB.o.2 hq;have HP:=bH (bI hp ha);clear hp ha hq hz H;have j0:(0:Int)<=(j:Int):=(by omega);have j1:(j:Int)<(l.length:Int):=(by omega);generalize l.length=n at *;go_wp2;generalize ((w1.setCell ⟨w.heap.size,0,none⟩ (.bool neg)).setCell ⟨w.heap.size,1,none⟩ (.slice a1 m1 c1)).setCell ⟨w.heap.size,2,none⟩ (.slice a2 m2 c2)=w9 at *;obtain ⟨g0,g1,g2,_⟩:=HP.o.1.facts;exact bodyPost_ret (v:=.agg #[.bool neg,.slice a1 m1 c1,.slice a2 m2 c2]) (by simp [results,Tryz.results140,go_sem,g0,g1,g2]) rfl HP.o.2
theorem At_any (w:World) (v:Value) (l:List Rat) (L:Nat) (h:Rats w v l L) (i:Int):Calls Tryz.prog 40 #[v,.int .i64 i] w (AtPost w (atQ l i) L):=by
 obtain ⟨ao,c,rfl,_,hn,_⟩:=h.shape;have hb:=boxR_new (W:=w) rfl false none 0 0 none 0 0;have hx:=(Ext.refl (fun _=>False) w).alloc (.cells #[.bool false,.slice none 0 0,.slice none 0 0] 64);have H:=bH (h.keep hx);have HB:=bH (bI hb hx);clear h;go_enter Tryz.func40,Tryz.ntmps40;go_upto_region 1 with fail;clear hb hx;generalize w.alloc (.cells #[.bool false,.slice none 0 0,.slice none 0 0] 64)=w1 at *;obtain ⟨d0,d1,d2,d3,d4,d5⟩:=HB.o.1.facts;have hz:∀ q,q=0->Rrat w1 (.agg #[.bool false,.slice none 0 0,.slice none 0 0]) q L:=fun q hq=>by subst hq; exact Rrat.zero w1 L
 by_cases h0:i<0
 ·obtain ⟨hp,ha⟩:=at_put HB.o.1 (Nat.le_refl _) HB.o.2 (hz _ (atQ_neg l h0));have HP:=bH (bI hp ha);clear hp ha hz;generalize l.length=n at *;go_wp2;generalize ((w1.setCell ⟨w.heap.size,0,none⟩ (.bool false)).setCell ⟨w.heap.size,1,none⟩ (.slice none 0 0)).setCell ⟨w.heap.size,2,none⟩ (.slice none 0 0)=w9 at *;obtain ⟨g0,g1,g2,_⟩:=HP.o.1.facts;exact bodyPost_ret (v:=.agg #[.bool false,.slice none 0 0,.slice none 0 0]) (by simp [results,Tryz.results40,go_sem,g0,g1,g2]) rfl HP.o.2
 by_cases h1:(l.length:Int)<=i
 ·obtain ⟨hp,ha⟩:=at_put HB.o.1 (Nat.le_refl _) HB.o.2 (hz _ (atQ_out l h1));have HP:=bH (bI hp ha);clear hp ha hz;generalize l.length=n at *;go_wp2;generalize ((w1.setCell ⟨w.heap.size,0,none⟩ (.bool false)).setCell ⟨w.heap.size,1,none⟩ (.slice none 0 0)).setCell ⟨w.heap.size,2,none⟩ (.slice none 0 0)=w9 at *;obtain ⟨g0,g1,g2,_⟩:=HP.o.1.facts;exact bodyPost_ret (v:=.agg #[.bool false,.slice none 0 0,.slice none 0 0]) (by simp [results,Tryz.results40,go_sem,g0,g1,g2]) rfl HP.o.2
 ·obtain ⟨j,rfl⟩:∃ j:Nat,i=j:=⟨i.toNat,by omega⟩;have hj:j<l.length:=(by omega);obtain ⟨b,off,neg,a1,m1,c1,a2,m2,c2,rfl,hlt,e0,e1,e2,hq⟩:=H.o.at j hj;obtain ⟨hp,ha⟩:=at_put HB.o.1 (Nat.le_refl _) HB.o.2 hq;have HP:=bH (bI hp ha);clear hp ha hq hz H;have j0:(0:Int)<=(j:Int):=(by omega);have j1:(j:Int)<(l.length:Int):=(by omega);generalize l.length=n at *;go_wp2;generalize ((w1.setCell ⟨w.heap.size,0,none⟩ (.bool neg)).setCell ⟨w.heap.size,1,none⟩ (.slice a1 m1 c1)).setCell ⟨w.heap.size,2,none⟩ (.slice a2 m2 c2)=w9 at *;obtain ⟨g0,g1,g2,_⟩:=HP.o.1.facts;exact bodyPost_ret (v:=.agg #[.bool neg,.slice a1 m1 c1,.slice a2 m2 c2]) (by simp [results,Tryz.results40,go_sem,g0,g1,g2]) rfl HP.o.2
theorem Rrat.shape {w:World} {v:Value} {q:Rat} {L:Nat} (h:Rrat w v q L):∃ neg a1 m1 c1 a2 m2 c2,v=.agg #[.bool neg,.slice a1 m1 c1,.slice a2 m2 c2]:=by
 obtain ⟨neg,a1,m1,c1,a2,m2,c2,_,_,h,_⟩:=h.open;exact ⟨neg,a1,m1,c1,a2,m2,c2,h⟩
def TermPost (w:World) (k:Int) (q:Rat) (L:Nat) (r:Ending) (w':World):Prop:=∃ u,r=.returned (.tuple #[.int .i64 k,u])/\Rrat w' u q L/\XF w w'
theorem sign_zero (q:Rat):q.num.sign=0↔q=0:=by
 constructor
 ·intro h;have:=Int.sign_eq_zero_iff_zero.1 h;exact Rat.num_eq_zero.1 this
 ·intro h; subst h; rfl
theorem sum_size {f:Nat->Int} {g:Nat->Rat} {L:Nat} {n:Nat} (hf:∀ i,i<n->InR (f i)) (hg:∀ i,i<n->Sz (g i) L):∀ i,i<=n->Sz (sumTo i fun j=>(f j:Rat)*g j) (1+i*(L+3))
 | 0,_=>Sz.zero.mono (by omega)
 | i+1,hi=>by
  have h1:=sum_size hf hg i (by omega);have h2:=(Sz.int (hf i (by omega))).mul (hg i (by omega));have e:1+i*(L+3)+(2+L)+1=1+(i+1)*(L+3):=(by rw [Nat.succ_mul]; omega);exact (h1.add h2).mono (Nat.le_of_eq e)
def SumSt (w w0:World) (r s n i:Nat) (q:Rat):Prop:=∃ neg a1 m1 c1 a2 m2 c2,BoxR w s neg (.slice a1 m1 c1) (.slice a2 m2 c2)/\IsRat w (.agg #[.bool neg,.slice a1 m1 c1,.slice a2 m2 c2]) q/\BoxR w r false (.slice none 0 0) (.slice none 0 0)/\XF w0 w
theorem SumSt.keep {w w' w0:World} {r s n i:Nat} {q:Rat} (h:SumSt w w0 r s n i q) (hx:XF w w'):SumSt w' w0 r s n i q:=by
 obtain ⟨neg,a1,m1,c1,a2,m2,c2,h1,h2,h3,h4⟩:=h;exact ⟨neg,a1,m1,c1,a2,m2,c2,h1.ext hx id,h2.keep hx,h3.ext hx id,h4.trans hx⟩
theorem lsum_any (w:World) (n:Nat) (F:Nat) (caps:Array Value) (f:Nat->Int) (g:Nat->Rat) (L:Nat) (h1:1<=L) (hL:1+n*(L+3)+(L+3)<=4000000) (hf:∀ i,i<n->InR (f i)) (hg:∀ i,i<n->Sz (g i) L)
  (eg:∀ args W,(callFunc F args).run Tryz.prog W=.ok (.enter F args) W)
  (H:∀ W,XF w W->∀ i:Nat,i<n->Calls Tryz.prog F (#[.int .i64 i]++caps) W (TermPost W (f i) (g i) L)) :
  Calls Tryz.prog 138 #[.int .i64 n,.func (.func F) #[] caps] w (RatPost w (sumTo n fun i=>(f i:Rat)*g i)):=by
 have hn:n<=4000000:=by
  have:=Nat.le_mul_of_pos_right n (show 0<L+3 by omega);omega
 have H0:=bH H;have HF:=bH hf;have HG:=bH hg;clear H hf hg;have HZ:=bH (fun W=>rfrom_any W 0 (by omega) (by omega));go_enter Tryz.func138,Tryz.ntmps138;go_wp2_with fail;refine (HZ.o _).mono ?_;rintro r1 w1 ⟨v1,rfl,hv1,hx1⟩;obtain ⟨neg,a1,m1,c1,a2,m2,c2,rfl⟩:=hv1.shape;have hx0:=(Ext.refl (fun _=>False) w).alloc (.cells #[.bool false,.slice none 0 0,.slice none 0 0] 64);have hr0:=(boxR_new (W:=w) rfl false none 0 0 none 0 0).ext hx1 id;go_upto_region 2 with fail;have HS:Hid (SumSt (w1.alloc (.cells #[.bool neg,.slice a1 m1 c1,.slice a2 m2 c2] 64)) w w.heap.size w1.heap.size n 0 (sumTo 0 fun j=>(f j:Rat)*g j)) :=
  bH ⟨neg,a1,m1,c1,a2,m2,c2,boxR_new rfl _ _ _ _ _ _ _,hv1.keep ((Ext.refl _ _).alloc _),hr0.ext ((Ext.refl (fun _=>False) _).alloc _) id,(hx0.trans hx1).alloc _⟩
 have hrs:w.heap.size<w1.heap.size:=Nat.lt_of_lt_of_le (by simp) hx1.size;clear hv1 hx1 hx0 hr0 HZ;generalize w1.alloc (.cells #[.bool neg,.slice a1 m1 c1,.slice a2 m2 c2] 64)=w2 at *;generalize w1.heap.size=sb at *;go_wp2_with fail;go_loopg [11] n (fun gg v11 wr=>∃ i:Nat,i<=n/\gg=n - i/\v11=.int .i64 i/\SumSt wr w w.heap.size sb n i (sumTo i fun j=>(f j:Rat)*g j));case atStart=>exact ⟨0,Nat.zero_le _,rfl,rfl,HS.o⟩
 case round =>
  obtain ⟨i,hi,rfl,rfl,hst⟩:=hrel;by_cases hin:i<n
  ·have i0:(i:Int)<(n:Int):=(by omega);have HST:=bH hst;have HC:=bH (H0.o wr (by obtain ⟨_,_,_,_,_,_,_,_,_,_,h⟩:=hst; exact h) i hin);have HFi:=bH (HF.o i hin);clear hst HS;go_wp2_with fail;refine HC.o.mono ?_;rintro r3 w3 ⟨u3,rfl,hu3,hx3⟩;obtain ⟨xn,xa,xm,xc,ya,ym,yc,rfl⟩:=hu3.shape;clear HC;go_upto_region 6 with fail;have hx34:=(Ext.refl (fun _=>False) w3).alloc (.cells #[.bool xn,.slice xa xm xc,.slice ya ym yc] 64);have hbx:=boxR_new (W:=w3) rfl xn xa xm xc ya ym yc;have hu4:=hu3.keep hx34;have hst4:=HST.o.keep (hx3.trans hx34);have hxb:wr.heap.size<=w3.heap.size:=hx3.size;obtain ⟨sn,s1,sm1,sc1,s2,sm2,sc2,hsb,hsq,hsr,hsx⟩:=hst4;have hsxl:sb<wr.heap.size:=by
    obtain ⟨_,_,_,_,_,_,_,h,_⟩:=HST.o;exact h.lt
   have HB:=bH (bI hsb (bI hbx (bI hsr hsx)));have HQ:=bH (bI hsq hu4);have hzero:f i=0∨g i=0->sumTo (i+1) (fun j=>(f j:Rat)*g j)=sumTo i (fun j=>(f j:Rat)*g j):=fun h=>by
    show sumTo i (fun j=>(f j:Rat)*g j)+(f i:Rat)*g i=_;rcases h with h | h
    ·rw [h]; show _+(0:Rat)*g i=_; grind
    ·rw [h]; grind
   have HZ0:=bH hzero;clear hzero hu3 hx3 hx34 hsb hsr hsx hsq hu4 HST hbx;obtain ⟨xb,hxbe⟩:∃ xb,w3.heap.size=xb:=⟨_,rfl⟩;rw [hxbe] at HB hxb ⊢;generalize w3.alloc (.cells #[.bool xn,.slice xa xm xc,.slice ya ym yc] 64)=w4 at *;clear hxbe;obtain ⟨x0,x1,x2,_⟩:=HB.o.2.1.facts;by_cases hk:f i=0
   ·have HK:=bH hk;have hkb:(f i == 0)=true:=(by simpa using hk);go_wp2;go_roundg (n - (i+1));case measure=>omega
    case rel=>exact ⟨i+1,by omega,rfl,by go_num,by rw [HZ0.o (.inl HK.o)]; exact ⟨_,_,_,_,_,_,_,HB.o.1,HQ.o.1,HB.o.2.2.1,HB.o.2.2.2⟩⟩
   ·have hk':(f i == 0)=false:=(by simpa using hk);have HG1:=bH (rsign_any w4 _ (g i) L HQ.o.2 (by omega));go_wp2_with fail;refine HG1.o.mono ?_;rintro r5 w5 ⟨rfl,hx5⟩;have HB5:=bH (bI (HB.o.1.ext hx5 id) (bI (HB.o.2.1.ext hx5 id) (bI (HB.o.2.2.1.ext hx5 id) (HB.o.2.2.2.trans hx5))));have HQ5:=bH (bI (HQ.o.1.keep hx5) (HQ.o.2.keep hx5));clear hx5 HB HQ HG1 x0 x1 x2;by_cases hg0:g i=0
    ·have hs0:(g i).num.sign=0:=(sign_zero _).2 hg0;have HG0:=bH hg0;rw [hs0];clear hs0 hg0;go_wp2;go_roundg (n - (i+1));case measure=>omega
     case rel=>exact ⟨i+1,by omega,rfl,by go_num,by rw [HZ0.o (.inr HG0.o)]; exact ⟨_,_,_,_,_,_,_,HB5.o.1,HQ5.o.1,HB5.o.2.2.1,HB5.o.2.2.2⟩⟩
    ·have hs0:¬ (g i).num.sign=0:=fun h=>hg0 ((sign_zero _).1 h);have hs1:((g i).num.sign == 0)=false:=(by simpa using hs0);have hs2:((g i).num.sign != 0)=true:=(by simpa using hs0);have hs3:decide ((g i).num.sign=0)=false:=(by simpa using hs0);have HG0:=bH hg0;clear hg0;generalize (g i).num.sign=sg0 at *;have hsz:=sum_size HF.o HG.o i hi;have hszk:=(Sz.int HFi.o);have hszx:=hszk.mul (HG.o i hin);have hle:1+i*(L+3)<=1+n*(L+3):=Nat.add_le_add_left (Nat.mul_le_mul_right _ hi) 1;have HF1:=bH (fun W=>rfrom_any W (f i) HFi.o.1 HFi.o.2);have HM1:=bH (fun W (hW:XF w5 W) u (hu:IsRat W u ((f i:Int):Rat))=>rmul_any W u _ _ (g i) (L+2) (hu.reads (hszk.mono (by omega))) ((HQ5.o.2.keep hW).mono (by omega)) (by omega) (by omega));have HA1:=bH (fun W (hW:XF w5 W) u (hu:IsRat W u ((f i:Rat)*g i))=>radd_any W _ u (sumTo i fun j=>(f j:Rat)*g j) _ (1+n*(L+3)+(L+3)) ((HQ5.o.1.keep hW).reads (hsz.mono (by omega))) (hu.reads (hszx.mono (by omega))) (by omega) (by omega));rw [show sumTo i (fun j=>(f j:Rat)*g j)+(f i:Rat)*g i=sumTo (i+1) fun j=>(f j:Rat)*g j from rfl] at HA1;clear hsz hszk hszx hle HZ0;have hS:=SR2.of HB5.o.1 HB5.o.2.1;have hsxb:sb<xb:=(by omega);have hne:w.heap.size≠sb:=(by omega);obtain ⟨k',hk'⟩:∃ k',f i=k':=⟨_,rfl⟩;rw [hk'] at HF1 HM1 HA1 ⊢;go_upto_region 7 with fail;obtain ⟨z0,z1,z2,z3,z4,z5⟩:=hS;go_region_law (first
      | (go_simp; go_at_call 85; (with_reducible refine (HF1.o _).mono ?_); rintro q1 w11 ⟨v11,rfl,h11,hx11⟩; have hX1:=(Ext.refl (fun _=>False) w5).drew.trans hx11; obtain ⟨y0,y1,y2,y3,y4,y5⟩:=SR2.of (HB5.o.1.ext hX1 id) (HB5.o.2.1.ext hX1 id); have hM:=HM1.o w11 hX1 _ h11; obtain ⟨pn,pa,pm,pc,qa,qm,qc,rfl⟩:=h11.shape)
      | (go_simp; go_at_call 116; (with_reducible refine hM.mono ?_); rintro q2 w12 ⟨v12,rfl,h12,hx12⟩; have hX2:=hX1.trans hx12; obtain ⟨u0,u1,u2,u3,u4,u5⟩:=SR2.of (HB5.o.1.ext hX2 id) (HB5.o.2.1.ext hX2 id); have hA:=HA1.o w12 hX2 _ h12; obtain ⟨pn2,pa2,pm2,pc2,qa2,qm2,qc2,rfl⟩:=h12.shape)
      | (go_simp; go_at_call 117; (with_reducible refine hA.mono ?_); rintro q3 w13 ⟨v13,rfl,h13,hx13⟩; have hX3:=hX2.trans hx13; have hr3:=HB5.o.1.ext hX3 id; obtain ⟨d0,d1,d2,d3,d4,d5⟩:=hr3.facts; obtain ⟨ng,sa,sn1,sc,ta,tn,tc,rfl⟩:=h13.shape))
     all_goals
      have hp:=hr3.put (neg:=ng) (no_int sa sn1 sc) (no_int ta tn tc)
      have HR:Hid (SumSt _ w w.heap.size sb n (i+1) _):=bH ⟨_,_,_,_,_,_,_,hp.box,hp.rat h13,(HB5.o.2.2.1.ext hX3 id).ext hp.ext (fun e=>hne e),(HB5.o.2.2.2.trans hX3).own hp.ext (fun k e=>by omega)⟩
      clear hp hr3 h11 h12 h13 hx11 hx12 hx13 hX1 hX2 hX3 hM hA y0 y1 y2 y3 y4 y5 u0 u1 u2 u3 u4 u5 d0 d1 d2 d3 d4 d5 z0 z1 z2 z3 z4 z5
      go_wp2
      go_roundg (n - (i+1))
      case measure=>omega
      case rel=>exact ⟨i+1,by omega,rfl,by go_num,HR.o⟩
  ·obtain rfl:i=n:=(by omega);obtain ⟨sn,s1,sm1,sc1,s2,sm2,sc2,hsb,hsq,hsr,hsx⟩:=hst;obtain ⟨e0,e1,e2,_⟩:=hsb.facts;obtain ⟨d0,d1,d2,d3,d4,d5⟩:=hsr.facts;have hp:=hsr.put (neg:=sn) (no_int s1 sm1 sc1) (no_int s2 sm2 sc2);have HR:=bH (bI (hp.rat hsq) (bI (hsx.own hp.ext (fun k e=>by omega)) hp.box));clear hp hsb hsq hsr hsx HS;go_wp2;generalize ((wr.setCell ⟨w.heap.size,0,none⟩ (.bool sn)).setCell ⟨w.heap.size,1,none⟩ (.slice s1 sm1 sc1)).setCell ⟨w.heap.size,2,none⟩ (.slice s2 sm2 sc2)=w9 at *;obtain ⟨g0,g1,g2,_⟩:=HR.o.2.2.facts;exact bodyPost_ret (v:=.agg #[.bool sn,.slice s1 sm1 sc1,.slice s2 sm2 sc2]) (by simp [results,Tryz.results138,go_sem,g0,g1,g2]) rfl ⟨_,rfl,HR.o.1,HR.o.2.1⟩
theorem blk_keep {w w':World} {b:Nat} {o:Obj} (h:blk w b=some o) (hx:XF w w'):blk w' b=some o:=(hx.blk (blk_lt h) id).trans h
theorem cellq {w:World} {b:Nat} {c:Array Value} {t:TypeId} {f:Nat × Nat} (h:blk w b=some (.cells c t f)) (i:Nat) {x:Value} (hx:c[i]?=some x):w.cell? ⟨b,i,none⟩=some x:=(cell_of_cells h i).trans hx
theorem cell_keep {w w':World} {b i:Nat} {x:Value} (h:w.cell? ⟨b,i,none⟩=some x) (hx:XF w w'):w'.cell? ⟨b,i,none⟩=some x :=
 (hx.cell (p:=⟨b,i,none⟩) (World.block_lt_of_cell? w _ h) id).trans h
theorem term_put {w w1:World} {r:Nat} {neg n0:Bool} {a1 a2:Option Addr} {m1 c1 m2 c2:Nat} {k:Int} {q:Rat} {L:Nat} {x0 y0:Value} (hb:BoxR w1 r n0 x0 y0) (hr:w.heap.size<=r) (hx:XF w w1)
  (h:Rrat w1 (.agg #[.bool neg,.slice a1 m1 c1,.slice a2 m2 c2]) q L) :
  BoxR (((w1.setCell ⟨r,0,none⟩ (.bool neg)).setCell ⟨r,1,none⟩ (.slice a1 m1 c1)).setCell ⟨r,2,none⟩ (.slice a2 m2 c2)) r neg (.slice a1 m1 c1) (.slice a2 m2 c2) /\
   TermPost w k q L (.returned (.tuple #[.int .i64 k,.agg #[.bool neg,.slice a1 m1 c1,.slice a2 m2 c2]])) (((w1.setCell ⟨r,0,none⟩ (.bool neg)).setCell ⟨r,1,none⟩ (.slice a1 m1 c1)).setCell ⟨r,2,none⟩ (.slice a2 m2 c2)) :=
 have hp:=hb.put (neg:=neg) (no_int a1 m1 c1) (no_int a2 m2 c2)
 ⟨hp.box,_,rfl,hp.rrat h,hx.own hp.ext (fun k e=>by omega)⟩
abbrev S3 (b0 b1 b2 o0 o1 o2:Nat) (x0 x1 x2:Value) (W:World):Prop:=W.cell? ⟨b0,o0,none⟩=some x0/\W.cell? ⟨b1,o1,none⟩=some x1/\W.cell? ⟨b2,o2,none⟩=some x2
section
variable {b0 b1 b2 o0 o1 o2:Nat} {x0 x1 x2:Value} {W:World}
theorem S3.drew (h:S3 b0 b1 b2 o0 o1 o2 x0 x1 x2 W):S3 b0 b1 b2 o0 o1 o2 x0 x1 x2 W.drew:=h
theorem S3.keep {W':World} (h:S3 b0 b1 b2 o0 o1 o2 x0 x1 x2 W) (hx:XF W W'):S3 b0 b1 b2 o0 o1 o2 x0 x1 x2 W':=⟨cell_keep h.1 hx,cell_keep h.2.1 hx,cell_keep h.2.2 hx⟩
theorem S3.set (h:S3 b0 b1 b2 o0 o1 o2 x0 x1 x2 W) (p:Addr) (u:Value) (k0:¬ b0=p.block) (k1:¬ b1=p.block) (k2:¬ b2=p.block):S3 b0 b1 b2 o0 o1 o2 x0 x1 x2 (W.setCell p u):=⟨cell_other h.1 k0,cell_other h.2.1 k1,cell_other h.2.2 k2⟩
end
abbrev S4 (b0 b1 b2 b3 o0 o1 o2 o3:Nat) (x0 x1 x2 x3:Value) (W:World):Prop:=W.cell? ⟨b0,o0,none⟩=some x0/\W.cell? ⟨b1,o1,none⟩=some x1/\W.cell? ⟨b2,o2,none⟩=some x2/\W.cell? ⟨b3,o3,none⟩=some x3
section
variable {b0 b1 b2 b3 o0 o1 o2 o3:Nat} {x0 x1 x2 x3:Value} {W:World}
theorem S4.drew (h:S4 b0 b1 b2 b3 o0 o1 o2 o3 x0 x1 x2 x3 W):S4 b0 b1 b2 b3 o0 o1 o2 o3 x0 x1 x2 x3 W.drew:=h
theorem S4.keep {W':World} (h:S4 b0 b1 b2 b3 o0 o1 o2 o3 x0 x1 x2 x3 W) (hx:XF W W'):S4 b0 b1 b2 b3 o0 o1 o2 o3 x0 x1 x2 x3 W':=⟨cell_keep h.1 hx,cell_keep h.2.1 hx,cell_keep h.2.2.1 hx,cell_keep h.2.2.2 hx⟩
theorem S4.set (h:S4 b0 b1 b2 b3 o0 o1 o2 o3 x0 x1 x2 x3 W) (p:Addr) (u:Value) (k0:¬ b0=p.block) (k1:¬ b1=p.block) (k2:¬ b2=p.block) (k3:¬ b3=p.block):S4 b0 b1 b2 b3 o0 o1 o2 o3 x0 x1 x2 x3 (W.setCell p u):=⟨cell_other h.1 k0,cell_other h.2.1 k1,cell_other h.2.2.1 k2,cell_other h.2.2.2 k3⟩
end
theorem comb1_any (w:World) (pb xb:Nat) (vv rv xv:Value) (p:ProgV) (l:List Rat) (L:Nat) (hp:blk w pb=some (.cells #[vv,rv] 25 (0,0))) (hxb:blk w xb=some (.cells #[xv] 26 (0,0))) (hv:Rws w rv p.rows) (hl:Rats w xv l L) (i:Nat) (hi:i<p.rows.length) :
  Calls Tryz.prog 164 #[.int .i64 i,.pointer (some ⟨pb,0,none⟩),.pointer (some ⟨xb,0,none⟩)] w (TermPost w (p.r i).bound (atQ l i) L):=by
 obtain ⟨vo,vc,rfl,-,hn,-⟩:=hv.shape;obtain ⟨xo,xc,rfl,-,hxn,-⟩:=hl.shape;have HA:=bH (fun W (hW:XF w W)=>lat_any W _ l L (hl.keep hW) i);obtain ⟨b,off,ta0,tc0,rfl,hlt,-,-,-,-,e4,-⟩:=hv.atp i hi;have hx:=(Ext.refl (fun _=>False) w).alloc (.cells #[.bool false,.slice none 0 0,.slice none 0 0] 64);have hS:S3 pb xb b 1 0 (off+i*5+4) (.slice (some ⟨b,off,none⟩) p.rows.length vc) (.slice xo l.length xc) (.int .i64 (p.r i).bound) (w.alloc (.cells #[.bool false,.slice none 0 0,.slice none 0 0] 64)):=S3.keep ⟨cellq hp 1 rfl,cellq hxb 0 rfl,e4⟩ hx;have hb:=boxR_new (W:=w) rfl false none 0 0 none 0 0;have HB:=bH (bI hb hx);have n0:=blk_lt hp;have n1:=blk_lt hxb;have j0:(0:Int)<=(i:Int):=by omega
 have j1:(i:Int)<(p.rows.length:Int):=by omega
 clear hv hl hp hxb e4 hi;go_enter Tryz.func164,Tryz.ntmps164;go_upto_region 1 with fail;clear hb hx;obtain ⟨r,hr⟩:∃ r,w.heap.size=r:=⟨_,rfl⟩;rw [hr] at HB n0 n1 hlt ⊢;generalize w.alloc (.cells #[.bool false,.slice none 0 0,.slice none 0 0] 64)=w1 at *;generalize p.rows.length=n at *;generalize l.length=xn at *;generalize (p.r i).bound=k at *;go_region_held3 (S3 pb xb b 1 0 (off+i*5+4) (.slice (some ⟨b,off,none⟩) n vc) (.slice xo xn xc) (.int .i64 k))
  (repeat (first | (with_reducible assumption) | (with_reducible refine S3.drew ?_) | (with_reducible refine S3.set ?_ _ _ ?_ ?_ ?_) | (dsimp only; omega)))
  ((go_at_call 140; (with_reducible refine (HA.o _ HB.o.2.drew).mono ?_); rintro q1 w11 ⟨v11,rfl,h11,hx11⟩; have hX1:=(Ext.refl (fun _=>False) w1).drew.trans hx11; have hK1:=hS.keep hX1; have hr3:=HB.o.1.ext hX1 id; obtain ⟨d0,d1,d2,d3,d4,d5⟩:=hr3.facts; obtain ⟨ng,sa,sn,sc,ta,tn,tc,rfl⟩:=h11.shape))
 obtain ⟨hp,ha⟩:=term_put (w:=w) (k:=k) hr3 (Nat.le_of_eq hr) (HB.o.2.trans hX1) h11;have HP:=bH (bI hp ha);clear hp ha h11 hx11 hX1 hK1 hr3 d0 d1 d2 d3 d4 d5 hS HB;go_wp2;generalize ((w11.setCell ⟨r,0,none⟩ (.bool ng)).setCell ⟨r,1,none⟩ (.slice sa sn sc)).setCell ⟨r,2,none⟩ (.slice ta tn tc)=w9 at *;obtain ⟨g0,g1,g2,_⟩:=HP.o.1.facts;exact bodyPost_ret (v:=.tuple #[.int .i64 k,.agg #[.bool ng,.slice sa sn sc,.slice ta tn tc]]) (by simp [results,Tryz.results164,go_sem,g0,g1,g2]) rfl HP.o.2
theorem dot1_any (w:World) (tb xb:Nat) (tv xv:Value) (ts:List TermV) (l:List Rat) (L:Nat) (hp:blk w tb=some (.cells #[tv] 33 (0,0))) (hxb:blk w xb=some (.cells #[xv] 26 (0,0))) (hv:Tms w tv ts) (hl:Rats w xv l L) (i:Nat) (hi:i<ts.length) :
  Calls Tryz.prog 139 #[.int .i64 i,.pointer (some ⟨tb,0,none⟩),.pointer (some ⟨xb,0,none⟩)] w (TermPost w (ts.getD i term0).coef (atQ l (ts.getD i term0).var) L):=by
 obtain ⟨vo,vc,rfl,-,hn,-⟩:=hv.shape;obtain ⟨xo,xc,rfl,-,hxn,-⟩:=hl.shape;have HA:=bH (fun W (hW:XF w W)=>lat_any W _ l L (hl.keep hW) (ts.getD i term0).var);obtain ⟨b,off,rfl,hlt,e0,e1,-⟩:=hv.at i hi;have hx:=(Ext.refl (fun _=>False) w).alloc (.cells #[.bool false,.slice none 0 0,.slice none 0 0] 64);have hS:S4 tb xb b b 0 0 (off+i*2) (off+i*2+1) (.slice (some ⟨b,off,none⟩) ts.length vc) (.slice xo l.length xc) (.int .i64 (ts.getD i term0).var) (.int .i64 (ts.getD i term0).coef) (w.alloc (.cells #[.bool false,.slice none 0 0,.slice none 0 0] 64)):=S4.keep ⟨cellq hp 0 rfl,cellq hxb 0 rfl,e0,e1⟩ hx;have hb:=boxR_new (W:=w) rfl false none 0 0 none 0 0;have HB:=bH (bI hb hx);have n0:=blk_lt hp;have n1:=blk_lt hxb;have j0:(0:Int)<=(i:Int):=by omega
 have j1:(i:Int)<(ts.length:Int):=by omega
 clear hv hl hp hxb e0 e1 hi;go_enter Tryz.func139,Tryz.ntmps139;go_upto_region 1 with fail;clear hb hx;obtain ⟨r,hr⟩:∃ r,w.heap.size=r:=⟨_,rfl⟩;rw [hr] at HB n0 n1 hlt ⊢;generalize w.alloc (.cells #[.bool false,.slice none 0 0,.slice none 0 0] 64)=w1 at *;generalize ts.getD i term0=t at *;generalize ts.length=n at *;generalize l.length=xn at *;obtain ⟨tvar,k⟩:=t;go_region_held3 (S4 tb xb b b 0 0 (off+i*2) (off+i*2+1) (.slice (some ⟨b,off,none⟩) n vc) (.slice xo xn xc) (.int .i64 tvar) (.int .i64 k))
  (repeat (first | (with_reducible assumption) | (with_reducible refine S4.drew ?_) | (with_reducible refine S4.set ?_ _ _ ?_ ?_ ?_ ?_) | (dsimp only; omega)))
  ((go_at_call 140; (with_reducible refine (HA.o _ HB.o.2.drew).mono ?_); rintro q1 w11 ⟨v11,rfl,h11,hx11⟩; have hX1:=(Ext.refl (fun _=>False) w1).drew.trans hx11; have hK1:=hS.keep hX1; have hr3:=HB.o.1.ext hX1 id; obtain ⟨d0,d1,d2,d3,d4,d5⟩:=hr3.facts; obtain ⟨ng,sa,sn,sc,ta,tn,tc,rfl⟩:=h11.shape))
 obtain ⟨hp,ha⟩:=term_put (w:=w) (k:=k) hr3 (Nat.le_of_eq hr) (HB.o.2.trans hX1) h11;have HP:=bH (bI hp ha);clear hp ha h11 hx11 hX1 hK1 hr3 d0 d1 d2 d3 d4 d5 hS HB;go_wp2;generalize ((w11.setCell ⟨r,0,none⟩ (.bool ng)).setCell ⟨r,1,none⟩ (.slice sa sn sc)).setCell ⟨r,2,none⟩ (.slice ta tn tc)=w9 at *;obtain ⟨g0,g1,g2,_⟩:=HP.o.1.facts;exact bodyPost_ret (v:=.tuple #[.int .i64 k,.agg #[.bool ng,.slice sa sn sc,.slice ta tn tc]]) (by simp [results,Tryz.results139,go_sem,g0,g1,g2]) rfl HP.o.2
theorem Vrs.ok {p:ProgV} {w:World} {v:Value} (h:Vrs w v p.vars) (i:Nat) (hi:i<p.vars.length):VarOk (p.v i):=by
 obtain ⟨ao,c,rfl,_⟩:=h.shape;obtain ⟨_,_,_,_,_,_,_,_,_,h⟩:=h.atp i hi;exact h
theorem Rws.ok {p:ProgV} {w:World} {v:Value} (h:Rws w v p.rows) (i:Nat) (hi:i<p.rows.length):RowOk (p.r i):=by
 obtain ⟨ao,c,rfl,_⟩:=h.shape;obtain ⟨_,_,_,_,_,_,_,_,_,_,_,h,_⟩:=h.atp i hi;exact h
theorem Tms.ok {ts:List TermV} {w:World} {v:Value} (h:Tms w v ts) (i:Nat) (hi:i<ts.length):TermOk (ts.getD i term0):=by
 obtain ⟨ao,c,rfl,_⟩:=h.shape;obtain ⟨_,_,_,_,_,_,h⟩:=h.at i hi;exact h
theorem Rats.sz {l:List Rat} {w:World} {v:Value} {L:Nat} (h:Rats w v l L) (h1:1<=L) (i:Int):Sz (atQ l i) L:=by
 by_cases h0:i<0
 ·rw [atQ_neg l h0]; exact Sz.zero.mono h1
 by_cases h2:(l.length:Int)<=i
 ·rw [atQ_out l h2]; exact Sz.zero.mono h1
 obtain ⟨j,rfl⟩:∃ j:Nat,i=j:=⟨i.toNat,by omega⟩;obtain ⟨ao,c,rfl,_⟩:=h.shape;obtain ⟨_,_,_,_,_,_,_,_,_,_,_,_,_,_,h⟩:=h.at j (by omega);exact h.sz h1
theorem box3 (w:World) (oa ob oc:Obj):blk (((w.alloc oa).alloc ob).alloc oc) w.heap.size=some oa/\blk (((w.alloc oa).alloc ob).alloc oc) (w.heap.size+1)=some ob/\blk (((w.alloc oa).alloc ob).alloc oc) (w.heap.size+1+1)=some oc/\XF w (((w.alloc oa).alloc ob).alloc oc):=by
 refine ⟨?_,?_,?_,(((Ext.refl _ w).alloc _).alloc _).alloc _⟩
 ·rw [blk_alloc_past _ _ _ (by simp; omega),blk_alloc_past _ _ _ (by simp),blk_alloc_at]
 ·rw [blk_alloc_past _ _ _ (by simp)];have:=blk_alloc_at (w.alloc oa) ob;rwa [World.size_alloc] at this
 ·have:=blk_alloc_at ((w.alloc oa).alloc ob) oc;rwa [World.size_alloc,World.size_alloc] at this
theorem boxR_of {W:World} {k:Nat} {neg:Bool} {ao ao':Option Addr} {n c n' c':Nat} (h:blk W k=some (.cells #[.bool neg,.slice ao n c,.slice ao' n' c'] 64 (0,0))):BoxR W k neg (.slice ao n c) (.slice ao' n' c'):=⟨h,no_int ao n c,no_int ao' n' c'⟩
theorem rat_put {w w1:World} {r:Nat} {neg n0:Bool} {a1 a2:Option Addr} {m1 c1 m2 c2:Nat} {q:Rat} {x0 y0:Value} (hb:BoxR w1 r n0 x0 y0) (hr:w.heap.size<=r) (hx:XF w w1)
  (h:IsRat w1 (.agg #[.bool neg,.slice a1 m1 c1,.slice a2 m2 c2]) q) :
  BoxR (((w1.setCell ⟨r,0,none⟩ (.bool neg)).setCell ⟨r,1,none⟩ (.slice a1 m1 c1)).setCell ⟨r,2,none⟩ (.slice a2 m2 c2)) r neg (.slice a1 m1 c1) (.slice a2 m2 c2) /\
   RatPost w q (.returned (.agg #[.bool neg,.slice a1 m1 c1,.slice a2 m2 c2])) (((w1.setCell ⟨r,0,none⟩ (.bool neg)).setCell ⟨r,1,none⟩ (.slice a1 m1 c1)).setCell ⟨r,2,none⟩ (.slice a2 m2 c2)) :=
 have hp:=hb.put (neg:=neg) (no_int a1 m1 c1) (no_int a2 m2 c2)
 ⟨hp.box,_,rfl,hp.rat h,hx.own hp.ext (fun k e=>by omega)⟩
theorem Dot_any (w:World) (tv xv:Value) (ts:List TermV) (l:List Rat) (L:Nat) (hv:Tms w tv ts) (hl:Rats w xv l L) (h1:1<=L) (hL:1+ts.length*(L+3)+(L+3)<=4000000) :
  Calls Tryz.prog 84 #[tv,xv] w (RatPost w (dotQ ts l)):=by
 obtain ⟨vo,vc,rfl,-,hn,-⟩:=hv.shape;obtain ⟨xo,xc,rfl,-,hxn,-⟩:=hl.shape;obtain ⟨b0,b1,b2,hx⟩:=box3 w (.cells #[.slice vo ts.length vc] 33) (.cells #[.slice xo l.length xc] 26) (.cells #[.bool false,.slice none 0 0,.slice none 0 0] 64);have hs:=lsum_any (((w.alloc (.cells #[.slice vo ts.length vc] 33)).alloc (.cells #[.slice xo l.length xc] 26)).alloc (.cells #[.bool false,.slice none 0 0,.slice none 0 0] 64)) ts.length 139 #[.pointer (some ⟨w.heap.size,0,none⟩),.pointer (some ⟨w.heap.size+1,0,none⟩)] (fun i=>(ts.getD i term0).coef) (fun i=>atQ l (ts.getD i term0).var) L h1 hL
  (fun i hi=>(hv.ok i hi).coef) (fun i _=>hl.sz h1 _) (enters_of Tryz.func139 (by kernel_rfl) rfl)
  (fun W hW i hi=>dot1_any W w.heap.size (w.heap.size+1) _ _ ts l L (blk_keep b0 hW) (blk_keep b1 hW) (hv.keep (hx.trans hW)) (hl.keep (hx.trans hW)) i hi)
 have HS:=bH hs;have HB:=bH (bI (boxR_of b2) hx);clear hv hl hs b0 b1 b2 hx;obtain ⟨q,hq⟩:∃ q,dotQ ts l=q:=⟨_,rfl⟩;unfold dotQ at hq;rw [hq] at HS;unfold dotQ;rw [hq];clear hq;generalize l.length=xn at *;generalize ts.length=n at *;go_enter Tryz.func84,Tryz.ntmps84;go_wp2_with fail;refine HS.o.mono ?_;rintro r1 w2 ⟨v2,rfl,h2,hx2⟩;obtain ⟨ng,sa,sn,sc,ta,tn,tc,rfl⟩:=h2.shape;have hr3:=HB.o.1.ext hx2 id;obtain ⟨d0,d1,d2,d3,d4,d5⟩:=hr3.facts;have HP:=bH (rat_put (w:=w) hr3 (by omega) (HB.o.2.trans hx2) h2);clear h2 hr3 hx2;go_wp2;generalize ((w2.setCell ⟨w.heap.size+1+1,0,none⟩ (.bool ng)).setCell ⟨w.heap.size+1+1,1,none⟩ (.slice sa sn sc)).setCell ⟨w.heap.size+1+1,2,none⟩ (.slice ta tn tc)=w9 at *;obtain ⟨g0,g1,g2,_⟩:=HP.o.1.facts;exact bodyPost_ret (v:=.agg #[.bool ng,.slice sa sn sc,.slice ta tn tc]) (by simp [results,Tryz.results84,go_sem,g0,g1,g2]) rfl HP.o.2
def BoolPost (w:World) (b:Bool) (r:Ending) (w':World):Prop:=r=.returned (.bool b)/\XF w w'
theorem rnum_neg (q:Rat):q.num<0↔q<0:=by
 have:=@Rat.num_nonneg q;constructor
 ·intro h; exact Rat.not_le.1 (fun h2=>by have:=this.2 h2; omega)
 ·intro h; exact Int.not_le.1 (fun h2=>by have:=this.1 h2; grind)
theorem sign_lt (q:Rat):q.num.sign<0↔q<0:=by
 rw [Int.sign_neg_iff];exact rnum_neg q
theorem sign_gt (q:Rat):0<q.num.sign↔0<q:=by
 rw [Int.sign_pos_iff];have h:=rnum_neg (-q);rw [Rat.neg_num] at h;constructor
 ·intro h1; have:=h.1 (by omega); grind
 ·intro h1; have:=h.2 (by grind); omega
theorem allTo_next {f:Nat->Bool} {i:Nat} (h:allTo i f=true) (hf:f i=true):allTo (i+1) f=true:=by
 show (allTo i f && f i)=true;rw [h,hf]; rfl
theorem Signed_any (w:World) (pv yv:Value) (p:ProgV) (y:List Rat) (L:Nat) (hp:IsPrg w pv p) (hy:Rats w yv y L) (h1:1<=L) (hL:L<=268435455) :
  Calls Tryz.prog 110 #[pv,yv] w (BoolPost w (signedB p y)):=by
 obtain ⟨vv,rv,rfl,-,hr⟩:=hp;obtain ⟨ro,rc,rfl,-,hn,-⟩:=hr.shape;obtain ⟨yo,yc,rfl,-,hyn,-⟩:=hy.shape;have HV:=bH (bI hr hy);obtain ⟨n,hn'⟩:∃ n,p.rows.length=n:=⟨_,rfl⟩;have HN:=bH hn';have HA:=bH (fun W (hW:XF w W) (i:Nat)=>lat_any W _ y L (hy.keep hW) i);have HG:=bH (fun W u q (hu:Rrat W u q L)=>rsign_any W u q L hu hL);clear hr hy;rw [hn'] at hn ⊢ HV;clear hn';generalize y.length=yn at *;go_enter Tryz.func110,Tryz.ntmps110;go_wp2_with fail;go_loopg [11] n (fun gg v11 wr=>∃ i:Nat,i<=n/\gg=n - i/\v11=.int .i64 i/\allTo i (fun i=>signB (p.r i).kind (atQ y i))=true/\XF w wr);case atStart=>exact ⟨0,Nat.zero_le _,rfl,rfl,rfl,(Ext.refl _ _).alloc _⟩
 case round =>
  obtain ⟨i,hi,rfl,rfl,hall,hx⟩:=hrel;have HX:=bH (bI hall hx);clear hall hx;by_cases hin:i<n
  ·have i0:(i:Int)<(n:Int):=(by omega);have hrow:=(HV.o.1.keep HX.o.2);obtain ⟨b,off,ta,tc,rfl,hlt,e0,e1,e2,e3,e4,-,-⟩:=hrow.atp i (by rw [HN.o]; exact hin);clear hrow;have HA1:=bH (fun W (hW:XF wr W)=>HA.o W (HX.o.2.trans hW) i);generalize (p.r i).terms.length=tn at *;obtain ⟨k,hk⟩:∃ k,(p.r i).kind=k:=⟨_,rfl⟩;rw [hk] at e2;have HK:=bH hk;clear hk;have hx1:=(Ext.refl (fun _=>False) wr).alloc (.cells #[.string (p.r i).name,.int .i64 (p.r i).group,.int .i64 k,.slice ta tn tc,.int .i64 (p.r i).bound] 35);have hb1:=blk_alloc_at wr (.cells #[.string (p.r i).name,.int .i64 (p.r i).group,.int .i64 k,.slice ta tn tc,.int .i64 (p.r i).bound] 35);have HB:=bH (bI hb1 hx1);clear hb1 hx1;go_upto_region 4 with fail;obtain ⟨rb,hrb⟩:∃ rb,wr.heap.size=rb:=⟨_,rfl⟩;rw [hrb] at HB ⊢;generalize wr.alloc (.cells #[.string (p.r i).name,.int .i64 (p.r i).group,.int .i64 k,.slice ta tn tc,.int .i64 (p.r i).bound] 35)=w1 at *;go_wp2_with fail;refine (HA1.o w1 HB.o.2).mono ?_;rintro r2 w2 ⟨v2,rfl,h2,hx2⟩;have HG2:=bH (HG.o w2 v2 _ h2);have HX2:=bH hx2;clear h2 hx2 HA1 e0 e1 e2 e3 e4;go_wp2_with fail;refine HG2.o.mono ?_;rintro r3 w3 ⟨rfl,hx3⟩;have hx13:=HX2.o.trans hx3;have e2:=cell_keep (cellq HB.o.1 2 rfl) hx13;have hs1:=sign_lt (atQ y i);have hs2:=sign_gt (atQ y i);have HS:=bH (bI hs1 hs2);have HX3:=bH ((HX.o.2.trans HB.o.2).trans hx13);have hres:signB (p.r i).kind (atQ y i)=!(decide (k=1) && decide ((atQ y i).num.sign<0) || decide (k=0) && decide (0<(atQ y i).num.sign)):=by
    unfold signB; rw [HK.o]; congr 2 <;> congr 1 <;> exact decide_eq_decide.2 (by first | exact hs1.symm | exact hs2.symm)
   have HR:=bH hres;clear hx3 hx13 HX2 HG2 HB hs1 hs2 hres HS HK;generalize (atQ y i).num.sign=sg at *;have hcase:(k=1/\sg<0)∨(k=0/\0<sg)∨(k=1/\¬ sg<0)∨(k=0/\¬ 0<sg)∨(¬ k=1/\¬ k=0):=(by omega);rcases hcase with ⟨rfl,hs⟩ | ⟨rfl,hs⟩ | ⟨rfl,hs⟩ | ⟨rfl,hs⟩ | ⟨hk1,hk0⟩
   ·go_wp2;go_ret;exact ⟨ret_bool (allTo_false (i:=i) (by rw [HN.o]; exact hin) (by rw [HR.o]; simp [hs])).symm,HX3.o⟩
   ·go_wp2;go_ret;exact ⟨ret_bool (allTo_false (i:=i) (by rw [HN.o]; exact hin) (by rw [HR.o]; simp [hs])).symm,HX3.o⟩
   ·go_wp2;go_roundg (n - (i+1));case measure=>omega
    case rel=>exact ⟨i+1,by omega,rfl,by go_num,allTo_next HX.o.1 (by rw [HR.o]; simp [hs]),HX3.o⟩
   ·go_wp2;go_roundg (n - (i+1));case measure=>omega
    case rel=>exact ⟨i+1,by omega,rfl,by go_num,allTo_next HX.o.1 (by rw [HR.o]; simp [hs]),HX3.o⟩
   ·have k1:(k == 1)=false:=(by simpa using hk1);have k0:(k == 0)=false:=(by simpa using hk0);go_wp2;go_roundg (n - (i+1));case measure=>omega
    case rel=>exact ⟨i+1,by omega,rfl,by go_num,allTo_next HX.o.1 (by rw [HR.o]; simp [hk1,hk0]),HX3.o⟩
  ·obtain rfl:i=n:=(by omega);go_wp2;go_ret;exact ⟨ret_bool (by unfold signedB; rw [HN.o]; exact HX.o.1.symm),HX.o.2⟩
theorem binB_neg {p:ProgV} {v:Int} (h:v<0):binB p v=false:=by
 unfold binB; rw [decide_eq_false (by omega)]; rfl
theorem binB_out {p:ProgV} {v:Int} (h:(p.vars.length:Int)<=v):binB p v=false:=by
 unfold binB; rw [decide_eq_false (show ¬ v<p.vars.length by omega),Bool.false_and,Bool.and_false]
theorem binB_at {p:ProgV} {j:Nat} (h:j<p.vars.length):binB p j=((p.v j).ig && (!(p.v j).op && (decide ((p.v j).lo=0) && decide ((p.v j).up=1)))):=by
 unfold binB; rw [decide_eq_true (show (0:Int)<=(j:Int) by omega),decide_eq_true (show (j:Int)<p.vars.length by omega),Bool.true_and,Bool.true_and]; rfl
theorem bin_any (w:World) (pv:Value) (p:ProgV) (hp:IsPrg w pv p) (v:Int):Calls Tryz.prog 70 #[pv,.int .i64 v] w (BoolPost w (binB p v)):=by
 obtain ⟨vv,rv,rfl,hv,hr⟩:=hp;obtain ⟨vo,vc,rfl,-,hn,-⟩:=hv.shape;obtain ⟨ro,rc,rfl,-,-,-⟩:=hr.shape;have HX:=bH ((Ext.refl (fun _=>False) w).alloc (.cells #[.slice vo p.vars.length vc,.slice ro p.rows.length rc] 25));have HV:=bH (hv.keep HX.o);clear hv hr;by_cases h0:v<0
 ·have HE:=bH (binB_neg (p:=p) h0);have g0:¬ 0<=v:=(by omega);generalize p.vars.length=n at *;generalize p.rows.length=m at *;go_enter Tryz.func70,Tryz.ntmps70;go_wp2;go_ret;exact ⟨ret_bool (HE.o.symm),HX.o⟩
 by_cases h1:(p.vars.length:Int)<=v
 ·have HE:=bH (binB_out (p:=p) h1);have g0:0<=v:=(by omega);have g1:¬ v<(p.vars.length:Int):=(by omega);generalize p.vars.length=n at *;generalize p.rows.length=m at *;go_enter Tryz.func70,Tryz.ntmps70;go_wp2;go_ret;exact ⟨ret_bool (HE.o.symm),HX.o⟩
 obtain ⟨j,rfl⟩:∃ j:Nat,v=j:=⟨v.toNat,by omega⟩;have hj:j<p.vars.length:=by omega
 obtain ⟨b,off,rfl,hlt,e0,e1,e2,e3,-,-⟩:=HV.o.atp j hj;have HB:=bH (binB_at hj);have j0:(0:Int)<=(j:Int):=by omega
 have j1:(j:Int)<(p.vars.length:Int):=by omega
 clear h0 h1 HV hlt;generalize binB p j=B at *;generalize p.vars.length=n at *;generalize p.rows.length=m at *;generalize (p.v j).lo=lo at *;generalize (p.v j).up=up at *;generalize (p.v j).ig=ig at *;generalize (p.v j).op=op at *;cases ig with
 | false =>
  have HE:=bH (show B=false from HB.o);clear HB;go_enter Tryz.func70,Tryz.ntmps70;go_wp2;go_ret;exact ⟨ret_bool (HE.o.symm),HX.o⟩
 | true =>
  cases op with
  | true =>
   have HE:=bH (show B=false from HB.o);clear HB;go_enter Tryz.func70,Tryz.ntmps70;go_wp2;go_ret;exact ⟨ret_bool (HE.o.symm),HX.o⟩
  | false =>
   by_cases h2:lo=0
   ·by_cases h3:up=1
    ·have HE:=bH (show B=true from by rw [HB.o,decide_eq_true h2,decide_eq_true h3]; rfl);subst h2 h3;clear HB;go_enter Tryz.func70,Tryz.ntmps70;go_wp2;go_ret;exact ⟨ret_bool (HE.o.symm),HX.o⟩
    ·have HE:=bH (show B=false from by rw [HB.o,decide_eq_true h2,decide_eq_false h3]; rfl);have h4:(up == 1)=false:=(by simpa using h3);have h5:decide (up=1)=false:=decide_eq_false h3;subst h2;clear HB;go_enter Tryz.func70,Tryz.ntmps70;go_wp2;go_ret;exact ⟨ret_bool (HE.o.symm),HX.o⟩
   ·have HE:=bH (show B=false from by rw [HB.o,decide_eq_false h2]; rfl);have h4:(lo == 0)=false:=(by simpa using h2);have h5:decide (lo=0)=false:=decide_eq_false h2;clear HB;go_enter Tryz.func70,Tryz.ntmps70;go_wp2;go_ret;exact ⟨ret_bool (HE.o.symm),HX.o⟩
theorem Bin_any (w:World) (pv:Value) (p:ProgV) (hp:IsPrg w pv p) (v:Int):Calls Tryz.prog 80 #[pv,.int .i64 v] w (BoolPost w (binB p v)):=by
 obtain ⟨vv,rv,rfl,hv,hr⟩:=hp;obtain ⟨vo,vc,rfl,-,hn,-⟩:=hv.shape;obtain ⟨ro,rc,rfl,-,-,-⟩:=hr.shape;have HX:=bH ((Ext.refl (fun _=>False) w).alloc (.cells #[.slice vo p.vars.length vc,.slice ro p.rows.length rc] 25));have HV:=bH (hv.keep HX.o);clear hv hr;by_cases h0:v<0
 ·have HE:=bH (binB_neg (p:=p) h0);have g0:¬ 0<=v:=(by omega);generalize p.vars.length=n at *;generalize p.rows.length=m at *;go_enter Tryz.func80,Tryz.ntmps80;go_wp2;go_ret;exact ⟨ret_bool (HE.o.symm),HX.o⟩
 by_cases h1:(p.vars.length:Int)<=v
 ·have HE:=bH (binB_out (p:=p) h1);have g0:0<=v:=(by omega);have g1:¬ v<(p.vars.length:Int):=(by omega);generalize p.vars.length=n at *;generalize p.rows.length=m at *;go_enter Tryz.func80,Tryz.ntmps80;go_wp2;go_ret;exact ⟨ret_bool (HE.o.symm),HX.o⟩
 obtain ⟨j,rfl⟩:∃ j:Nat,v=j:=⟨v.toNat,by omega⟩;have hj:j<p.vars.length:=by omega
 obtain ⟨b,off,rfl,hlt,e0,e1,e2,e3,-,-⟩:=HV.o.atp j hj;have HB:=bH (binB_at hj);have j0:(0:Int)<=(j:Int):=by omega
 have j1:(j:Int)<(p.vars.length:Int):=by omega
 clear h0 h1 HV hlt;generalize binB p j=B at *;generalize p.vars.length=n at *;generalize p.rows.length=m at *;generalize (p.v j).lo=lo at *;generalize (p.v j).up=up at *;generalize (p.v j).ig=ig at *;generalize (p.v j).op=op at *;cases ig with
 | false =>
  have HE:=bH (show B=false from HB.o);clear HB;go_enter Tryz.func80,Tryz.ntmps80;go_wp2;go_ret;exact ⟨ret_bool (HE.o.symm),HX.o⟩
 | true =>
  cases op with
  | true =>
   have HE:=bH (show B=false from HB.o);clear HB;go_enter Tryz.func80,Tryz.ntmps80;go_wp2;go_ret;exact ⟨ret_bool (HE.o.symm),HX.o⟩
  | false =>
   by_cases h2:lo=0
   ·by_cases h3:up=1
    ·have HE:=bH (show B=true from by rw [HB.o,decide_eq_true h2,decide_eq_true h3]; rfl);subst h2 h3;clear HB;go_enter Tryz.func80,Tryz.ntmps80;go_wp2;go_ret;exact ⟨ret_bool (HE.o.symm),HX.o⟩
    ·have HE:=bH (show B=false from by rw [HB.o,decide_eq_true h2,decide_eq_false h3]; rfl);have h4:(up == 1)=false:=(by simpa using h3);have h5:decide (up=1)=false:=decide_eq_false h3;subst h2;clear HB;go_enter Tryz.func80,Tryz.ntmps80;go_wp2;go_ret;exact ⟨ret_bool (HE.o.symm),HX.o⟩
   ·have HE:=bH (show B=false from by rw [HB.o,decide_eq_false h2]; rfl);have h4:(lo == 0)=false:=(by simpa using h2);have h5:decide (lo=0)=false:=decide_eq_false h2;clear HB;go_enter Tryz.func80,Tryz.ntmps80;go_wp2;go_ret;exact ⟨ret_bool (HE.o.symm),HX.o⟩
theorem cat_any (w:World) (v:Value) (l:List Rat) (L:Nat) (h:Rats w v l L) (i:Int) (hi:0<=i):Calls Tryz.prog 75 #[v,.int .i64 i] w (AtPost w (atQ l i) L):=by
 obtain ⟨ao,c,rfl,_,hn,_⟩:=h.shape;have hb:=boxR_new (W:=w) rfl false none 0 0 none 0 0;have hx:=(Ext.refl (fun _=>False) w).alloc (.cells #[.bool false,.slice none 0 0,.slice none 0 0] 64);have H:=bH (h.keep hx);have HB:=bH (bI hb hx);clear h;go_enter Tryz.func75,Tryz.ntmps75;go_upto_region 1 with fail;clear hb hx;generalize w.alloc (.cells #[.bool false,.slice none 0 0,.slice none 0 0] 64)=w1 at *;obtain ⟨d0,d1,d2,d3,d4,d5⟩:=HB.o.1.facts;have hz:∀ q,q=0->Rrat w1 (.agg #[.bool false,.slice none 0 0,.slice none 0 0]) q L:=fun q hq=>by subst hq; exact Rrat.zero w1 L
 by_cases h1:(l.length:Int)<=i
 ·obtain ⟨hp,ha⟩:=at_put HB.o.1 (Nat.le_refl _) HB.o.2 (hz _ (atQ_out l h1));have HP:=bH (bI hp ha);clear hp ha hz;generalize l.length=n at *;go_wp2;generalize ((w1.setCell ⟨w.heap.size,0,none⟩ (.bool false)).setCell ⟨w.heap.size,1,none⟩ (.slice none 0 0)).setCell ⟨w.heap.size,2,none⟩ (.slice none 0 0)=w9 at *;obtain ⟨g0,g1,g2,_⟩:=HP.o.1.facts;exact bodyPost_ret (v:=.agg #[.bool false,.slice none 0 0,.slice none 0 0]) (by simp [results,Tryz.results75,go_sem,g0,g1,g2]) rfl HP.o.2
 ·obtain ⟨j,rfl⟩:∃ j:Nat,i=j:=⟨i.toNat,by omega⟩;have hj:j<l.length:=(by omega);obtain ⟨b,off,neg,a1,m1,c1,a2,m2,c2,rfl,hlt,e0,e1,e2,hq⟩:=H.o.at j hj;obtain ⟨hp,ha⟩:=at_put HB.o.1 (Nat.le_refl _) HB.o.2 hq;have HP:=bH (bI hp ha);clear hp ha hq hz H;have j0:(0:Int)<=(j:Int):=(by omega);have j1:(j:Int)<(l.length:Int):=(by omega);generalize l.length=n at *;go_wp2;generalize ((w1.setCell ⟨w.heap.size,0,none⟩ (.bool neg)).setCell ⟨w.heap.size,1,none⟩ (.slice a1 m1 c1)).setCell ⟨w.heap.size,2,none⟩ (.slice a2 m2 c2)=w9 at *;obtain ⟨g0,g1,g2,_⟩:=HP.o.1.facts;exact bodyPost_ret (v:=.agg #[.bool neg,.slice a1 m1 c1,.slice a2 m2 c2]) (by simp [results,Tryz.results75,go_sem,g0,g1,g2]) rfl HP.o.2
section
variable {b0 b1 o0 o1:Nat} {x0 x1:Value} {W:World}
end
section
variable {b0 b1 b2 b3 b4 o0 o1 o2 o3 o4:Nat} {x0 x1 x2 x3 x4:Value} {W:World}
end
section
variable {b0 b1 b2 b3 b4 b5 o0 o1 o2 o3 o4 o5:Nat} {x0 x1 x2 x3 x4 x5:Value} {W:World}
end
abbrev S7 (b0 b1 b2 b3 b4 b5 b6 o0 o1 o2 o3 o4 o5 o6:Nat) (x0 x1 x2 x3 x4 x5 x6:Value) (W:World):Prop:=W.cell? ⟨b0,o0,none⟩=some x0/\W.cell? ⟨b1,o1,none⟩=some x1/\W.cell? ⟨b2,o2,none⟩=some x2/\W.cell? ⟨b3,o3,none⟩=some x3/\W.cell? ⟨b4,o4,none⟩=some x4/\W.cell? ⟨b5,o5,none⟩=some x5/\W.cell? ⟨b6,o6,none⟩=some x6
section
variable {b0 b1 b2 b3 b4 b5 b6 o0 o1 o2 o3 o4 o5 o6:Nat} {x0 x1 x2 x3 x4 x5 x6:Value} {W:World}
theorem S7.drew (h:S7 b0 b1 b2 b3 b4 b5 b6 o0 o1 o2 o3 o4 o5 o6 x0 x1 x2 x3 x4 x5 x6 W):S7 b0 b1 b2 b3 b4 b5 b6 o0 o1 o2 o3 o4 o5 o6 x0 x1 x2 x3 x4 x5 x6 W.drew:=h
theorem S7.keep {W':World} (h:S7 b0 b1 b2 b3 b4 b5 b6 o0 o1 o2 o3 o4 o5 o6 x0 x1 x2 x3 x4 x5 x6 W) (hx:XF W W'):S7 b0 b1 b2 b3 b4 b5 b6 o0 o1 o2 o3 o4 o5 o6 x0 x1 x2 x3 x4 x5 x6 W':=⟨cell_keep h.1 hx,cell_keep h.2.1 hx,cell_keep h.2.2.1 hx,cell_keep h.2.2.2.1 hx,cell_keep h.2.2.2.2.1 hx,cell_keep h.2.2.2.2.2.1 hx,cell_keep h.2.2.2.2.2.2 hx⟩
end
section
variable {b0 b1 b2 b3 b4 b5 b6 b7 o0 o1 o2 o3 o4 o5 o6 o7:Nat} {x0 x1 x2 x3 x4 x5 x6 x7:Value} {W:World}
end
def BoxV (W:World) (b:Nat) (v:VarV):Prop:=blk W b=some (.cells (cV v).toArray 73 (0,0))
theorem BoxV.facts {W:World} {b:Nat} {v:VarV} (h:BoxV W b v):W.cell? ⟨b,0,none⟩=some (.int .i64 v.lo)/\W.cell? ⟨b,1,none⟩=some (.int .i64 v.up)/\W.cell? ⟨b,2,none⟩=some (.bool v.op)/\W.cell? ⟨b,3,none⟩=some (.bool v.ig)/\W.cell? ⟨b,4,none⟩=some (.int .i64 v.co):=⟨cellq h 0 rfl,cellq h 1 rfl,cellq h 2 rfl,cellq h 3 rfl,cellq h 4 rfl⟩
theorem BoxV.keep {W W':World} {b:Nat} {v:VarV} (h:BoxV W b v) (hx:XF W W'):BoxV W' b v:=blk_keep h hx
theorem BoxV.new (W:World) (v:VarV):BoxV (W.alloc (.cells #[.int .i64 v.lo,.int .i64 v.up,.bool v.op,.bool v.ig,.int .i64 v.co] 73)) W.heap.size v:=blk_alloc_at _ _
theorem BoxR.keep {W W':World} {b:Nat} {neg:Bool} {m d:Value} (h:BoxR W b neg m d) (hx:XF W W'):BoxR W' b neg m d:=h.ext hx id
section
variable {P:Program} {md:Region.Mode} {l:List Oper} {Q:Exit->Act->World->Prop} {S:World->Prop}
theorem held_take (i:Nat) {oi:Oper} {v:Value} {fuel:Nat} {listed:Array Bool} {a:Act} {w:World} (hi:l[i]?=some oi) (hs:Region.noSelect l.toArray=true) (hf:Region.free md l.toArray listed i=true)
  (hr:(Region.ready md l.toArray listed).contains i=true) (hQ:∀ c a w,Q (.panic c) (a.put oi.dst v) w->Q (.panic c) a w) (hw:Region.wanted oi (yielded l.toArray a.tmps)=true)
  (he:∀ w,S w->(execOp a.eval oi).run P w=.ok (.value v) w) (hS:S w) (h:wpAnyH P md l.toArray Q S fuel (listed.setIfInBounds i true) (a.put oi.dst v) w):wpAnyH P md l.toArray Q S (fuel+1) listed a w :=
 wpAnyH_take (by simpa using hi) hs hf hr hQ (.inl ⟨hw,he⟩) hS h
theorem held_skip (i:Nat) {oi:Oper} {fuel:Nat} {listed:Array Bool} {a:Act} {w:World} (hi:l[i]?=some oi) (hs:Region.noSelect l.toArray=true) (hf:Region.free md l.toArray listed i=true)
  (hr:(Region.ready md l.toArray listed).contains i=true) (hQ:∀ c a w,Q (.panic c) (a.put oi.dst undef) w->Q (.panic c) a w) (hw:Region.wanted oi (yielded l.toArray a.tmps)=false)
  (hS:S w) (h:wpAnyH P md l.toArray Q S fuel (listed.setIfInBounds i true) (a.put oi.dst undef) w):wpAnyH P md l.toArray Q S (fuel+1) listed a w :=
 wpAnyH_take (by simpa using hi) hs hf hr hQ (.inr ⟨hw,rfl⟩) hS h
theorem held_step (i:Nat) {oi:Oper} {fuel:Nat} {listed:Array Bool} {a:Act} {w:World} (hi:l[i]?=some oi) (hr:Region.ready md l.toArray listed=[i])
  (h:∀ K':Act->World->Prop,Shut (∀ a w,S w->(S w->wpAnyH P md l.toArray Q S fuel (listed.setIfInBounds i true) a w)->K' a w)->if Region.wanted oi (yielded l.toArray a.tmps)=true then Oper.wp P oi a w K' Q else K' (a.put oi.dst undef) w) :
  wpAnyH P md l.toArray Q S (fuel+1) listed a w :=
 wpAnyH_ready hr (by simp) (AllReadyH.cons (by simpa using hi) h AllReadyH.nil)
end
theorem least1_any (w:World) (pb xb:Nat) (vv rv xv:Value) (p:ProgV) (l:List Rat) (L:Nat) (hp:blk w pb=some (.cells #[vv,rv] 25 (0,0))) (hxb:blk w xb=some (.cells #[xv] 26 (0,0))) (hv:Vrs w vv p.vars) (hl:Rats w xv l L) (hL:L<=268435455) (i:Nat) (hi:i<p.vars.length) :
  Calls Tryz.prog 187 #[.int .i64 i,.pointer (some ⟨xb,0,none⟩),.pointer (some ⟨pb,0,none⟩)] w (TermPost w (pickQ (p.v i) (atQ l i)) (atQ l i) L):=by
 obtain ⟨vo,vc,rfl,-,hn,-⟩:=hv.shape;obtain ⟨xo,xc,rfl,-,hxn,-⟩:=hl.shape;have HA:=bH (fun W (hW:XF w W)=>lat_any W _ l L (hl.keep hW) i);obtain ⟨b,off,rfl,hlt,e0,e1,-,-,-,-⟩:=hv.atp i hi;have hx:=(Ext.refl (fun _=>False) w).alloc (.cells #[.bool false,.slice none 0 0,.slice none 0 0] 64);have hS:S4 pb xb b b 0 0 (off+i*5) (off+i*5+1) (.slice (some ⟨b,off,none⟩) p.vars.length vc) (.slice xo l.length xc) (.int .i64 (p.v i).lo) (.int .i64 (p.v i).up) (w.alloc (.cells #[.bool false,.slice none 0 0,.slice none 0 0] 64)):=S4.keep ⟨cellq hp 0 rfl,cellq hxb 0 rfl,e0,e1⟩ hx;have hb:=boxR_new (W:=w) rfl false none 0 0 none 0 0;have HB:=bH (bI hb (bI hx hS));have n0:=blk_lt hp;have n1:=blk_lt hxb;have j0:(0:Int)<=(i:Int):=by omega
 have j1:(i:Int)<(p.vars.length:Int):=by omega
 clear hv hl hp hxb e0 e1 hi;go_enter Tryz.func187,Tryz.ntmps187;go_upto_region 1 with fail;obtain ⟨x0,x1,-,-⟩:=hS;clear hb hx;obtain ⟨r,hr⟩:∃ r,w.heap.size=r:=⟨_,rfl⟩;rw [hr] at HB n0 n1 hlt ⊢;generalize w.alloc (.cells #[.bool false,.slice none 0 0,.slice none 0 0] 64)=w1 at *;go_wp2_with fail;refine (HA.o _ HB.o.2.1).mono ?_;rintro r2 w2 ⟨v2,rfl,h2,hx2⟩;have HG:=bH (rsign_any w2 v2 _ L h2 hL);have HX2:=bH hx2;clear h2 hx2;go_wp2_with fail;refine HG.o.mono ?_;rintro r3 w3 ⟨rfl,hx3⟩;have hx13:=HX2.o.trans hx3;have hS:=HB.o.2.2.keep hx13;have HB3:=bH (bI (HB.o.1.ext hx13 id) (HB.o.2.1.trans hx13));have hsg:=sign_lt (atQ l i);clear hx3 hx13 HX2 HG HB x0 x1;have hcase:((atQ l i).num.sign<0/\pickQ (p.v i) (atQ l i)=(p.v i).up)∨(¬ (atQ l i).num.sign<0/\pickQ (p.v i) (atQ l i)=(p.v i).lo):=by
  by_cases h:atQ l i<0
  ·exact .inl ⟨hsg.2 h,if_pos h⟩
  ·exact .inr ⟨fun h2=>h (hsg.1 h2),if_neg h⟩
 generalize pickQ (p.v i) (atQ l i)=pk at *;generalize p.vars.length=n at *;generalize l.length=xn at *;generalize (atQ l i).num.sign=sg at *;clear hsg;rcases hcase with ⟨hc,rfl⟩ | ⟨hc,rfl⟩
 ·replace hS:S3 pb xb b 0 0 (off+i*5+1) (.slice (some ⟨b,off,none⟩) n vc) (.slice xo xn xc) (.int .i64 (p.v i).up) w3:=⟨hS.1,hS.2.1,hS.2.2.2⟩;generalize (p.v i).up=k at *;go_upto_region 2 with fail;(go_region_held3 (S3 pb xb b 0 0 (off+i*5+1) (.slice (some ⟨b,off,none⟩) n vc) (.slice xo xn xc) (.int .i64 k))
   (repeat (first | (with_reducible assumption) | (with_reducible refine S3.drew ?_) | (with_reducible refine S3.set ?_ _ _ ?_ ?_ ?_) | (dsimp only; omega)))
   ((go_at_call 140; (with_reducible refine (HA.o _ HB3.o.2.drew).mono ?_); rintro q1 w11 ⟨v11,rfl,h11,hx11⟩; have hX1:=(Ext.refl (fun _=>False) w3).drew.trans hx11; have hK1:=hS.keep hX1; have hr3:=HB3.o.1.ext hX1 id; obtain ⟨d0,d1,d2,d3,d4,d5⟩:=hr3.facts; obtain ⟨ng,sa,sn,sc,ta,tn,tc,rfl⟩:=h11.shape)))
  obtain ⟨hp,ha⟩:=term_put (w:=w) (k:=k) hr3 (Nat.le_of_eq hr) (HB3.o.2.trans hX1) h11;have HP:=bH (bI hp ha);clear hp ha h11 hx11 hX1 hK1 hr3 d0 d1 d2 d3 d4 d5 hS HB3;go_wp2;generalize ((w11.setCell ⟨r,0,none⟩ (.bool ng)).setCell ⟨r,1,none⟩ (.slice sa sn sc)).setCell ⟨r,2,none⟩ (.slice ta tn tc)=w9 at *;obtain ⟨g0,g1,g2,_⟩:=HP.o.1.facts;exact bodyPost_ret (v:=.tuple #[.int .i64 k,.agg #[.bool ng,.slice sa sn sc,.slice ta tn tc]]) (by simp [results,Tryz.results187,go_sem,g0,g1,g2]) rfl HP.o.2
 ·replace hS:S3 pb xb b 0 0 (off+i*5) (.slice (some ⟨b,off,none⟩) n vc) (.slice xo xn xc) (.int .i64 (p.v i).lo) w3:=⟨hS.1,hS.2.1,hS.2.2.1⟩;generalize (p.v i).lo=k at *;go_upto_region 3 with fail;(go_region_held3 (S3 pb xb b 0 0 (off+i*5) (.slice (some ⟨b,off,none⟩) n vc) (.slice xo xn xc) (.int .i64 k))
   (repeat (first | (with_reducible assumption) | (with_reducible refine S3.drew ?_) | (with_reducible refine S3.set ?_ _ _ ?_ ?_ ?_) | (dsimp only; omega)))
   ((go_at_call 140; (with_reducible refine (HA.o _ HB3.o.2.drew).mono ?_); rintro q1 w11 ⟨v11,rfl,h11,hx11⟩; have hX1:=(Ext.refl (fun _=>False) w3).drew.trans hx11; have hK1:=hS.keep hX1; have hr3:=HB3.o.1.ext hX1 id; obtain ⟨d0,d1,d2,d3,d4,d5⟩:=hr3.facts; obtain ⟨ng,sa,sn,sc,ta,tn,tc,rfl⟩:=h11.shape)))
  obtain ⟨hp,ha⟩:=term_put (w:=w) (k:=k) hr3 (Nat.le_of_eq hr) (HB3.o.2.trans hX1) h11;have HP:=bH (bI hp ha);clear hp ha h11 hx11 hX1 hK1 hr3 d0 d1 d2 d3 d4 d5 hS HB3;go_wp2;generalize ((w11.setCell ⟨r,0,none⟩ (.bool ng)).setCell ⟨r,1,none⟩ (.slice sa sn sc)).setCell ⟨r,2,none⟩ (.slice ta tn tc)=w9 at *;obtain ⟨g0,g1,g2,_⟩:=HP.o.1.facts;exact bodyPost_ret (v:=.tuple #[.int .i64 k,.agg #[.bool ng,.slice sa sn sc,.slice ta tn tc]]) (by simp [results,Tryz.results187,go_sem,g0,g1,g2]) rfl HP.o.2
def leaB (p:ProgV) (c:List Rat) (i:Nat):Bool:=((p.v i).op || decide ((p.v i).lo<=(p.v i).up)) && !((p.v i).op && decide (atQ c i<0))
theorem allTo_and (f g:Nat->Bool):∀ n,allTo n (fun i=>f i && g i)=(allTo n f && allTo n g)
 | 0=>rfl
 | n+1=>by
  show (allTo n (fun i=>f i && g i) && (f n && g n))=((allTo n f && f n) && (allTo n g && g n));rw [allTo_and f g n];cases allTo n f <;> cases allTo n g <;> cases f n <;> cases g n <;> rfl
theorem leastQ_eq (p:ProgV) (c:List Rat):leastQ p c=if allTo p.vars.length (leaB p c) then some (leastS p c) else none:=by
 unfold leastQ emptyB lowB leaB;rw [allTo_and];generalize allTo p.vars.length (fun i=>(p.v i).op || decide ((p.v i).lo<=(p.v i).up))=a;generalize (allTo p.vars.length fun i=>!((p.v i).op && decide (atQ c i<0)))=b;cases a <;> cases b <;> rfl
def OptPost (w:World) (q:Option Rat) (r:Ending) (w':World):Prop:=XF w w'/\match q with
 | none=>∃ v,r=.returned (.tuple #[v,.bool false])/\IsRat w' v 0
 | some q=>∃ v,r=.returned (.tuple #[v,.bool true])/\IsRat w' v q
theorem pick_in {p:ProgV} {w:World} {v:Value} (h:Vrs w v p.vars) (c:List Rat) (i:Nat) (hi:i<p.vars.length):InR (pickQ (p.v i) (atQ c i)):=by
 unfold pickQ;split
 ·exact (h.ok i hi).up
 ·exact (h.ok i hi).lo
theorem Least_any (w:World) (pv xv:Value) (p:ProgV) (l:List Rat) (L:Nat) (hp:IsPrg w pv p) (hl:Rats w xv l L) (h1:1<=L) (hL:1+p.vars.length*(L+3)+(L+3)<=4000000) :
  Calls Tryz.prog 134 #[pv,xv] w (OptPost w (leastQ p l)):=by
 obtain ⟨vv,rv,rfl,hv,hr⟩:=hp;obtain ⟨vo,vc,rfl,-,hn,-⟩:=hv.shape;obtain ⟨xo,xc,rfl,-,hxn,-⟩:=hl.shape;obtain ⟨b0,b1,b2,hx⟩:=box3 w (.cells #[.slice vo p.vars.length vc,rv] 25) (.cells #[.slice xo l.length xc] 26) (.cells #[.bool false,.slice none 0 0,.slice none 0 0] 64);have HV:=bH (bI hv hl);have HS:=bH (fun W0 (hW0:XF (((w.alloc (.cells #[.slice vo p.vars.length vc,rv] 25)).alloc (.cells #[.slice xo l.length xc] 26)).alloc (.cells #[.bool false,.slice none 0 0,.slice none 0 0] 64)) W0) =>
  lsum_any W0 p.vars.length 187 #[.pointer (some ⟨w.heap.size+1,0,none⟩),.pointer (some ⟨w.heap.size,0,none⟩)] (fun i=>pickQ (p.v i) (atQ l i)) (fun i=>atQ l i) L h1 hL
   (fun i hi=>pick_in hv l i hi) (fun i _=>hl.sz h1 i) (enters_of Tryz.func187 (by kernel_rfl) rfl)
   (fun W hW i hi=>least1_any W w.heap.size (w.heap.size+1) _ rv _ p l L (blk_keep b0 (hW0.trans hW)) (blk_keep b1 (hW0.trans hW)) (hv.keep ((hx.trans hW0).trans hW)) (hl.keep ((hx.trans hW0).trans hW)) (by omega) i hi))
 have HA:=bH (fun W (hW:XF w W) (i:Nat)=>lat_any W _ l L (hl.keep hW) i);have HG:=bH (fun W u q (hu:Rrat W u q L)=>rsign_any W u q L hu (by omega));have HB:=bH (bI b0 (bI b1 (bI (boxR_of b2) hx)));have HQ:=bH (leastQ_eq p l);obtain ⟨qs,hqs⟩:∃ qs,leastS p l=qs:=⟨_,rfl⟩;have hqs':=hqs;unfold leastS at hqs';rw [hqs'] at HS;rw [hqs] at HQ;clear hv hr hl b0 b1 b2 hx hqs hqs';obtain ⟨n,hn'⟩:∃ n,p.vars.length=n:=⟨_,rfl⟩;have HN:=bH hn';rw [hn'] at hn ⊢ HV HB HS HQ;clear hn' hL;generalize l.length=xn at *;go_enter Tryz.func134,Tryz.ntmps134;go_upto_region 1 with fail;generalize (((w.alloc (.cells #[.slice vo n vc,rv] 25)).alloc (.cells #[.slice xo xn xc] 26)).alloc (.cells #[.bool false,.slice none 0 0,.slice none 0 0] 64))=w1 at *;obtain ⟨pb,hpb⟩:∃ pb,w.heap.size=pb:=⟨_,rfl⟩;have hpw:w.heap.size<=pb:=Nat.le_of_eq hpb;rw [hpb] at HB HS ⊢;have z0:=cellq HB.o.1 0 rfl;go_wp2_with fail;go_loopg [11] n (fun gg v11 wr=>∃ i:Nat,i<=n/\gg=n - i/\v11=.int .i64 i/\allTo i (leaB p l)=true/\XF w1 wr);case atStart=>exact ⟨0,Nat.zero_le _,rfl,rfl,rfl,Ext.refl _ _⟩
 case round =>
  clear z0;obtain ⟨i,hi,rfl,rfl,hall,hx⟩:=hrel;have HX:=bH (bI hall hx);clear hall hx;by_cases hin:i<n
  ·have i0:(i:Int)<(n:Int):=(by omega);have hrow:=(HV.o.1.keep (HB.o.2.2.2.trans HX.o.2));obtain ⟨b,off,rfl,hlt,e0,e1,e2,e3,e4,-⟩:=hrow.atp i (by rw [HN.o]; exact hin);clear hrow;have HA1:=bH (fun W (hW:XF wr W)=>HA.o W ((HB.o.2.2.2.trans HX.o.2).trans hW) i);have hb1:=BoxV.new wr (p.v i);have hx1:=(Ext.refl (fun _=>False) wr).alloc (.cells #[.int .i64 (p.v i).lo,.int .i64 (p.v i).up,.bool (p.v i).op,.bool (p.v i).ig,.int .i64 (p.v i).co] 73);have HR:=bH (show leaB p l i=(((p.v i).op || decide ((p.v i).lo<=(p.v i).up)) && !((p.v i).op && decide (atQ l i<0))) from rfl);have HB1:=bH (bI hb1 hx1);clear hb1 hx1;go_upto_region 4 with fail;obtain ⟨rb,hrb⟩:∃ rb,wr.heap.size=rb:=⟨_,rfl⟩;rw [hrb] at HB1 ⊢;generalize wr.alloc (.cells #[.int .i64 (p.v i).lo,.int .i64 (p.v i).up,.bool (p.v i).op,.bool (p.v i).ig,.int .i64 (p.v i).co] 73)=w2 at *;clear e0 e1 e2 e3 e4;obtain ⟨f0,f1,f2,-,-⟩:=HB1.o.1.facts;have a0:=(cellq HB.o.2.1 0 rfl);have a1:=cell_keep (cell_keep a0 HX.o.2) HB1.o.2;clear a0;have hbr:=((HB.o.2.2.1.keep HX.o.2).keep HB1.o.2);obtain ⟨d0,d1,d2,d3,d4,d5⟩:=hbr.facts;have hput:=hbr.put (neg:=false) (no_int none 0 0) (no_int none 0 0);have HPut:=bH hput;clear hput hbr;have hs0:=sign_lt (atQ l i);have HSg:=bH hs0;clear hs0;generalize (p.v i).op=o at *;generalize (p.v i).lo=lo at *;generalize (p.v i).up=up at *;cases o with
   | false =>
    by_cases hlu:up<lo
    ·go_wp2;generalize (((w2.setCell ⟨pb+1+1,0,none⟩ (.bool false)).setCell ⟨pb+1+1,1,none⟩ (.slice none 0 0)).setCell ⟨pb+1+1,2,none⟩ (.slice none 0 0))=w9 at *;obtain ⟨g0,g1,g2,_⟩:=HPut.o.box.facts;refine bodyPost_ret (v:=.tuple #[.agg #[.bool false,.slice none 0 0,.slice none 0 0],.bool false]) (by simp [results,Tryz.results134,go_sem,g0,g1,g2]) rfl ⟨?_,?_⟩
     ·exact (((HB.o.2.2.2.trans HX.o.2).trans HB1.o.2)).own HPut.o.ext (fun k e=>by omega)
     ·rw [HQ.o,if_neg (by rw [allTo_false (f:=leaB p l) hin (by rw [HR.o]; simp; omega)]; simp)];exact ⟨_,rfl,IsRat.zero _⟩
    ·go_wp2;go_roundg (n - (i+1));case measure=>omega
     case rel=>exact ⟨i+1,by omega,rfl,by go_num,allTo_next HX.o.1 (by rw [HR.o]; simp; omega),HX.o.2.trans HB1.o.2⟩
   | true =>
    go_wp2_with fail;refine (HA1.o w2 HB1.o.2).mono ?_;rintro r3 w3 ⟨v3,rfl,h3,hx3⟩;have HG3:=bH (HG.o w3 v3 _ h3);have HX3:=bH hx3;clear h3 hx3 HPut;go_wp2_with fail;refine HG3.o.mono ?_;rintro r4 w4 ⟨rfl,hx4⟩;have hx24:=HX3.o.trans hx4;have hbr:=(((HB.o.2.2.1.keep HX.o.2).keep HB1.o.2)).keep hx24;obtain ⟨d0,d1,d2,d3,d4,d5⟩:=hbr.facts;have hput:=hbr.put (neg:=false) (no_int none 0 0) (no_int none 0 0);have HPut:=bH hput;have HX4:=bH ((HX.o.2.trans HB1.o.2).trans hx24);clear hput hbr hx4 hx24 HX3 HG3;by_cases hs:(atQ l i).num.sign<0
    ·have hq:atQ l i<0:=HSg.o.1 hs;have HQ1:=bH hq;clear hq;generalize (atQ l i).num.sign=sg at *;go_wp2;generalize (((w4.setCell ⟨pb+1+1,0,none⟩ (.bool false)).setCell ⟨pb+1+1,1,none⟩ (.slice none 0 0)).setCell ⟨pb+1+1,2,none⟩ (.slice none 0 0))=w9 at *;obtain ⟨g0,g1,g2,_⟩:=HPut.o.box.facts;refine bodyPost_ret (v:=.tuple #[.agg #[.bool false,.slice none 0 0,.slice none 0 0],.bool false]) (by simp [results,Tryz.results134,go_sem,g0,g1,g2]) rfl ⟨?_,?_⟩
     ·exact (HB.o.2.2.2.trans HX4.o).own HPut.o.ext (fun k e=>by omega)
     ·rw [HQ.o,if_neg (by rw [allTo_false (f:=leaB p l) hin (by rw [HR.o]; simp [HQ1.o])]; simp)];exact ⟨_,rfl,IsRat.zero _⟩
    ·have hq:¬ atQ l i<0:=fun h=>hs (HSg.o.2 h);have HQ1:=bH hq;clear hq;generalize (atQ l i).num.sign=sg at *;go_wp2;go_roundg (n - (i+1));case measure=>omega
     case rel=>exact ⟨i+1,by omega,rfl,by go_num,allTo_next HX.o.1 (by rw [HR.o]; simp [HQ1.o]),HX4.o⟩
  ·obtain rfl:i=n:=(by omega);have a0:=cell_keep (cellq HB.o.1 0 rfl) HX.o.2;go_wp2_with fail;refine (HS.o wr HX.o.2).mono ?_;rintro r2 w2 ⟨v2,rfl,h2,hx2⟩;obtain ⟨ng,sa,sn,sc,ta,tn,tc,rfl⟩:=h2.shape;have hr3:=(HB.o.2.2.1.keep HX.o.2).keep hx2;obtain ⟨d0,d1,d2,d3,d4,d5⟩:=hr3.facts;have hp:=hr3.put (neg:=ng) (no_int sa sn sc) (no_int ta tn tc);have HP:=bH (bI hp (bI (hp.rat h2) ((HB.o.2.2.2.trans (HX.o.2.trans hx2)).own hp.ext (fun k e=>by omega))));clear h2 hr3 hx2 hp;go_wp2;generalize (((w2.setCell ⟨pb+1+1,0,none⟩ (.bool ng)).setCell ⟨pb+1+1,1,none⟩ (.slice sa sn sc)).setCell ⟨pb+1+1,2,none⟩ (.slice ta tn tc))=w9 at *;obtain ⟨g0,g1,g2,_⟩:=HP.o.1.box.facts;refine bodyPost_ret (v:=.tuple #[.agg #[.bool ng,.slice sa sn sc,.slice ta tn tc],.bool true]) (by simp [results,Tryz.results134,go_sem,g0,g1,g2]) rfl ⟨HP.o.2.2,?_⟩;rw [HQ.o,if_pos HX.o.1];exact ⟨_,rfl,HP.o.2.1⟩
structure RArr (w:World) (b n:Nat) (f:Nat->Rat):Prop where
 row:∃ arr,blk w b=some (.cells arr 64 (0,0))/\arr.size=n*3
 cells:∀ i,i<n->∃ neg a1 m1 c1 a2 m2 c2,w.cell? ⟨b,i*3,none⟩=some (.bool neg)/\w.cell? ⟨b,i*3+1,none⟩=some (.slice a1 m1 c1)/\w.cell? ⟨b,i*3+2,none⟩=some (.slice a2 m2 c2)/\IsRat w (.agg #[.bool neg,.slice a1 m1 c1,.slice a2 m2 c2]) (f i)
section
variable {w w':World} {b n:Nat} {f g:Nat->Rat}
theorem RArr.lt (h:RArr w b n f):b<w.heap.size:=by
 obtain ⟨arr,h1,_⟩:=h.row;exact blk_lt h1
theorem RArr.free (h:RArr w b n f) (i:Nat):w.frozen? ⟨b,i,none⟩=false:=by
 obtain ⟨arr,h1,_⟩:=h.row;exact free_of_cells h1 i
theorem RArr.keep (h:RArr w b n f) (hx:XF w w'):RArr w' b n f:=by
 obtain ⟨arr,h1,h2⟩:=h.row;refine ⟨⟨arr,blk_keep h1 hx,h2⟩,fun i hi=>?_⟩;obtain ⟨neg,a1,m1,c1,a2,m2,c2,e0,e1,e2,hq⟩:=h.cells i hi;exact ⟨neg,a1,m1,c1,a2,m2,c2,cell_keep e0 hx,cell_keep e1 hx,cell_keep e2 hx,hq.keep hx⟩
theorem RArr.congr (h:RArr w b n f) (hg:∀ i,i<n->f i=g i):RArr w b n g :=
 ⟨h.row,fun i hi=>by
  obtain ⟨neg,a1,m1,c1,a2,m2,c2,e0,e1,e2,hq⟩:=h.cells i hi;exact ⟨neg,a1,m1,c1,a2,m2,c2,e0,e1,e2,by rw [<- hg i hi]; exact hq⟩⟩
theorem RArr.noDig (h:RArr w b n f):NoDig w b:=fun i d hc=>by
 obtain ⟨arr,h1,h2⟩:=h.row;have hi:i<n*3:=by
  rw [cell_of_cells h1] at hc;have:=(Array.getElem?_eq_some_iff.1 hc).1;omega
 obtain ⟨neg,a1,m1,c1,a2,m2,c2,e0,e1,e2,_⟩:=h.cells (i / 3) (by omega);have h3:i=i / 3*3∨i=i / 3*3+1∨i=i / 3*3+2:=by omega
 rcases h3 with h3 | h3 | h3 <;> rw [h3] at hc
 ·rw [e0] at hc; cases hc
 ·rw [e1] at hc; cases hc
 ·rw [e2] at hc; cases hc
theorem RArr.put (h:RArr w b n f) {j:Nat} (hj:j<n) {neg:Bool} {a1 a2:Option Addr} {m1 c1 m2 c2:Nat} {q:Rat} (hq:IsRat w (.agg #[.bool neg,.slice a1 m1 c1,.slice a2 m2 c2]) q) :
  RArr (((w.setCell ⟨b,j*3,none⟩ (.bool neg)).setCell ⟨b,j*3+1,none⟩ (.slice a1 m1 c1)).setCell ⟨b,j*3+2,none⟩ (.slice a2 m2 c2)) b n (fun k=>if k=j then q else f k) /\
  Ext (fun k=>k=b) w (((w.setCell ⟨b,j*3,none⟩ (.bool neg)).setCell ⟨b,j*3+1,none⟩ (.slice a1 m1 c1)).setCell ⟨b,j*3+2,none⟩ (.slice a2 m2 c2)) /\
  ∀ v l,Rds w v l->Rds (((w.setCell ⟨b,j*3,none⟩ (.bool neg)).setCell ⟨b,j*3+1,none⟩ (.slice a1 m1 c1)).setCell ⟨b,j*3+2,none⟩ (.slice a2 m2 c2)) v l:=by
 have hx:Ext (fun k=>k=b) w (((w.setCell ⟨b,j*3,none⟩ (.bool neg)).setCell ⟨b,j*3+1,none⟩ (.slice a1 m1 c1)).setCell ⟨b,j*3+2,none⟩ (.slice a2 m2 c2)):=(((Ext.refl (fun k=>k=b) w).setCell (p:=⟨b,j*3,none⟩) _ (fun _=>rfl)).setCell (p:=⟨b,j*3+1,none⟩) _ (fun _=>rfl)).setCell (p:=⟨b,j*3+2,none⟩) _ (fun _=>rfl);have hr:∀ v l,Rds w v l->Rds (((w.setCell ⟨b,j*3,none⟩ (.bool neg)).setCell ⟨b,j*3+1,none⟩ (.slice a1 m1 c1)).setCell ⟨b,j*3+2,none⟩ (.slice a2 m2 c2)) v l:=fun v l hv=>hv.past hx (fun k _ e=>by subst e; exact h.noDig);refine ⟨⟨?_,fun i hi=>?_⟩,hx,hr⟩
 ·obtain ⟨arr,h1,h2⟩:=h.row;have k1:=blk_setCell_same h1 (j*3) (.bool neg);have k2:=blk_setCell_same k1 (j*3+1) (.slice a1 m1 c1);have k3:=blk_setCell_same k2 (j*3+2) (.slice a2 m2 c2);exact ⟨_,k3,by simpa using h2⟩
 ·obtain ⟨n0,b1,l1,d1,b2,l2,d2,e0,e1,e2,hf⟩:=h.cells i hi;by_cases hij:i=j
  ·subst hij;rw [if_pos rfl];refine ⟨neg,a1,m1,c1,a2,m2,c2,?_,?_,?_,?_⟩
   ·simp only [cell?_setCell_if];rw [if_neg (by omega),if_neg (by omega),if_pos (by simp),e0]; rfl
   ·simp only [cell?_setCell_if];rw [if_neg (by omega),if_pos (by simp),if_neg (by omega),e1]; rfl
   ·simp only [cell?_setCell_if];rw [if_pos (by simp),if_neg (by omega),if_neg (by omega),e2]; rfl
   ·obtain ⟨mag,dv',g1,g2,g3⟩:=hq;exact ⟨mag,dv',g1,hr _ _ g2,hr _ _ g3⟩
  ·rw [if_neg hij];refine ⟨n0,b1,l1,d1,b2,l2,d2,?_,?_,?_,?_⟩
   ·simp only [cell?_setCell_if];rw [if_neg (by omega),if_neg (by omega),if_neg (by omega),e0]
   ·simp only [cell?_setCell_if];rw [if_neg (by omega),if_neg (by omega),if_neg (by omega),e1]
   ·simp only [cell?_setCell_if];rw [if_neg (by omega),if_neg (by omega),if_neg (by omega),e2]
   ·obtain ⟨mag,dv',g1,g2,g3⟩:=hf;exact ⟨mag,dv',g1,hr _ _ g2,hr _ _ g3⟩
theorem RArr.rats (h:RArr w b n f) {L:Nat} (hs:∀ i,i<n->Sz (f i) L) {c:Nat} (hc:n<=c) (hm:c<=maxLen):Rats w (.slice (some ⟨b,0,none⟩) n c) (listTo n f) L:=by
 have hex:∃ cs:List (List Value),cs.length=n/\∀ i,i<n->∃ neg a1 m1 c1 a2 m2 c2,cs[i]?=some [.bool neg,.slice a1 m1 c1,.slice a2 m2 c2]/\w.cell? ⟨b,i*3,none⟩=some (.bool neg)/\w.cell? ⟨b,i*3+1,none⟩=some (.slice a1 m1 c1)/\w.cell? ⟨b,i*3+2,none⟩=some (.slice a2 m2 c2)/\IsRat w (.agg #[.bool neg,.slice a1 m1 c1,.slice a2 m2 c2]) (f i):=by
  have hg:∀ i:Fin n,∃ r:List Value,∃ neg a1 m1 c1 a2 m2 c2,r=[.bool neg,.slice a1 m1 c1,.slice a2 m2 c2]/\w.cell? ⟨b,i*3,none⟩=some (.bool neg)/\w.cell? ⟨b,i*3+1,none⟩=some (.slice a1 m1 c1)/\w.cell? ⟨b,i*3+2,none⟩=some (.slice a2 m2 c2)/\IsRat w (.agg #[.bool neg,.slice a1 m1 c1,.slice a2 m2 c2]) (f i):=fun i=>by
   obtain ⟨neg,a1,m1,c1,a2,m2,c2,h1⟩:=h.cells i i.2;exact ⟨_,neg,a1,m1,c1,a2,m2,c2,rfl,h1⟩
  refine ⟨List.ofFn fun i:Fin n=>Classical.choose (hg i),by simp,fun i hi=>?_⟩;obtain ⟨neg,a1,m1,c1,a2,m2,c2,h1,h2⟩:=Classical.choose_spec (hg ⟨i,hi⟩);exact ⟨neg,a1,m1,c1,a2,m2,c2,by rw [List.getElem?_ofFn,dif_pos hi,h1],h2⟩
 obtain ⟨cs,hl,hcs⟩:=hex;refine ⟨cs,by rw [hl,listTo_length],⟨some ⟨b,0,none⟩,c,by rw [hl],by omega,hm,(fun e=>by cases e),fun hp=>⟨b,0,rfl,h.lt,fun i r hi j u hu=>?_⟩⟩,fun i c' q hc' hq=>?_⟩
 ·have hin:i<n:=(by rw [<- hl]; exact (List.getElem?_eq_some_iff.1 hi).1);obtain ⟨neg,a1,m1,c1,a2,m2,c2,h1,e0,e1,e2,_⟩:=hcs i hin;rw [h1] at hi; cases hi;rw [Nat.zero_add];match j,hu with
  | 0,hu=>cases hu; exact e0
  | 1,hu=>cases hu; exact e1
  | 2,hu=>cases hu; exact e2
  | j+3,hu=>simp at hu
 ·have hin:i<n:=(by rw [<- hl]; exact (List.getElem?_eq_some_iff.1 hc').1);obtain ⟨neg,a1,m1,c1,a2,m2,c2,h1,e0,e1,e2,h3⟩:=hcs i hin;rw [h1] at hc'; cases hc';have:f i=q:=by
   simp [listTo,hin] at hq; exact hq
  rw [<- this];exact h3.reads (hs i hin)
end
theorem Tryz.infoRat:(Tryz.prog.info? 64).map (fun i=>(i.zero,i.size,i.bytes))=some (some (.agg #[.bool false,.slice none 0 0,.slice none 0 0]),3,56):=by kernel_rfl
theorem madeCells_at (z:Array Value) (n i:Nat) (h:i<n):(madeCells z n)[i]?=some z[i % z.size]!:=by
 unfold madeCells;rw [Array.getElem?_map,Array.getElem?_range,if_pos h]; rfl
theorem run_make_rats (w:World) (n:Nat) (hn:n<=1000000):∃ w',(Instr.makeSlice 26 (.int .i64 n) (.int .i64 n)).run Tryz.prog w=.ok (.slice (some ⟨w.heap.size,0,none⟩) n n) w'/\RArr w' w.heap.size n (fun _=>0)/\XF w w':=by
 obtain ⟨i0,hi,hz0,hz1,hz2⟩:=info_parts Tryz.infoRat
 have h:=run_make (P:=Tryz.prog) w 26 64 i0 _ Tryz.underlying26 hi hz0 .i64 .i64 n n (by omega) (Int.le_refl _) (by rw [hz2]; omega) (by omega);rw [Int.toNat_natCast,hz1,show (Value.agg #[.bool false,.slice none 0 0,.slice none 0 0]).cells=#[.bool false,.slice none 0 0,.slice none 0 0] from rfl] at h;refine ⟨_,h,⟨⟨_,blk_alloc_at _ _,by rw [size_madeCells]⟩,fun i hi=>?_⟩,(Ext.refl _ w).alloc _⟩;have hc:=fun k=>cell_of_cells (blk_alloc_at w (.cells (madeCells #[.bool false,.slice none 0 0,.slice none 0 0] (n*3)) 64)) k;refine ⟨false,none,0,0,none,0,0,?_,?_,?_,IsRat.zero _⟩
 ·rw [hc,madeCells_at _ _ _ (by omega),show i*3 % (#[Value.bool false,.slice none 0 0,.slice none 0 0]:Array Value).size=0 from (by show i*3 % 3=0; omega)]; rfl
 ·rw [hc,madeCells_at _ _ _ (by omega),show (i*3+1) % (#[Value.bool false,.slice none 0 0,.slice none 0 0]:Array Value).size=1 from (by show (i*3+1) % 3=1; omega)]; rfl
 ·rw [hc,madeCells_at _ _ _ (by omega),show (i*3+2) % (#[Value.bool false,.slice none 0 0,.slice none 0 0]:Array Value).size=2 from (by show (i*3+2) % 3=2; omega)]; rfl
def RowPost (w:World) (n:Nat) (f:Nat->Rat) (r:Ending) (w':World):Prop:=∃ b,r=.returned (.slice (some ⟨b,0,none⟩) n n)/\w.heap.size<=b/\RArr w' b n f/\XF w w'
section
variable {P:Program} {md:Region.Mode} {ops:Array Oper} {Q:Exit->Act->World->Prop} {S:World->Prop} {k:Nat}
def Ends (P:Program) (md:Region.Mode) (ops:Array Oper) (Q:Exit->Act->World->Prop) (S:World->Prop) (k:Nat):Nat->Array Bool->Act->World->Prop
 | 0,ls,a,w=>Region.ready md ops ls=[]/\Q .normal a w
 | n+1,ls,a,w=>(Region.ready md ops ls=[]->Q .normal a w)/\∀ i ∈ Region.ready md ops ls,wpOp P ops Q i (fun a' w'=>(i≠k->S w')/\Ends P md ops Q S k n (ls.setIfInBounds i true) a' w') a w
theorem Ends.any:∀ (n:Nat) (ls:Array Bool) (a:Act) (w:World),Ends P md ops Q S k n ls a w->wpAny P md ops Q n ls a w
 | 0,_,_,_,h=>h
 | n+1,_,_,_,h=>⟨h.1,fun i hi=>wpOp_mono (fun a w h=>Ends.any n _ a w h.2) (h.2 i hi)⟩
theorem unlisted {i j:Nat} {oj:Oper} {ls:Array Bool} (hr:i ∈ Region.ready md ops ls) (hoj:ops[j]?=some oj) (hj:j ∈ Region.ready md ops ls) (e:Edge) (he:e ∈ oj.after) (hb:Region.binds md e=true):e.on≠i:=fun h=>by
 obtain ⟨_,o,ho,hall⟩:=mem_ready.1 hj;rw [hoj] at ho; cases ho;have h1:=hall e he hb;have h0:=(mem_ready.1 hr).1;rw [h,Array.getD_eq_getD_getElem?] at h1;rw [Array.getD_eq_getD_getElem?] at h0;cases hq:ls[i]? with
 | none=>rw [hq] at h1; simp at h1
 | some x=>rw [hq] at h0 h1; simp at h0 h1; rw [h0] at h1; cases h1
def Apart (md:Region.Mode) (ops:Array Oper) (i:Nat) (oi:Oper) (ls:Array Bool):Prop:=∀ j oj,ops[j]?=some oj->j≠i->ls.getD j true=false->(∀ e ∈ oj.after,Region.binds md e=true->e.on≠i)->oi.apart ops oj=true
theorem Apart.next {i j:Nat} {oi:Oper} {ls:Array Bool} (h:Apart md ops i oi ls) (hj:ls.getD j true=false):Apart md ops i oi (ls.setIfInBounds j true):=fun k ok hk hki hun hno=>by
 refine h k ok hk hki ?_ hno;by_cases e:j=k
 ·rw [<- e]; exact hj
 ·rw [getD_set_ne true e] at hun; exact hun
theorem Ends.take {i:Nat} {oi:Oper} {v:Value} (hi:ops[i]?=some oi) (hsel:∀ (j:Nat) (o:Oper) cs b,ops[j]?=some o->o.op≠.select cs b) (hQ:∀ c a w,Q (.panic c) (a.put oi.dst v) w->Q (.panic c) a w) :
  ∀ (n:Nat) (ls:Array Bool) (a:Act) (w:World),Apart md ops i oi ls->i ∈ Region.ready md ops ls->(∃ ok,ops[k]?=some ok/\∃ e ∈ ok.after,Region.binds md e=true/\e.on=i)->YieldsIf P ops S oi v a->S w->Ends P md ops Q S k n (ls.setIfInBounds i true) (a.put oi.dst v) w->Ends P md ops Q S k (n+1) ls a w:=by
 have first:∀ (n:Nat) (ls:Array Bool) (a:Act) (w:World),i ∈ Region.ready md ops ls->YieldsIf P ops S oi v a->S w->Ends P md ops Q S k n (ls.setIfInBounds i true) (a.put oi.dst v) w->wpOp P ops Q i (fun a' w'=>(i≠k->S w')/\Ends P md ops Q S k n (ls.setIfInBounds i true) a' w') a w :=
  fun n ls a w _ hy hS H=>hy.wpOp hi hS ⟨fun _=>hS,H⟩
 intro n;induction n with
 | zero =>
  intro ls a w _ hr _ hy hS H;refine ⟨fun h=>(by rw [h] at hr; cases hr),fun j hj=>?_⟩;rcases Decidable.em (j=i) with e | e
  ·rw [e]; exact first 0 ls a w hr hy hS H
  ·have:=ready_mono hj e;rw [H.1] at this; cases this
 | succ n ih =>
  intro ls a w hap hr hk hy hS H;refine ⟨fun h=>(by rw [h] at hr; cases hr),fun j hj=>?_⟩;rcases Decidable.em (j=i) with e | e
  ·rw [e]; exact first (n+1) ls a w hr hy hS H
  ·obtain ⟨hju,oj,hoj,_⟩:=mem_ready.1 hj;have h2:=wpOp_putIf hoj (hap j oj hoj e hju (unlisted hr hoj hj)) (fun cs b=>hsel i oi cs b hi) (fun cs b=>hsel j oj cs b hoj) hQ hy (H.2 j (ready_mono hj e));refine wpOp_mono (fun a' w' h3=>?_) h2;have hr':i ∈ Region.ready md ops (ls.setIfInBounds j true):=ready_mono hr (Ne.symm e);have hjk:j≠k:=fun ejk=>by
    obtain ⟨ok,ho,e',he,hb,hon⟩:=hk;rw [<- ejk,hoj] at ho; cases ho;exact unlisted hr hoj hj e' he hb hon
   have hS':S w':=h3.2.1 hjk;exact ⟨fun _=>hS',ih _ a' w' (hap.next hju) hr' hk h3.1 hS' (by rw [Array.setIfInBounds_comm _ _ e]; exact h3.2.2)⟩
end
section
variable {P:Program} {md:Region.Mode} {l:List Oper} {Q:Exit->Act->World->Prop} {S:World->Prop} {k:Nat}
def waits (md:Region.Mode) (l:List Oper) (k i:Nat):Bool:=match l[k]? with | some o=>o.after.any fun e=>Region.binds md e && e.on == i | none=>false
theorem waits_spec {i:Nat} (h:waits md l k i=true):∃ ok,l.toArray[k]?=some ok/\∃ e ∈ ok.after,Region.binds md e=true/\e.on=i:=by
 unfold waits at h;split at h
 ·rename_i o ho;obtain ⟨e,he,hb⟩:=Array.any_eq_true'.1 h;simp only [Bool.and_eq_true,beq_iff_eq] at hb;exact ⟨o,by simpa using ho,e,he,hb⟩
 ·cases h
theorem ends_take (i:Nat) {oi:Oper} {v:Value} {fuel:Nat} {listed:Array Bool} {a:Act} {w:World} (hi:l[i]?=some oi) (hs:Region.noSelect l.toArray=true) (hf:Region.free md l.toArray listed i=true)
  (hr:(Region.ready md l.toArray listed).contains i=true) (hk:waits md l k i=true) (hQ:∀ c a w,Q (.panic c) (a.put oi.dst v) w->Q (.panic c) a w) (hw:Region.wanted oi (yielded l.toArray a.tmps)=true)
  (he:∀ w,S w->(execOp a.eval oi).run P w=.ok (.value v) w) (hS:S w) (h:Ends P md l.toArray Q S k fuel (listed.setIfInBounds i true) (a.put oi.dst v) w):Ends P md l.toArray Q S k (fuel+1) listed a w :=
 have hi':l.toArray[i]?=some oi:=by simpa using hi
 Ends.take hi' (Region.noSelect_spec hs) hQ fuel listed a w (Region.free_spec hi' hf) (by simpa using hr) (waits_spec hk) (.inl ⟨hw,he⟩) hS h
theorem ends_op (i:Nat) {oi:Oper} {fuel:Nat} {listed:Array Bool} {a:Act} {w:World} (hi:l[i]?=some oi) (hr:Region.ready md l.toArray listed=[i])
  (h:∀ K':Act->World->Prop,Shut (∀ a w,(i≠k->S w)->((i≠k->S w)->Ends P md l.toArray Q S k fuel (listed.setIfInBounds i true) a w)->K' a w)->if Region.wanted oi (yielded l.toArray a.tmps)=true then Oper.wp P oi a w K' Q else K' (a.put oi.dst undef) w) :
  Ends P md l.toArray Q S k (fuel+1) listed a w:=by
 refine ⟨fun h0=>(by rw [hr] at h0; cases h0),fun j hj=>?_⟩;rw [hr] at hj;obtain rfl:=List.mem_singleton.1 hj;exact wpOp_step (by simpa using hi) (fun K' hK=>h K' (fun a w hS hW=>hK a w ⟨hS,hW hS⟩))
theorem ends_step (i:Nat) {oi:Oper} {fuel:Nat} {listed:Array Bool} {a:Act} {w:World} (hi:l[i]?=some oi) (hr:Region.ready md l.toArray listed=[i])
  (h:∀ K':Act->World->Prop,Shut (∀ a w,S w->(S w->Ends P md l.toArray Q S k fuel (listed.setIfInBounds i true) a w)->K' a w)->if Region.wanted oi (yielded l.toArray a.tmps)=true then Oper.wp P oi a w K' Q else K' (a.put oi.dst undef) w) :
  Ends P md l.toArray Q S k (fuel+1) listed a w :=
 ends_op i hi hr (fun K' hK=>h K' (fun a w hS hW=>hK.o a w (fun _=>hS) (fun _=>hW hS)))
theorem ends_last {oi:Oper} {fuel:Nat} {listed:Array Bool} {a:Act} {w:World} (hi:l[k]?=some oi) (hr:Region.ready md l.toArray listed=[k])
  (h:∀ K':Act->World->Prop,Shut (∀ a w,Ends P md l.toArray Q S k fuel (listed.setIfInBounds k true) a w->K' a w)->if Region.wanted oi (yielded l.toArray a.tmps)=true then Oper.wp P oi a w K' Q else K' (a.put oi.dst undef) w) :
  Ends P md l.toArray Q S k (fuel+1) listed a w :=
 ends_op k hi hr (fun K' hK=>h K' (fun a w hW=>hK.o a w (fun e=>absurd rfl e) (fun _=>hW)))
theorem ends_done {listed:Array Bool} {a:Act} {w:World} (hr:Region.ready md l.toArray listed=[]) (h:Q .normal a w):∀ fuel,Ends P md l.toArray Q S k fuel listed a w
 | 0=>⟨hr,h⟩
 | _+1=>⟨fun _=>h,by rw [hr]; simp⟩
theorem ends_begin {id:Nat} {a:Act} {w:World} (k:Nat) (S:World->Prop) (hm:P.follows .mixedOrders=true) (hS:S w.drew)
  (h:S w.drew->Ends P .any l.toArray Q S k l.toArray.size (Array.replicate l.toArray.size false) a w.drew):(Code.region id l.toArray true).wp P Q a w :=
 wp_region_any hm (Ends.any _ _ _ _ (h hS))
end
abbrev S9 (b0 b1 b2 b3 b4 b5 b6 b7 b8 o0 o1 o2 o3 o4 o5 o6 o7 o8:Nat) (x0 x1 x2 x3 x4 x5 x6 x7 x8:Value) (W:World):Prop:=W.cell? ⟨b0,o0,none⟩=some x0/\W.cell? ⟨b1,o1,none⟩=some x1/\W.cell? ⟨b2,o2,none⟩=some x2/\W.cell? ⟨b3,o3,none⟩=some x3/\W.cell? ⟨b4,o4,none⟩=some x4/\W.cell? ⟨b5,o5,none⟩=some x5/\W.cell? ⟨b6,o6,none⟩=some x6/\W.cell? ⟨b7,o7,none⟩=some x7/\W.cell? ⟨b8,o8,none⟩=some x8
section
variable {b0 b1 b2 b3 b4 b5 b6 b7 b8 o0 o1 o2 o3 o4 o5 o6 o7 o8:Nat} {x0 x1 x2 x3 x4 x5 x6 x7 x8:Value} {W:World}
theorem S9.drew (h:S9 b0 b1 b2 b3 b4 b5 b6 b7 b8 o0 o1 o2 o3 o4 o5 o6 o7 o8 x0 x1 x2 x3 x4 x5 x6 x7 x8 W):S9 b0 b1 b2 b3 b4 b5 b6 b7 b8 o0 o1 o2 o3 o4 o5 o6 o7 o8 x0 x1 x2 x3 x4 x5 x6 x7 x8 W.drew:=h
theorem S9.keep {W':World} (h:S9 b0 b1 b2 b3 b4 b5 b6 b7 b8 o0 o1 o2 o3 o4 o5 o6 o7 o8 x0 x1 x2 x3 x4 x5 x6 x7 x8 W) (hx:XF W W'):S9 b0 b1 b2 b3 b4 b5 b6 b7 b8 o0 o1 o2 o3 o4 o5 o6 o7 o8 x0 x1 x2 x3 x4 x5 x6 x7 x8 W':=⟨cell_keep h.1 hx,cell_keep h.2.1 hx,cell_keep h.2.2.1 hx,cell_keep h.2.2.2.1 hx,cell_keep h.2.2.2.2.1 hx,cell_keep h.2.2.2.2.2.1 hx,cell_keep h.2.2.2.2.2.2.1 hx,cell_keep h.2.2.2.2.2.2.2.1 hx,cell_keep h.2.2.2.2.2.2.2.2 hx⟩
end
theorem sumTo_sz {g:Nat->Rat} {M:Nat}:∀ {n:Nat},(∀ i,i<n->Sz (g i) M)->Sz (sumTo n g) (1+n*(M+1))
 | 0,_=>Sz.zero.mono (by omega)
 | n+1,h=>by
  have e:1+n*(M+1)+M+1=1+(n+1)*(M+1):=(by rw [Nat.succ_mul]; omega);exact ((sumTo_sz (n:=n) (fun i hi=>h i (by omega))).add (h n (by omega))).mono (Nat.le_of_eq e)
def termA (r:RowV) (q:Rat) (j k:Nat):Rat:=if (r.t k).var=(j:Int) then ((r.t k).coef:Rat)*q else 0
def rowA (p:ProgV) (y:List Rat) (j i:Nat):Rat:=sumTo (p.r i).terms.length (termA (p.r i) (atQ y i) j)
theorem combA_eq (p:ProgV) (y:List Rat) (j:Nat):combA p y j=sumTo p.rows.length (rowA p y j):=rfl
theorem termA_sz {r:RowV} {q:Rat} {L:Nat} (hq:Sz q L) {k:Nat} (hk:TermOk (r.t k)) (j:Nat):Sz (termA r q j k) (L+2):=by
 unfold termA;split
 ·exact ((Sz.int hk.coef).mul hq).mono (by omega)
 ·exact Sz.zero.mono (by omega)
theorem termA_zero {r:RowV} {j k:Nat}:termA r 0 j k=0:=by
 unfold termA;split
 ·exact Rat.mul_zero _
 ·rfl
theorem rowA_zero {p:ProgV} {y:List Rat} {i:Nat} (h:atQ y i=0) (j:Nat):rowA p y j i=0:=by
 unfold rowA;rw [h];exact sumTo_zero' (fun k _=>termA_zero)
theorem RArr.past {w w':World} {b n:Nat} {f:Nat->Rat} {S:Nat->Prop} (h:RArr w b n f) (hx:Ext S w w') (hb:¬ S b) (hr:∀ v l,Rds w v l->Rds w' v l):RArr w' b n f:=by
 obtain ⟨arr,h1,h2⟩:=h.row;refine ⟨⟨arr,(hx.blk (blk_lt h1) hb).trans h1,h2⟩,fun i hi=>?_⟩;obtain ⟨neg,a1,m1,c1,a2,m2,c2,e0,e1,e2,mag,dv',g1,g2,g3⟩:=h.cells i hi;exact ⟨neg,a1,m1,c1,a2,m2,c2,(hx.cell (p:=⟨b,i*3,none⟩) h.lt hb).trans e0,(hx.cell (p:=⟨b,i*3+1,none⟩) h.lt hb).trans e1,(hx.cell (p:=⟨b,i*3+2,none⟩) h.lt hb).trans e2,mag,dv',g1,hr _ _ g2,hr _ _ g3⟩
def CombPost (w:World) (n:Nat) (f:Nat->Rat) (q:Rat) (r:Ending) (w':World):Prop:=∃ B v,r=.returned (.tuple #[.slice (some ⟨B,0,none⟩) n n,v])/\w.heap.size<=B/\RArr w' B n f/\IsRat w' v q/\XF w w'
theorem Combine_any (w:World) (pv yv:Value) (p:ProgV) (y:List Rat) (L T:Nat) (hp:IsPrg w pv p) (hy:Rats w yv y L) (h1:1<=L) (hT:∀ i,i<p.rows.length->(p.r i).terms.length<=T)
  (hL:1+p.rows.length*(T*(L+3)+2)+(1+T*(L+3))+(L+3)<=4000000) (hL2:1+p.rows.length*(L+3)+(L+3)<=4000000) (hvn:p.vars.length<=1000000) :
  Calls Tryz.prog 111 #[pv,yv] w (CombPost w p.vars.length (combA p y) (combB p y)):=by
 obtain ⟨vv,rv,rfl,hv,hr⟩:=hp;obtain ⟨vo,vc,rfl,-,-,-⟩:=hv.shape;obtain ⟨ro,rc,rfl,-,hn,-⟩:=hr.shape;obtain ⟨yo,yc,rfl,-,hyn,-⟩:=hy.shape;obtain ⟨b0,b1,b2,hx⟩:=box3 w (.cells #[.slice vo p.vars.length vc,.slice ro p.rows.length rc] 25) (.cells #[.slice yo y.length yc] 26) (.cells #[.bool false,.slice none 0 0,.slice none 0 0] 64);have HS:=bH (fun W0 (hW0:XF (((w.alloc (.cells #[.slice vo p.vars.length vc,.slice ro p.rows.length rc] 25)).alloc (.cells #[.slice yo y.length yc] 26)).alloc (.cells #[.bool false,.slice none 0 0,.slice none 0 0] 64)) W0) =>
  lsum_any W0 p.rows.length 164 #[.pointer (some ⟨w.heap.size,0,none⟩),.pointer (some ⟨w.heap.size+1,0,none⟩)] (fun i=>(p.r i).bound) (fun i=>atQ y i) L h1 hL2
   (fun i hi=>(hr.ok i hi).bound) (fun i _=>hy.sz h1 i) (enters_of Tryz.func164 (by kernel_rfl) rfl)
   (fun W hW i hi=>comb1_any W w.heap.size (w.heap.size+1) _ _ _ p y L (blk_keep b0 (hW0.trans hW)) (blk_keep b1 (hW0.trans hW)) (hr.keep ((hx.trans hW0).trans hW)) (hy.keep ((hx.trans hW0).trans hW)) i hi))
 have HV:=bH (bI hr hy);have HA:=bH (fun W (hW:XF w W) (i:Nat)=>lat_any W _ y L (hy.keep hW) i);have HG:=bH (fun W u q (hu:Rrat W u q L)=>rsign_any W u q L hu (by omega));have hsz:∀ i j k,i<p.rows.length->k<(p.r i).terms.length->Sz (sumTo i (rowA p y j)+sumTo k (termA (p.r i) (atQ y i) j)) (1+p.rows.length*(T*(L+3)+2)+(1+T*(L+3))+1):=fun i j k hi hk=>by
  have hok:∀ i,i<p.rows.length->∀ k,k<(p.r i).terms.length->TermOk ((p.r i).t k):=fun i hi k hk=>by
   obtain ⟨_,_,_,_,rfl,_,_,_,_,_,_,_,ht⟩:=hr.atp i hi;exact ht.ok k hk
  have g1:∀ i,i<p.rows.length->∀ k,k<=(p.r i).terms.length->Sz (sumTo k (termA (p.r i) (atQ y i) j)) (1+T*(L+3)):=fun i hi k hk =>
   (sumTo_sz (M:=L+2) (fun k' hk'=>termA_sz (hy.sz h1 i) (hok i hi k' (by omega)) j)).mono (by
    have:=Nat.mul_le_mul_right (L+3) (Nat.le_trans hk (hT i hi));show 1+k*(L+3)<=_;omega)
  have g2:Sz (sumTo i (rowA p y j)) (1+p.rows.length*(T*(L+3)+2)) :=
   (sumTo_sz (M:=1+T*(L+3)) (fun i' hi'=>g1 i' (by omega) _ (Nat.le_refl _))).mono (by
    have:=Nat.mul_le_mul_right (T*(L+3)+2) (Nat.le_of_lt hi);rw [show 1+T*(L+3)+1=T*(L+3)+2 from by omega];omega)
  exact g2.add (g1 i hi k (by omega))
 have Hsz:=bH hsz;have Hq:=bH (fun i=>hy.sz h1 i);generalize hM:1+p.rows.length*(T*(L+3)+2)+(1+T*(L+3))+1=M at *;have hML:M+(L+2)<=4000000:=by omega
 have HB:=bH (bI b0 (bI b1 (bI (boxR_of b2) hx)));obtain ⟨w2,hmk,hA,hx2⟩:=run_make_rats (((w.alloc (.cells #[.slice vo p.vars.length vc,.slice ro p.rows.length rc] 25)).alloc (.cells #[.slice yo y.length yc] 26)).alloc (.cells #[.bool false,.slice none 0 0,.slice none 0 0] 64)) p.vars.length hvn;clear hv hr hy b0 b1 b2 hx hsz hL hL2 hM hT;obtain ⟨m,hm'⟩:∃ m,p.rows.length=m:=⟨_,rfl⟩;have HN:=bH hm';obtain ⟨qb,hqb⟩:∃ qb,combB p y=qb:=⟨_,rfl⟩;unfold combB at hqb;rw [hqb] at HS;unfold combB;rw [hqb];clear hqb;rw [hm'] at hn ⊢ HV HB HS Hsz hmk hA hx2;obtain ⟨yn,hyn'⟩:∃ yn,y.length=yn:=⟨_,rfl⟩;have HYN:=bH hyn';rw [hyn'] at hyn ⊢ HV HB HS HA hmk hA hx2;clear hyn';clear hm';generalize p.vars.length=n at *;go_enter Tryz.func111,Tryz.ntmps111;go_upto_region 1 with fail;generalize (((w.alloc (.cells #[.slice vo n vc,.slice ro m rc] 25)).alloc (.cells #[.slice yo yn yc] 26)).alloc (.cells #[.bool false,.slice none 0 0,.slice none 0 0] 64))=w1 at *;obtain ⟨pb,hpb⟩:∃ pb,w.heap.size=pb:=⟨_,rfl⟩;have hpw:w.heap.size<=pb:=Nat.le_of_eq hpb;rw [hpb] at HB HS ⊢;clear hpb;obtain ⟨B,hB⟩:∃ B,w1.heap.size=B:=⟨_,rfl⟩;have hBw:w1.heap.size<=B:=Nat.le_of_eq hB;have hB3:pb+1+1<B:=by have:=HB.o.2.2.1.lt; omega
 rw [hB] at hmk hA;clear hB;have HA2:=bH (bI hA hx2);clear hA;have z0:=cellq HB.o.1 0 rfl;have z1:=cellq HB.o.1 1 rfl;have z1':=cell_keep z1 hx2;clear hx2;go_wp2_with fail;clear hmk z0 z1 z1';go_loopg [18] m (fun gg v18 wr=>∃ i:Nat,i<=m/\gg=m - i/\v18=.int .i64 i/\RArr wr B n (fun j=>sumTo i (rowA p y j))/\XF w1 wr);case atStart=>exact ⟨0,Nat.zero_le _,rfl,rfl,HA2.o.1.congr (fun _ _=>rfl),HA2.o.2⟩
 case round =>
  obtain ⟨i,hi,rfl,rfl,harr,hx⟩:=hrel;by_cases hin:i<m
  ·have i0:(i:Int)<(m:Int):=(by omega);have hX0:=HB.o.2.2.2.trans hx;have HX:=bH (bI harr hx);clear harr hx;obtain ⟨b,off,ta,tc,rfl,hlt,e0,e1,e2,e3,e4,-,htm⟩:=HV.o.1.atp i (by rw [HN.o]; exact hin);replace e0:=cell_keep e0 hX0;replace e1:=cell_keep e1 hX0;replace e2:=cell_keep e2 hX0;replace e3:=cell_keep e3 hX0;replace e4:=cell_keep e4 hX0;have Htm:=bH htm;obtain ⟨-,-,-,-,htn,-⟩:=htm.shape;clear htm;have HA1:=bH (fun W (hW:XF wr W)=>HA.o W (hX0.trans hW) i);have HszI:=bH (fun j k hk=>Hsz.o i j k hin hk);obtain ⟨tl,htl⟩:∃ tl,(p.r i).terms.length=tl:=⟨_,rfl⟩;rw [htl] at e3 Htm HszI htn;have HTL:=bH htl;have hx3:=(Ext.refl (fun _=>False) wr).alloc (.cells #[.string (p.r i).name,.int .i64 (p.r i).group,.int .i64 (p.r i).kind,.slice ta tl tc,.int .i64 (p.r i).bound] 35);have hb3:=blk_alloc_at wr (.cells #[.string (p.r i).name,.int .i64 (p.r i).group,.int .i64 (p.r i).kind,.slice ta tl tc,.int .i64 (p.r i).bound] 35);have HB3:=bH (bI hb3 hx3);clear hb3 hx3 htl hX0;have y0:=cell_keep (cell_keep (cellq HB.o.2.1 0 rfl) HX.o.2) HB3.o.2;go_upto_region 5 with fail;obtain ⟨rb,hrb⟩:∃ rb,wr.heap.size=rb:=⟨_,rfl⟩;rw [hrb] at HB3 ⊢;generalize wr.alloc (.cells #[.string (p.r i).name,.int .i64 (p.r i).group,.int .i64 (p.r i).kind,.slice ta tl tc,.int .i64 (p.r i).bound] 35)=w3 at *;clear e0 e1 e2 e3 e4 hrb;go_wp2_with fail;refine (HA1.o w3 HB3.o.2).mono ?_;rintro r4 w4 ⟨v4,rfl,h4,hx4⟩;have HG4:=bH (HG.o w4 v4 _ h4);have HX4:=bH hx4;clear h4 hx4 HA1 y0;go_wp2_with fail;refine HG4.o.mono ?_;rintro r5 w5 ⟨rfl,hx5⟩;have hx35:=HX4.o.trans hx5;have HX5:=bH (HB3.o.2.trans hx35);have e3:=cell_keep (cellq HB3.o.1 3 rfl) hx35;clear hx5 hx35 HX4 HG4;by_cases hs:(atQ y i).num.sign=0
   ·have hs':((atQ y i).num.sign == 0)=true:=(by simpa using hs);have hz:=(sign_zero _).1 hs;have HZ:=bH hz;clear hz;rw [hs];clear hs hs';go_wp2;go_roundg (m - (i+1));case measure=>omega
    case rel=>exact ⟨i+1,by omega,rfl,by go_num,(HX.o.1.keep HX5.o).congr (fun j _=>(by show _=sumTo i (rowA p y j)+rowA p y j i; rw [rowA_zero HZ.o,Rat.add_zero])),HX.o.2.trans HX5.o⟩
   ·have hs1:((atQ y i).num.sign == 0)=false:=(by simpa using hs);have hin2:i<y.length:=by
     refine Nat.lt_of_not_le (fun hle=>hs ?_);rw [atQ_out y (by omega)]; rfl
    have HI2:=bH hin2;clear hin2;generalize (atQ y i).num.sign=sg at *;go_wp2_with fail;go_loopg [31] tl (fun gg v31 wq=>∃ k:Nat,k<=tl/\gg=tl - k/\v31=.int .i64 k/\RArr wq B n (fun j=>sumTo i (rowA p y j)+sumTo k (termA (p.r i) (atQ y i) j))/\XF w1 wq);case atStart=>exact ⟨0,Nat.zero_le _,rfl,rfl,(HX.o.1.keep HX5.o).congr (fun j _=>(by show _=_+(0:Rat); rw [Rat.add_zero])),HX.o.2.trans HX5.o⟩
    case round =>
     obtain ⟨k,hk,rfl,rfl,harr,hx⟩:=hrel;clear e3;by_cases hkn:k<tl
     ·have k0:(k:Int)<(tl:Int):=(by omega);have HW:=bH (bI harr hx);clear harr hx;have hX0:=HB.o.2.2.2.trans HW.o.2;obtain ⟨bt,offt,rfl,-,f0,f1,hok⟩:=(Htm.o.keep hX0).atr k (by rw [HTL.o]; exact hkn);have Hsz2:=bH (fun j=>HszI.o j k hkn);have HTA:=bH (show ∀ j,termA (p.r i) (atQ y i) j k=if ((p.r i).t k).var=(j:Int) then (((p.r i).t k).coef:Rat)*atQ y i else 0 from fun _=>rfl);have HOk:=bH hok;clear hok;obtain ⟨tv,htv⟩:∃ tv,((p.r i).t k).var=tv:=⟨_,rfl⟩;obtain ⟨co,hco⟩:∃ co,((p.r i).t k).coef=co:=⟨_,rfl⟩;have HOk':=bH (bI HOk.o.var HOk.o.coef);rw [htv] at f0 HTA;rw [hco] at f1 HTA;rw [htv,hco] at HOk';clear HOk htv hco;have hx6:=(Ext.refl (fun _=>False) wr).alloc (.cells #[.int .i64 tv,.int .i64 co] 70);have hb6:=blk_alloc_at wr (.cells #[.int .i64 tv,.int .i64 co] 70);have HB6:=bH (bI hb6 hx6);have hBq:=HW.o.1.lt;clear hb6 hx6 hX0;go_upto_region 9 with fail;obtain ⟨tb,htb⟩:∃ tb,wr.heap.size=tb:=⟨_,rfl⟩;rw [htb] at HB6 hBq ⊢;generalize wr.alloc (.cells #[.int .i64 tv,.int .i64 co] 70)=w6 at *;clear f0 f1 htb;obtain ⟨x0,x1⟩:w6.cell? ⟨tb,0,none⟩=some (.int .i64 tv)/\w6.cell? ⟨tb,1,none⟩=some (.int .i64 co):=⟨cellq HB6.o.1 0 rfl,cellq HB6.o.1 1 rfl⟩;by_cases hin3:0<=tv/\tv<(n:Int)
      ·obtain ⟨v,rfl⟩:∃ v:Nat,tv=v:=⟨tv.toNat,by omega⟩;have hvn:v<n:=(by omega);have v0:(0:Int)<=(v:Int):=(by omega);have v1:(v:Int)<(n:Int):=(by omega);clear hin3;have hX6:=(HB.o.2.2.2.trans HW.o.2).trans HB6.o.2;obtain ⟨yb,yoff,yn0,ya,yl,yc1,ya2,yl2,yc2,hyo,-,y0,y1,y2,hyq⟩:=HV.o.2.at i (by exact HI2.o);have hyq6:=hyq.keep hX6;have harr6:=HW.o.1.keep HB6.o.2;obtain ⟨on,oa,ol,oc,oa2,ol2,oc2,o0,o1,o2,hoq⟩:=harr6.cells v hvn;have hyb:=cell_keep (cell_keep (cellq HB.o.2.1 0 rfl) HW.o.2) HB6.o.2;rw [hyo] at hyb;have i1:(i:Int)<(yn:Int):=(by have:=HI2.o; rw [HYN.o] at this; omega);have i00:(0:Int)<=(i:Int):=(by omega);have hS:S9 tb tb B B B (pb+1) yb yb yb 0 1 (v*3) (v*3+1) (v*3+2) 0 (yoff+i*3) (yoff+i*3+1) (yoff+i*3+2) (.int .i64 v) (.int .i64 co) (.bool on) (.slice oa ol oc) (.slice oa2 ol2 oc2) (.slice (some ⟨yb,yoff,none⟩) yn yc) (.bool yn0) (.slice ya yl yc1) (.slice ya2 yl2 yc2) w6 :=
        ⟨x0,x1,o0,o1,o2,hyb,cell_keep y0 hX6,cell_keep y1 hX6,cell_keep y2 hX6⟩
       have HF:=bH (fun W=>rfrom_any W co HOk'.o.2.1 HOk'.o.2.2);have HM:=bH (fun W (hW:XF w6 W) u (hu:IsRat W u ((co:Int):Rat))=>rmul_any W u _ _ (atQ y i) (L+2) (hu.reads ((Sz.int HOk'.o.2).mono (by omega))) ((hyq6.keep hW).mono (by omega)) (by omega) (by omega));have hpr:=(Sz.int HOk'.o.2).mul (Hq.o i);have HAd:=bH (fun W (hW:XF w6 W) u (hu:IsRat W u ((co:Rat)*atQ y i))=>radd_any W _ u _ _ (M+(L+2)) ((hoq.keep hW).reads ((Hsz2.o v).mono (by omega))) (hu.reads (hpr.mono (by omega))) (by omega) (by omega));have HArr:=bH (bI harr6 ((HW.o.2.trans HB6.o.2)));have HTv:=bH (show (fun j=>if j=v then (sumTo i (rowA p y v)+sumTo k (termA (p.r i) (atQ y i) v))+(co:Rat)*atQ y i else sumTo i (rowA p y j)+sumTo k (termA (p.r i) (atQ y i) j))=fun j=>sumTo i (rowA p y j)+sumTo (k+1) (termA (p.r i) (atQ y i) j) from funext fun j=>(by
        show _=sumTo i (rowA p y j)+(sumTo k (termA (p.r i) (atQ y i) j)+termA (p.r i) (atQ y i) j k);rw [HTA.o];by_cases e:j=v
        ·rw [if_pos e,e,if_pos rfl]; grind
        ·rw [if_neg e,if_neg (by omega)]; grind))
       clear x0 x1 o0 o1 o2 hyb y0 y1 y2 hyq hyq6 harr6 hoq hpr hX6 hyo Hsz2 HszI Hq Hsz HTA HA HG HS;go_upto_region 10 with fail;have Hv:=bH hvn;clear hvn;refine ends_begin 18 (S9 tb tb B B B (pb+1) yb yb yb 0 1 (v*3) (v*3+1) (v*3+2) 0 (yoff+i*3) (yoff+i*3+1) (yoff+i*3+2) (.int .i64 v) (.int .i64 co) (.bool on) (.slice oa ol oc) (.slice oa2 ol2 oc2) (.slice (some ⟨yb,yoff,none⟩) yn yc) (.bool yn0) (.slice ya yl yc1) (.slice ya2 yl2 yc2)) (by kernel_rfl) (hS.drew) (fun hHeld=>?_);refine ends_take 0 (v:=?_) rfl (by kernel_rfl) (by kernel_rfl) (by kernel_rfl) (by kernel_rfl) (fun _ _ _ h=>h) (by rfl) ?_ (by assumption) ?_;rotate_left
       ·((intro w hSw; (try dsimp only at hSw); go_simp) <;> with_reducible rfl)
       (try go_frame);refine ends_take 1 (v:=?_) rfl (by kernel_rfl) (by kernel_rfl) (by kernel_rfl) (by kernel_rfl) (fun _ _ _ h=>h) (by rfl) ?_ (by assumption) ?_;rotate_left
       ·((intro w hSw; (try dsimp only at hSw); go_simp) <;> with_reducible rfl)
       (try go_frame);refine ends_take 2 (v:=?_) rfl (by kernel_rfl) (by kernel_rfl) (by kernel_rfl) (by kernel_rfl) (fun _ _ _ h=>h) (by rfl) ?_ (by assumption) ?_;rotate_left
       ·((intro w hSw; (try dsimp only at hSw); go_simp) <;> with_reducible rfl)
       (try go_frame);refine ends_take 3 (v:=?_) rfl (by kernel_rfl) (by kernel_rfl) (by kernel_rfl) (by kernel_rfl) (fun _ _ _ h=>h) (by rfl) ?_ (by assumption) ?_;rotate_left
       ·((intro w hSw; (try dsimp only at hSw); go_simp) <;> with_reducible rfl)
       (try go_frame);refine ends_take 4 (v:=?_) rfl (by kernel_rfl) (by kernel_rfl) (by kernel_rfl) (by kernel_rfl) (fun _ _ _ h=>h) (by rfl) ?_ (by assumption) ?_;rotate_left
       ·((intro w hSw; (try dsimp only at hSw); go_simp) <;> with_reducible rfl)
       (try go_frame);refine ends_take 5 (v:=?_) rfl (by kernel_rfl) (by kernel_rfl) (by kernel_rfl) (by kernel_rfl) (fun _ _ _ h=>h) (by rfl) ?_ (by assumption) ?_;rotate_left
       ·((intro w hSw; (try dsimp only at hSw); go_simp) <;> with_reducible rfl)
       (try go_frame);refine ends_take 6 (v:=?_) rfl (by kernel_rfl) (by kernel_rfl) (by kernel_rfl) (by kernel_rfl) (fun _ _ _ h=>h) (by rfl) ?_ (by assumption) ?_;rotate_left
       ·((intro w hSw; (try dsimp only at hSw); go_simp) <;> with_reducible rfl)
       (try go_frame);refine ends_take 7 (v:=?_) rfl (by kernel_rfl) (by kernel_rfl) (by kernel_rfl) (by kernel_rfl) (fun _ _ _ h=>h) (by rfl) ?_ (by assumption) ?_;rotate_left
       ·((intro w hSw; (try dsimp only at hSw); go_simp) <;> with_reducible rfl)
       (try go_frame);refine ends_take 8 (v:=?_) rfl (by kernel_rfl) (by kernel_rfl) (by kernel_rfl) (by kernel_rfl) (fun _ _ _ h=>h) (by rfl) ?_ (by assumption) ?_;rotate_left
       ·((intro w hSw; (try dsimp only at hSw); go_simp) <;> with_reducible rfl)
       (try go_frame);refine ends_take 9 (v:=?_) rfl (by kernel_rfl) (by kernel_rfl) (by kernel_rfl) (by kernel_rfl) (fun _ _ _ h=>h) (by rfl) ?_ (by assumption) ?_;rotate_left
       ·((intro w hSw; (try dsimp only at hSw); go_simp) <;> with_reducible rfl)
       (try go_frame);refine ends_take 11 (v:=?_) rfl (by kernel_rfl) (by kernel_rfl) (by kernel_rfl) (by kernel_rfl) (fun _ _ _ h=>h) (by rfl) ?_ (by assumption) ?_;rotate_left
       ·((intro w hSw; (try dsimp only at hSw); go_simp) <;> with_reducible rfl)
       (try go_frame);refine ends_take 12 (v:=?_) rfl (by kernel_rfl) (by kernel_rfl) (by kernel_rfl) (by kernel_rfl) (fun _ _ _ h=>h) (by rfl) ?_ (by assumption) ?_;rotate_left
       ·((intro w hSw; (try dsimp only at hSw); go_simp) <;> with_reducible rfl)
       (try go_frame);refine ends_take 13 (v:=?_) rfl (by kernel_rfl) (by kernel_rfl) (by kernel_rfl) (by kernel_rfl) (fun _ _ _ h=>h) (by rfl) ?_ (by assumption) ?_;rotate_left
       ·((intro w hSw; (try dsimp only at hSw); go_simp) <;> with_reducible rfl)
       (try go_frame);refine ends_take 14 (v:=?_) rfl (by kernel_rfl) (by kernel_rfl) (by kernel_rfl) (by kernel_rfl) (fun _ _ _ h=>h) (by rfl) ?_ (by assumption) ?_;rotate_left
       ·((intro w hSw; (try dsimp only at hSw); go_simp) <;> with_reducible rfl)
       (try go_frame);refine ends_step 10 rfl (by kernel_rfl) (fun K hK=>?_);(go_simp; go_at_call 85; (with_reducible refine (HF.o _).mono ?_); rintro q1 w11 ⟨v11,rfl,h11,hx11⟩; have hX1:=(Ext.refl (fun _=>False) w6).drew.trans hx11; have hK1:=hS.keep hX1; have hM:=HM.o w11 hX1 _ h11; obtain ⟨n11,a11,l11,c11,a11',l11',c11',rfl⟩:=h11.shape);refine hK.o _ _ (hK1) (fun hHeld=>?_);clear hK K;(try go_frame);refine ends_step 15 rfl (by kernel_rfl) (fun K hK=>?_);(go_simp; go_at_call 116; (with_reducible refine hM.mono ?_); rintro q2 w12 ⟨v12,rfl,h12,hx12⟩; have hX2:=hX1.trans hx12; have hK2:=hS.keep hX2; have hA3:=HAd.o w12 hX2 _ h12; obtain ⟨n12,a12,l12,c12,a12',l12',c12',rfl⟩:=h12.shape);refine hK.o _ _ (hK2) (fun hHeld=>?_);clear hK K;(try go_frame);refine ends_step 16 rfl (by kernel_rfl) (fun K hK=>?_);(go_simp; go_at_call 117; (with_reducible refine hA3.mono ?_); rintro q3 w13 ⟨v13,rfl,h13,hx13⟩; have hX3:=hX2.trans hx13; have hK3:=hS.keep hX3; obtain ⟨n13,a13,l13,c13,a13',l13',c13',rfl⟩:=h13.shape);refine hK.o _ _ (hK3) (fun hHeld=>?_);clear hK K;(try go_frame);refine ends_take 17 (v:=?_) rfl (by kernel_rfl) (by kernel_rfl) (by kernel_rfl) (by kernel_rfl) (fun _ _ _ h=>h) (by rfl) ?_ (by assumption) ?_;rotate_left
       ·((intro w hSw; (try dsimp only at hSw); go_simp) <;> with_reducible rfl)
       (try go_frame);have harr13:=HArr.o.1.keep hX3;have fz0:=harr13.free (v*3);have fz1:=harr13.free (v*3+1);have fz2:=harr13.free (v*3+2);obtain ⟨-,-,t0,t1,t2,-⟩:=hHeld;refine ends_last rfl (by kernel_rfl) (fun K hK=>?_);go_simp;refine hK.o _ _ ?_;clear hK K;(try go_frame);refine ends_done (by kernel_rfl) ?_ _;have HX13:=bH (HArr.o.2.trans hX3);obtain ⟨p1,p2,-⟩:=harr13.put Hv.o h13;have HP:=bH (bI p1 (HX13.o.own p2 (fun q e=>by omega)));clear p1 p2 harr13 h11 h12 h13 hx11 hx12 hx13 hX1 hX2 hX3 hK1 hK2 hK3 hS hM hA3 t0 t1 t2 fz0 fz1 fz2;generalize ((w13.setCell ⟨B,v*3,none⟩ (.bool n13)).setCell ⟨B,v*3+1,none⟩ (.slice a13 l13 c13)).setCell ⟨B,v*3+2,none⟩ (.slice a13' l13' c13')=w9 at *;go_wp2;go_roundg (tl - (k+1));case measure=>omega
       case rel=>exact ⟨k+1,by omega,rfl,by go_num,(by have h0:=HP.o.1; rw [HTv.o] at h0; exact h0),HP.o.2⟩
      ·have hz:∀ j,j<n->termA (p.r i) (atQ y i) j k=0:=fun j hj=>by
        rw [HTA.o,if_neg (by omega)]
       have HZ:=bH hz;have HE:=bH (bI (HW.o.1.keep HB6.o.2) (HW.o.2.trans HB6.o.2));clear hz;by_cases hin4:0<=tv
       ·have hin5:¬ tv<(n:Int):=(by omega);go_wp2;go_roundg (tl - (k+1));case measure=>omega
        case rel=>exact ⟨k+1,by omega,rfl,by go_num,HE.o.1.congr (fun j hj=>(by show _=sumTo i (rowA p y j)+(sumTo k (termA (p.r i) (atQ y i) j)+termA (p.r i) (atQ y i) j k); rw [HZ.o j hj,Rat.add_zero])),HE.o.2⟩
       ·go_wp2;go_roundg (tl - (k+1));case measure=>omega
        case rel=>exact ⟨k+1,by omega,rfl,by go_num,HE.o.1.congr (fun j hj=>(by show _=sumTo i (rowA p y j)+(sumTo k (termA (p.r i) (atQ y i) j)+termA (p.r i) (atQ y i) j k); rw [HZ.o j hj,Rat.add_zero])),HE.o.2⟩
     ·obtain rfl:k=tl:=(by omega);have HW:=bH (bI harr hx);clear harr hx;go_wp2;go_roundg (m - (i+1));case measure=>omega
      case rel=>exact ⟨i+1,by omega,rfl,by go_num,HW.o.1.congr (fun j hj=>(by show _=sumTo i (rowA p y j)+rowA p y j i; unfold rowA; rw [HTL.o])),HW.o.2⟩
  ·obtain rfl:i=m:=(by omega);have HX:=bH (bI harr hx);clear harr hx;have z1:=cell_keep (cellq HB.o.1 1 rfl) HX.o.2;go_wp2_with fail;refine (HS.o wr HX.o.2).mono ?_;rintro r2 w2' ⟨v2,rfl,h2,hx2⟩;obtain ⟨ng,sa,sn,sc,ta,tn,tc,rfl⟩:=h2.shape;have hr3:=(HB.o.2.2.1.keep HX.o.2).keep hx2;obtain ⟨d0,d1,d2,d3,d4,d5⟩:=hr3.facts;have hp:=hr3.put (neg:=ng) (no_int sa sn sc) (no_int ta tn tc);have harr9:=(HX.o.1.keep hx2);have hne:¬ B=pb+1+1:=(by omega);have HP:=bH (bI hp (bI (hp.rat h2) (bI ((HB.o.2.2.2.trans (HX.o.2.trans hx2)).own hp.ext (fun k e=>by omega)) (harr9.past hp.ext hne hp.rds))));clear h2 hr3 hx2 hp harr9 HS;go_wp2;generalize (((w2'.setCell ⟨pb+1+1,0,none⟩ (.bool ng)).setCell ⟨pb+1+1,1,none⟩ (.slice sa sn sc)).setCell ⟨pb+1+1,2,none⟩ (.slice ta tn tc))=w9 at *;obtain ⟨g0,g1,g2,_⟩:=HP.o.1.box.facts;refine bodyPost_ret (v:=.tuple #[.slice (some ⟨B,0,none⟩) n n,.agg #[.bool ng,.slice sa sn sc,.slice ta tn tc]]) (by simp [results,Tryz.results111,go_sem,g0,g1,g2]) rfl ⟨B,_,rfl,by omega,HP.o.2.2.2.congr (fun j hj=>(combA_eq p y j).symm ▸ HN.o ▸ rfl),HP.o.2.1,HP.o.2.2.1⟩
theorem Tryz.infoInt:(Tryz.prog.info? 3).map (fun i=>(i.zero,i.size,i.bytes))=some (some (.int .i64 0),1,8):=by kernel_rfl
theorem dot_sz {ts:List TermV} {x:List Rat} {L T:Nat} (ht:∀ k,k<ts.length->TermOk (ts.getD k term0)) (hx:∀ i:Int,Sz (atQ x i) L) (hT:ts.length<=T):Sz (dotQ ts x) (1+T*(L+3)) :=
 (sumTo_sz (M:=L+2) (fun k hk=>((Sz.int (ht k hk).coef).mul (hx _)).mono (by omega))).mono (by
  have:=Nat.mul_le_mul_right (L+3) hT;show 1+ts.length*(L+3)<=_;omega)
theorem Rws.term_ok {p:ProgV} {w:World} {v:Value} (h:Rws w v p.rows) {i:Nat} (hi:i<p.rows.length):∀ k,k<(p.r i).terms.length->TermOk ((p.r i).t k):=fun k hk=>by
 obtain ⟨ao,c,rfl,_⟩:=h.shape;obtain ⟨_,_,_,_,_,_,_,_,_,_,_,_,ht⟩:=h.atp i hi;exact ht.ok k hk
end Go.Proofs.YtjaldknfeojjkaaGreat
namespace Go.Proofs
open Go.Shelf
def Tryz.laysGw17_ren:Go.Shelf.Ren:=⟨fun | 17=>108 | 15=>163 | 20=>208 | n=>n,fun | 9=>9 | 23=>133 | 4=>4 | 3=>3 | 0=>0 | 21=>21 | n=>n,fun | n=>n⟩
theorem Tryz.laysGw17:Go.Proofs.LaysGw.n17 Tryz.prog Tryz.laysGw17_ren:={
 mixed:=by kernel_rfl
 f15:=Tryz.func163.trans (congrArg some (by kernel_rfl))
 f17:=Tryz.func108.trans (congrArg some (by kernel_rfl))
 f20:=Tryz.func208.trans (congrArg some (by kernel_rfl))
 t0:=Tryz.underlying0
 a0:=Tryz.isAgg0
 z0:=Tryz.sizeOf0
 v0:=Tryz.zeroValue0
 i0:=by kernel_rfl
 t3:=Tryz.underlying3
 a3:=Tryz.isAgg3
 z3:=Tryz.sizeOf3
 v3:=Tryz.zeroValue3
 i3:=by kernel_rfl
 t4:=Tryz.underlying4
 a4:=Tryz.isAgg4
 z4:=Tryz.sizeOf4
 v4:=Tryz.zeroValue4
 i4:=by kernel_rfl
 t9:=Tryz.underlying9
 a9:=Tryz.isAgg9
 z9:=Tryz.sizeOf9
 v9:=Tryz.zeroValue9
 i9:=by kernel_rfl
 t21:=Tryz.underlying21
 a21:=Tryz.isAgg21
 z21:=Tryz.sizeOf21
 v21:=Tryz.zeroValue21
 i21:=by kernel_rfl
 t23:=Tryz.underlying133
 a23:=Tryz.isAgg133
 z23:=Tryz.sizeOf133
 v23:=Tryz.zeroValue133
 i23:=by kernel_rfl }
open Go.RowKit Go.Lib in
theorem Tryz.strings_ContainsFunc (g:Nat) (lb:Array Value) (eg:∀ args w,(callFunc g args).run Tryz.prog w=.ok (.enter g args) w) (p:Nat->Bool) (s:ByteArray) (w:World) (hp:PredAt Tryz.prog g lb encR p w) :
  Calls Tryz.prog 108 #[.string s,.func (.func g) #[] lb] w fun e w'=>e=.returned (.bool (decide (0<=Lib.idxFunc p true s)))/\Below w.heap.size w w':=Any.strings_ContainsFunc Tryz.laysGw17 g lb eg p s w hp
def Tryz.laysNm215_ren:Go.Shelf.Ren:=⟨fun | 15=>78 | n=>n,fun | 22=>27 | 3=>3 | 4=>4 | n=>n,fun | n=>n⟩
theorem Tryz.laysNm215:Go.Proofs.Lays2.n15 Tryz.prog Tryz.laysNm215_ren:={
 mixed:=by kernel_rfl
 f15:=Tryz.func78.trans (congrArg some (by kernel_rfl))
 t3:=Tryz.underlying3
 a3:=Tryz.isAgg3
 z3:=Tryz.sizeOf3
 v3:=Tryz.zeroValue3
 t4:=Tryz.underlying4
 a4:=Tryz.isAgg4
 z4:=Tryz.sizeOf4
 v4:=Tryz.zeroValue4
 t22:=Tryz.underlying27
 a22:=Tryz.isAgg27
 z22:=Tryz.sizeOf27
 v22:=Tryz.zeroValue27
 i3:=by kernel_rfl }
open Go.RowKit Go.Lib in
theorem Tryz.slices_Clone_int (b off n c:Nat) (zs:List Int) (w:World) (hz:n<=zs.length) (hbig:n*8<=140737488355328) (hc:∀ j,j<zs.length->w.cell? ⟨b,off+j,none⟩=some (.int .i64 (zs.getD j 0))) :
  Calls Tryz.prog 78 #[.slice (some ⟨b,off,none⟩) n c] w fun e w'=>∃ v',e=.returned v'/\w'.ownsRow w.heap.size 3 1 v' n ((zs.take n).map (Value.int .i64))/\v'≠.slice none 0 0/\Below w.heap.size w w':=Any.slices_Clone_int Tryz.laysNm215 b off n c zs w hz hbig hc
def Tryz.laysSlH8_f105_ren:Go.Shelf.Ren:=⟨fun | 8=>105 | 6=>162 | n=>n,fun | 22=>85 | 23=>2 | 25=>77 | 4=>4 | 3=>3 | 0=>0 | n=>n,fun | n=>n⟩
theorem Tryz.laysSlH8_f105:Go.Proofs.SlLaysH.n8 Tryz.prog Tryz.laysSlH8_f105_ren:={
 mixed:=by kernel_rfl
 f6:=⟨Tryz.f162.name,by decide,Tryz.func162.trans (congrArg some (by kernel_rfl))⟩
 f8:=⟨Tryz.f105.name,by decide,Tryz.func105.trans (congrArg some (by kernel_rfl))⟩
 t0:=Tryz.underlying0
 a0:=Tryz.isAgg0
 z0:=Tryz.sizeOf0
 v0:=Tryz.zeroValue0
 t3:=Tryz.underlying3
 a3:=Tryz.isAgg3
 z3:=Tryz.sizeOf3
 v3:=Tryz.zeroValue3
 t4:=Tryz.underlying4
 a4:=Tryz.isAgg4
 z4:=Tryz.sizeOf4
 v4:=Tryz.zeroValue4
 t22:=Tryz.underlying85
 a22:=Tryz.isAgg85
 z22:=Tryz.sizeOf85
 v22:=Tryz.zeroValue85
 a23:=Tryz.isAgg2
 z23:=Tryz.sizeOf2
 t25:=Tryz.underlying77
 a25:=Tryz.isAgg77
 z25:=Tryz.sizeOf77
 v25:=Tryz.zeroValue77 }
open Go.RowKit Go.Lib in
theorem Tryz.slices_ContainsFunc {α:Type} [Inhabited α] (enc:α->Value) (p:α->Bool) (g:Nat) (lb:Array Value) (eg:∀ args w,(callFunc g args).run Tryz.prog w=.ok (.enter g args) w) (b off n c:Nat) (zs:List α) (w:World) (hp:PredAt Tryz.prog g lb enc p w) (hz:n<=zs.length) (hbig:n<=9223372036854775807) (hc:∀ j,j<zs.length->w.cell? ⟨b,off+j,none⟩=some (enc zs[j]!)) :
  Calls Tryz.prog 105 #[.slice (some ⟨b,off,none⟩) n c,.func (.func g) #[] lb] w fun e w'=>e=.returned (.bool ((zs.take n).any p))/\∃ q,w'=w.drewN q:=AnyE.slices_ContainsFunc Tryz.laysSlH8_f105 enc p g lb eg b off n c zs w hp hz hbig hc
def Tryz.laysRow8_ren:Go.Shelf.Ren:=⟨fun | 8=>58 | 6=>107 | n=>n,fun | 22=>23 | 23=>35 | 25=>94 | 4=>4 | 3=>3 | 0=>0 | n=>n,fun | n=>n⟩
theorem Tryz.laysRow8:Go.Proofs.SlLaysH0.n8 Tryz.prog Tryz.laysRow8_ren:={
 mixed:=by kernel_rfl
 f6:=⟨Tryz.f107.name,by decide,Tryz.func107.trans (congrArg some (by kernel_rfl))⟩
 f8:=⟨Tryz.f58.name,by decide,Tryz.func58.trans (congrArg some (by kernel_rfl))⟩
 t0:=Tryz.underlying0
 a0:=Tryz.isAgg0
 z0:=Tryz.sizeOf0
 v0:=Tryz.zeroValue0
 t3:=Tryz.underlying3
 a3:=Tryz.isAgg3
 z3:=Tryz.sizeOf3
 v3:=Tryz.zeroValue3
 t4:=Tryz.underlying4
 a4:=Tryz.isAgg4
 z4:=Tryz.sizeOf4
 v4:=Tryz.zeroValue4
 t22:=Tryz.underlying23
 a22:=Tryz.isAgg23
 z22:=Tryz.sizeOf23
 v22:=Tryz.zeroValue23
 t25:=Tryz.underlying94
 a25:=Tryz.isAgg94
 z25:=Tryz.sizeOf94
 v25:=Tryz.zeroValue94 }
end Go.Proofs
