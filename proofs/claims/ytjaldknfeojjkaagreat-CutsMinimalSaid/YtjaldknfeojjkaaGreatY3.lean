/-
  Texts of the proof, part 3. Conditions: each lemma names its own.
-/
import Derived.Test.YtjaldknfeojjkaaGreatY2
import Derived.Laws.BitsAllLaws
import Derived.Maps.RangeWalk
set_option linter.unusedVariables false
set_option linter.unusedSimpArgs false
set_option maxRecDepth 100000
set_option maxHeartbeats 16000000
namespace Go.Proofs.YtjaldknfeojjkaaGreat
open Go.RowKit Go.MapKept
open Go.ChangeMaps (setBlock)
theorem mkRat_one (z:Int):mkRat z 1=(z:Rat):=by
 have h:=Rat.mkRat_self (z:Rat)
 rwa [Rat.num_intCast,Rat.den_intCast] at h
theorem rat_int {neg:Bool} {l d:List Nat} (h:d.length=0):mkRat (sg neg (vl l)) (dn (vl d))=((sg neg (vl l):Int):Rat):=by
 rw [List.eq_nil_of_length_eq_zero h]; exact mkRat_one _
theorem radd_any (w:World) (v v':Value) (q q':Rat) (L:Nat) (h:Rrat w v q L) (h':Rrat w v' q' L) (h0:1<=L) (hL:L<=4194304) :
  Calls Tryz.prog 117 #[v,v'] w (RatPost w (q+q')):=by
 have HC:=bH (fun W (hW:XF w W)=>cross_add W v v' q q' L (h.keep hW) (h'.keep hW) h0 hL)
 obtain ⟨n1,a1,l1,c1,x1,y1,k1,l,d,rfl,hr,hd,hm,hdl,hq⟩:=h.open
 obtain ⟨n2,a2,l2,c2,x2,y2,k2,l',d',rfl,hr',hd',hm',hdl',hq'⟩:=h'.open
 have HI:=bH (fun W (hW:XF w W)=>iadd_any W _ _ _ _ L (hr.keep hW) (hr'.keep hW) (by omega))
 have hof:=fun W neg mag (hz:y1=0/\y2=0) (h:IsInt W (.agg #[.bool neg,mag]) (sg n1 (vl l)+sg n2 (vl l')))=>IsRat.ofInt h
 have he:y1=0/\y2=0->((sg n1 (vl l)+sg n2 (vl l'):Int):Rat)=q+q':=fun hz=>by
  rw [hq,hq',rat_int (by omega),rat_int (by omega),Rat.intCast_add]
 have Hof:=bH (fun W neg mag (hz:y1=0/\y2=0) (h:IsInt W (.agg #[.bool neg,mag]) (sg n1 (vl l)+sg n2 (vl l')))=>(he hz) ▸ IsRat.ofInt h)
 have b1l:y1<=4194304:=by omega
 have b2l:y2<=4194304:=by omega
 clear hr hr' hd hd' hdl hdl' hq hq' h h' hof he hm hm'
 generalize q+q'=Q at *
 generalize sg n1 (vl l)+sg n2 (vl l')=Z at *
 go_enter Tryz.func117,Tryz.ntmps117
 go_upto_region 0 with fail
 go_cut [2,3,4] (fun v1 v2 v3 wx=>∃ b1 b2 r,v1=.pointer (some ⟨b1,0,none⟩)/\v2=.pointer (some ⟨b2,0,none⟩)/\v3=.pointer (some ⟨r,0,none⟩)/\BoxR wx b1 n1 (.slice a1 l1 c1) (.slice x1 y1 k1)/\BoxR wx b2 n2 (.slice a2 l2 c2) (.slice x2 y2 k2)/\BoxR wx r false (.slice none 0 0) (.slice none 0 0)/\b1<r/\b2<r/\w.heap.size<=r/\XF w wx)
 case first =>
  go_wp2
  go_meet
  exact ⟨_,_,_,rfl,rfl,rfl,((boxR_new rfl n1 a1 l1 c1 x1 y1 k1).alloc _).alloc _,(boxR_new (by simp) n2 a2 l2 c2 x2 y2 k2).alloc _,boxR_new (by simp) false none 0 0 none 0 0,(by omega),(by omega),(by omega),(((Ext.refl _ w).alloc _).alloc _).alloc _⟩
 case rest =>
  obtain ⟨b1,b2,r,rfl,rfl,rfl,hb1,hb2,hrb,i1,i2,hle,hx⟩:=hcut
  obtain ⟨c0,c1',c2',_⟩:=hb1.facts
  obtain ⟨e0,e1,e2,_⟩:=hb2.facts
  have HB:=bH (bI hrb hx)
  clear hb1 hb2 hrb hx
  by_cases hz:y1=0/\y2=0
  ·obtain ⟨rfl,rfl⟩:=hz
   have HI1:=bH (HI.out wc HB.out.2)
   go_wp2_with fail
   refine HI1.out.mono ?_
   rintro q4 w14 ⟨v14,rfl,h14,hx14⟩
   obtain ⟨ng,sa,sn,sc,rfl⟩:=h14.shape
   have hr4:=HB.out.1.ext hx14 id
   obtain ⟨d0,d1,d2,d3,d4,d5⟩:=hr4.facts
   have hp:=hr4.put (neg:=ng) (no_int sa sn sc) (no_int none 0 0)
   have HR:=bH (bI (hp.rat (Hof.out _ _ _ (by simp) h14)) (bI ((HB.out.2.trans hx14).own hp.ext (fun k e=>by omega)) hp.box))
   clear hp hr4 h14 hx14
   go_wp2
   generalize ((w14.setCell ⟨r,0,none⟩ (.bool ng)).setCell ⟨r,1,none⟩ (.slice sa sn sc)).setCell ⟨r,2,none⟩ (.slice none 0 0)=w20 at *
   obtain ⟨g0,g1,g2,_⟩:=HR.out.2.2.facts
   exact bodyPost_ret (v:=.agg #[.bool ng,.slice sa sn sc,.slice none 0 0]) (by simp [results,Tryz.results117,go_sem,g0,g1,g2]) rfl ⟨_,rfl,HR.out.1,HR.out.2.1⟩
  ·have hzi:¬ (y1:Int)+y2=0:=by omega
   have hzb:((y1:Int)+y2 == 0)=false:=by simpa using hzi
   have hCC:=bH (HC.out wc HB.out.2)
   have Hz:=bH hz
   clear hz
   go_wp2_with fail
   refine hCC.out.mono ?_
   rintro q4 w14 ⟨v14,rfl,h14,hx14⟩
   obtain ⟨ng,sa,sn,sc,ta,tn,tc,rfl⟩:=h14.shape
   have hr4:=HB.out.1.ext hx14 id
   obtain ⟨d0,d1,d2,d3,d4,d5⟩:=hr4.facts
   have hp:=hr4.put (neg:=ng) (no_int sa sn sc) (no_int ta tn tc)
   have HR:=bH (bI (hp.rat h14) (bI ((HB.out.2.trans hx14).own hp.ext (fun k e=>by omega)) hp.box))
   clear hp hr4 h14 hx14
   go_wp2
   generalize ((w14.setCell ⟨r,0,none⟩ (.bool ng)).setCell ⟨r,1,none⟩ (.slice sa sn sc)).setCell ⟨r,2,none⟩ (.slice ta tn tc)=w20 at *
   obtain ⟨g0,g1,g2,_⟩:=HR.out.2.2.facts
   exact bodyPost_ret (v:=.agg #[.bool ng,.slice sa sn sc,.slice ta tn tc]) (by simp [results,Tryz.results117,go_sem,g0,g1,g2]) rfl ⟨_,rfl,HR.out.1,HR.out.2.1⟩
theorem rmul_any (w:World) (v v':Value) (q q':Rat) (L:Nat) (h:Rrat w v q L) (h':Rrat w v' q' L) (h0:1<=L) (hL:L<=4194304) :
  Calls Tryz.prog 116 #[v,v'] w (RatPost w (q*q')):=by
 have HC:=bH (fun W (hW:XF w W)=>cross_mul W v v' q q' L (h.keep hW) (h'.keep hW) h0 hL)
 obtain ⟨n1,a1,l1,c1,x1,y1,k1,l,d,rfl,hr,hd,hm,hdl,hq⟩:=h.open
 obtain ⟨n2,a2,l2,c2,x2,y2,k2,l',d',rfl,hr',hd',hm',hdl',hq'⟩:=h'.open
 have HI:=bH (fun W (hW:XF w W)=>imul_any W _ _ _ _ L (hr.keep hW) (hr'.keep hW) (by omega))
 have hof:=fun W neg mag (hz:y1=0/\y2=0) (h:IsInt W (.agg #[.bool neg,mag]) (sg n1 (vl l)*sg n2 (vl l')))=>IsRat.ofInt h
 have he:y1=0/\y2=0->((sg n1 (vl l)*sg n2 (vl l'):Int):Rat)=q*q':=fun hz=>by
  rw [hq,hq',rat_int (by omega),rat_int (by omega),Rat.intCast_mul]
 have Hof:=bH (fun W neg mag (hz:y1=0/\y2=0) (h:IsInt W (.agg #[.bool neg,mag]) (sg n1 (vl l)*sg n2 (vl l')))=>(he hz) ▸ IsRat.ofInt h)
 have b1l:y1<=4194304:=by omega
 have b2l:y2<=4194304:=by omega
 clear hr hr' hd hd' hdl hdl' hq hq' h h' hof he hm hm'
 generalize q*q'=Q at *
 generalize sg n1 (vl l)*sg n2 (vl l')=Z at *
 go_enter Tryz.func116,Tryz.ntmps116
 go_upto_region 0 with fail
 go_cut [2,3,4] (fun v1 v2 v3 wx=>∃ b1 b2 r,v1=.pointer (some ⟨b1,0,none⟩)/\v2=.pointer (some ⟨b2,0,none⟩)/\v3=.pointer (some ⟨r,0,none⟩)/\BoxR wx b1 n1 (.slice a1 l1 c1) (.slice x1 y1 k1)/\BoxR wx b2 n2 (.slice a2 l2 c2) (.slice x2 y2 k2)/\BoxR wx r false (.slice none 0 0) (.slice none 0 0)/\b1<r/\b2<r/\w.heap.size<=r/\XF w wx)
 case first =>
  go_wp2
  go_meet
  exact ⟨_,_,_,rfl,rfl,rfl,((boxR_new rfl n1 a1 l1 c1 x1 y1 k1).alloc _).alloc _,(boxR_new (by simp) n2 a2 l2 c2 x2 y2 k2).alloc _,boxR_new (by simp) false none 0 0 none 0 0,(by omega),(by omega),(by omega),(((Ext.refl _ w).alloc _).alloc _).alloc _⟩
 case rest =>
  obtain ⟨b1,b2,r,rfl,rfl,rfl,hb1,hb2,hrb,i1,i2,hle,hx⟩:=hcut
  obtain ⟨c0,c1',c2',_⟩:=hb1.facts
  obtain ⟨e0,e1,e2,_⟩:=hb2.facts
  have HB:=bH (bI hrb hx)
  clear hb1 hb2 hrb hx
  by_cases hz:y1=0/\y2=0
  ·obtain ⟨rfl,rfl⟩:=hz
   have HI1:=bH (HI.out wc HB.out.2)
   go_wp2_with fail
   refine HI1.out.mono ?_
   rintro q4 w14 ⟨v14,rfl,h14,hx14⟩
   obtain ⟨ng,sa,sn,sc,rfl⟩:=h14.shape
   have hr4:=HB.out.1.ext hx14 id
   obtain ⟨d0,d1,d2,d3,d4,d5⟩:=hr4.facts
   have hp:=hr4.put (neg:=ng) (no_int sa sn sc) (no_int none 0 0)
   have HR:=bH (bI (hp.rat (Hof.out _ _ _ (by simp) h14)) (bI ((HB.out.2.trans hx14).own hp.ext (fun k e=>by omega)) hp.box))
   clear hp hr4 h14 hx14
   go_wp2
   generalize ((w14.setCell ⟨r,0,none⟩ (.bool ng)).setCell ⟨r,1,none⟩ (.slice sa sn sc)).setCell ⟨r,2,none⟩ (.slice none 0 0)=w20 at *
   obtain ⟨g0,g1,g2,_⟩:=HR.out.2.2.facts
   exact bodyPost_ret (v:=.agg #[.bool ng,.slice sa sn sc,.slice none 0 0]) (by simp [results,Tryz.results116,go_sem,g0,g1,g2]) rfl ⟨_,rfl,HR.out.1,HR.out.2.1⟩
  ·have hzi:¬ (y1:Int)+y2=0:=by omega
   have hzb:((y1:Int)+y2 == 0)=false:=by simpa using hzi
   have hCC:=bH (HC.out wc HB.out.2)
   have Hz:=bH hz
   clear hz
   go_wp2_with fail
   refine hCC.out.mono ?_
   rintro q4 w14 ⟨v14,rfl,h14,hx14⟩
   obtain ⟨ng,sa,sn,sc,ta,tn,tc,rfl⟩:=h14.shape
   have hr4:=HB.out.1.ext hx14 id
   obtain ⟨d0,d1,d2,d3,d4,d5⟩:=hr4.facts
   have hp:=hr4.put (neg:=ng) (no_int sa sn sc) (no_int ta tn tc)
   have HR:=bH (bI (hp.rat h14) (bI ((HB.out.2.trans hx14).own hp.ext (fun k e=>by omega)) hp.box))
   clear hp hr4 h14 hx14
   go_wp2
   generalize ((w14.setCell ⟨r,0,none⟩ (.bool ng)).setCell ⟨r,1,none⟩ (.slice sa sn sc)).setCell ⟨r,2,none⟩ (.slice ta tn tc)=w20 at *
   obtain ⟨g0,g1,g2,_⟩:=HR.out.2.2.facts
   exact bodyPost_ret (v:=.agg #[.bool ng,.slice sa sn sc,.slice ta tn tc]) (by simp [results,Tryz.results116,go_sem,g0,g1,g2]) rfl ⟨_,rfl,HR.out.1,HR.out.2.1⟩
theorem Sz.neg {q:Rat} {L:Nat} (h:Sz q L):Sz (-q) L:=⟨by rw [Rat.neg_num,Int.natAbs_neg]; exact h.1,by rw [Rat.neg_den]; exact h.2⟩
theorem sz_mkRat {z:Int} {y L M:Nat} (hy:0<y) (hz:(dg z.natAbs).length<=L) (hd:(dg y).length<=L) (hM:L<=M):Sz (mkRat z y) M:=by
 have hg:0<y.gcd z.natAbs:=Nat.gcd_pos_of_pos_left _ hy
 obtain ⟨k,h1,h2,_⟩:=div_gcd hg (Nat.gcd_dvd_right y z.natAbs)
 constructor
 ·rw [Rat.num_mkRat,if_neg (by omega),h2]
  refine Nat.le_trans (dg_mono ?_) (Nat.le_trans hz hM)
  rw [h1,Int.natAbs_mul,Int.natAbs_natCast]
  exact Nat.le_mul_of_pos_left _ hg
 ·rw [Rat.den_mkRat,if_neg (by omega)]
  exact Nat.le_trans (dg_mono (Nat.div_le_self _ _)) (Nat.le_trans hd hM)
theorem Rrat.sz {w:World} {v:Value} {q:Rat} {L:Nat} (h:Rrat w v q L) (h0:1<=L):Sz q L:=by
 obtain ⟨n1,a1,l1,c1,x1,y1,k1,l,d,rfl,hr,hd,hm,hdl,hq⟩:=h.open
 rw [hq]
 exact sz_mkRat (dn_pos _) hr.len (dn_len hd hdl h0) (Nat.le_refl _)
theorem Rrat.mono {w:World} {v:Value} {q:Rat} {L M:Nat} (h:Rrat w v q L) (hl:L<=M):Rrat w v q M:=by
 obtain ⟨neg,mag,dv',l,d,h1,h2,h3,h4,h5,h6⟩:=h
 exact ⟨neg,mag,dv',l,d,h1,h2,Nat.le_trans h3 hl,h4,Nat.le_trans h5 hl,h6⟩
theorem rsub_any (w:World) (v v':Value) (q q':Rat) (L:Nat) (h:Rrat w v q L) (h':Rrat w v' q' L) (h0:1<=L) (hL:L<=4194304) :
  Calls Tryz.prog 115 #[v,v'] w (RatPost w (q - q')):=by
 have HN:=bH (fun W (hW:XF w W)=>rneg_any W v' q' L (h'.keep hW) h0 hL)
 have hsz:=(h'.sz h0).neg
 have HA:=bH (fun W (hW:XF w W) u (hu:IsRat W u (-q'))=>radd_any W v u q (-q') L (h.keep hW) (hu.reads hsz) h0 hL)
 rw [<- Rat.sub_eq_add_neg] at HA
 obtain ⟨n1,a1,l1,c1,x1,y1,k1,l,d,rfl,hr,hd,hm,hdl,hq⟩:=h.open
 obtain ⟨n2,a2,l2,c2,x2,y2,k2,l',d',rfl,hr',hd',hm',hdl',hq'⟩:=h'.open
 clear hr hr' hd hd' hdl hdl' hq hq' h h' hm hm' hsz
 go_enter Tryz.func115,Tryz.ntmps115
 go_upto_region 0 with fail
 go_cut [2,3,4] (fun v1 v2 v3 wx=>∃ b1 b2 r,v1=.pointer (some ⟨b1,0,none⟩)/\v2=.pointer (some ⟨b2,0,none⟩)/\v3=.pointer (some ⟨r,0,none⟩)/\BoxR wx b1 n1 (.slice a1 l1 c1) (.slice x1 y1 k1)/\BoxR wx b2 n2 (.slice a2 l2 c2) (.slice x2 y2 k2)/\BoxR wx r false (.slice none 0 0) (.slice none 0 0)/\b1<r/\b2<r/\w.heap.size<=r/\XF w wx)
 case first =>
  go_wp2
  go_meet
  exact ⟨_,_,_,rfl,rfl,rfl,((boxR_new rfl n1 a1 l1 c1 x1 y1 k1).alloc _).alloc _,(boxR_new (by simp) n2 a2 l2 c2 x2 y2 k2).alloc _,boxR_new (by simp) false none 0 0 none 0 0,(by omega),(by omega),(by omega),(((Ext.refl _ w).alloc _).alloc _).alloc _⟩
 case rest =>
  obtain ⟨b1,b2,r,rfl,rfl,rfl,hb1,hb2,hrb,i1,i2,hle,hx⟩:=hcut
  have hS:=SR2.of hb1 hb2
  have HB:=bH (bI hb1 (bI hb2 (bI hrb hx)))
  clear hb1 hb2 hrb hx
  go_upto_region 1 with fail
  go_region_held3 (SR2 b1 b2 n1 n2 (.slice a1 l1 c1) (.slice x1 y1 k1) (.slice a2 l2 c2) (.slice x2 y2 k2))
   (repeat (first | (with_reducible assumption) | (with_reducible refine SR2.drew ?_) | (with_reducible refine SR2.set ?_ _ _ ?_ ?_) | (dsimp only; omega)))
   (first
    | (go_at_call 166; (with_reducible refine (HN.out _ HB.out.2.2.2.drew).mono ?_); rintro q1 w11 ⟨v11,rfl,h11,hx11⟩; have hX1:=(Ext.refl (fun _=>False) wc).drew.trans hx11; have hK1:=SR2.of (HB.out.1.ext hX1 id) (HB.out.2.1.ext hX1 id); have hA:=HA.out w11 (HB.out.2.2.2.trans hX1) _ h11; obtain ⟨ng1,sa1,sn1,sc1,ta1,tn1,tc1,rfl⟩:=h11.shape)
    | (go_at_call 117; (with_reducible refine hA.mono ?_); rintro q4 w14 ⟨v14,rfl,h14,hx14⟩; have hX4:=hX1.trans hx14; have hK4:=SR2.of (HB.out.1.ext hX4 id) (HB.out.2.1.ext hX4 id); have hr4:=HB.out.2.2.1.ext hX4 id; obtain ⟨d0,d1,d2,d3,d4,d5⟩:=hr4.facts; obtain ⟨ng,sa,sn,sc,ta,tn,tc,rfl⟩:=h14.shape))
  have hp:=hr4.put (neg:=ng) (no_int sa sn sc) (no_int ta tn tc)
  have HR:=bH (bI (hp.rat h14) (bI ((HB.out.2.2.2.trans hX4).own hp.ext (fun k e=>by omega)) hp.box))
  clear hp hr4 h11 h14 hx11 hx14 hX1 hX4 hK1 hK4 hS hA d0 d1 d2 d3 d4 d5
  generalize ((w14.setCell ⟨r,0,none⟩ (.bool ng)).setCell ⟨r,1,none⟩ (.slice sa sn sc)).setCell ⟨r,2,none⟩ (.slice ta tn tc)=w20 at *
  obtain ⟨g0,g1,g2,_⟩:=HR.out.2.2.facts
  go_wp2
  exact bodyPost_ret (v:=.agg #[.bool ng,.slice sa sn sc,.slice ta tn tc]) (by simp [results,Tryz.results115,go_sem,g0,g1,g2]) rfl ⟨_,rfl,HR.out.1,HR.out.2.1⟩
theorem rcmp_any (w:World) (v v':Value) (q q':Rat) (L:Nat) (h:Rrat w v q L) (h':Rrat w v' q' L) (h0:1<=L) (hL:L<=4194304) :
  Calls Tryz.prog 74 #[v,v'] w fun r w'=>r=.returned (.int .i64 (q - q').num.sign)/\XF w w':=by
 obtain ⟨n1,a1,l1,c1,x1,y1,k1,l,d,rfl,hr,hd,hm,hdl,hq⟩:=h.open
 obtain ⟨n2,a2,l2,c2,x2,y2,k2,l',d',rfl,hr',hd',hm',hdl',hq'⟩:=h'.open
 clear hm hm'
 have HD1:=bH (fun W (hW:XF w W)=>den_any W _ n1 a1 l1 c1 x1 y1 k1 d L rfl (hd.keep hW) hdl (by omega) h0)
 have HD2:=bH (fun W (hW:XF w W)=>den_any W _ n2 a2 l2 c2 x2 y2 k2 d' L rfl (hd'.keep hW) hdl' (by omega) h0)
 have HM1:=bH (fun W (hW:XF w W) u hu=>imul_any W _ u _ (dn (vl d'):Nat) L (hr.keep hW) hu (by omega))
 have HM2:=bH (fun W (hW:XF w W) u hu=>imul_any W _ u _ (dn (vl d):Nat) L (hr'.keep hW) hu (by omega))
 have hdl1:(dg (((dn (vl d):Nat):Int)).natAbs).length<=L:=by rw [Int.natAbs_natCast]; exact dn_len hd hdl h0
 have hdl2:(dg (((dn (vl d'):Nat):Int)).natAbs).length<=L:=by rw [Int.natAbs_natCast]; exact dn_len hd' hdl' h0
 have hz1:=len_mul hr.len hdl2
 have hz2:=len_mul hr'.len hdl1
 have HC:=bH (fun W u u' (hu:IsInt W u (sg n1 (vl l)*((dn (vl d'):Nat):Int))) (hu':IsInt W u' (sg n2 (vl l')*((dn (vl d):Nat):Int)))=>icmp_any W u u' _ _ (L+L) (hu.reads hz1) (hu'.reads hz2) (by omega))
 have hres:(q - q').num.sign=(sg n1 (vl l)*((dn (vl d'):Nat):Int) - sg n2 (vl l')*((dn (vl d):Nat):Int)).sign:=by
  rw [hq,hq',Rat.sub_eq_add_neg,Rat.neg_mkRat,Rat.mkRat_add_mkRat _ _ (Nat.ne_of_gt (dn_pos _)) (Nat.ne_of_gt (dn_pos _)),sign_mkRat _ (Nat.mul_pos (dn_pos _) (dn_pos _)),Int.neg_mul,<- Int.sub_eq_add_neg]
 rw [hres]
 clear hr hr' hd hd' hdl hdl' hq hq' h h' hres hdl1 hdl2 hz1 hz2
 generalize sg n1 (vl l)*((dn (vl d'):Nat):Int)=Z1 at *
 generalize sg n2 (vl l')*((dn (vl d):Nat):Int)=Z2 at *
 generalize ((dn (vl d):Nat):Int)=D1 at *
 generalize ((dn (vl d'):Nat):Int)=D2 at *
 generalize (Z1 - Z2).sign=S at *
 go_enter Tryz.func74,Tryz.ntmps74
 go_upto_region 0 with fail
 go_cut [2,3] (fun v1 v2 wx=>∃ b1 b2,v1=.pointer (some ⟨b1,0,none⟩)/\v2=.pointer (some ⟨b2,0,none⟩)/\BoxR wx b1 n1 (.slice a1 l1 c1) (.slice x1 y1 k1)/\BoxR wx b2 n2 (.slice a2 l2 c2) (.slice x2 y2 k2)/\XF w wx)
 case first =>
  go_wp2
  go_meet
  exact ⟨_,_,rfl,rfl,(boxR_new rfl n1 a1 l1 c1 x1 y1 k1).alloc _,boxR_new (by simp) n2 a2 l2 c2 x2 y2 k2,((Ext.refl _ w).alloc _).alloc _⟩
 case rest =>
  obtain ⟨b1,b2,rfl,rfl,hb1,hb2,hx⟩:=hcut
  have hS:=SR2.of hb1 hb2
  have HB:=bH (bI hb1 (bI hb2 hx))
  clear hb1 hb2 hx
  go_upto_region 1 with fail
  go_region_held3 (SR2 b1 b2 n1 n2 (.slice a1 l1 c1) (.slice x1 y1 k1) (.slice a2 l2 c2) (.slice x2 y2 k2))
   (repeat (first | (with_reducible assumption) | (with_reducible refine SR2.drew ?_)))
   (first
    | (go_at_call 133; (with_reducible refine (HD2.out _ HB.out.2.2.drew).mono ?_); rintro q1 w11 ⟨v11,rfl,h11,hx11⟩; have hX1:=(Ext.refl (fun _=>False) wc).drew.trans hx11; have hK1:=SR2.of (HB.out.1.ext hX1 id) (HB.out.2.1.ext hX1 id); have hM1:=HM1.out w11 (HB.out.2.2.trans hX1) _ h11; obtain ⟨ng1,ag1,lg1,cg1,rfl⟩:=h11.shape)
    | (go_at_call 132; (with_reducible refine hM1.mono ?_); rintro q2 w12 ⟨v12,rfl,h12,hx12⟩; have hX2:=hX1.trans hx12; have hK2:=SR2.of (HB.out.1.ext hX2 id) (HB.out.2.1.ext hX2 id); obtain ⟨ng2,ag2,lg2,cg2,rfl⟩:=h12.shape)
    | (go_at_call 133; (with_reducible refine (HD1.out _ (HB.out.2.2.trans hX2)).mono ?_); rintro q3 w13 ⟨v13,rfl,h13,hx13⟩; have hX3:=hX2.trans hx13; have hK3:=SR2.of (HB.out.1.ext hX3 id) (HB.out.2.1.ext hX3 id); have hM2:=HM2.out w13 (HB.out.2.2.trans hX3) _ h13; obtain ⟨ng3,ag3,lg3,cg3,rfl⟩:=h13.shape)
    | (go_at_call 132; (with_reducible refine hM2.mono ?_); rintro q4 w14 ⟨v14,rfl,h14,hx14⟩; have hX4:=hX3.trans hx14; have hK4:=SR2.of (HB.out.1.ext hX4 id) (HB.out.2.1.ext hX4 id); have hC:=HC.out w14 _ _ (h12.keep (hx13.trans hx14)) h14; obtain ⟨ng4,ag4,lg4,cg4,rfl⟩:=h14.shape)
    | (go_at_call 131; (with_reducible refine hC.mono ?_); rintro q5 w15 ⟨rfl,hx15⟩; have hX5:=hX4.trans hx15; have hK5:=SR2.of (HB.out.1.ext hX5 id) (HB.out.2.1.ext hX5 id)))
  have HX:=bH (HB.out.2.2.trans hX5)
  clear h11 h12 h13 h14 hx11 hx12 hx13 hx14 hx15 hX1 hX2 hX3 hX4 hX5 hK1 hK2 hK3 hK4 hK5 hS hM1 hM2 hC
  go_wp2
  go_ret
  exact ⟨rfl,HX.out⟩
theorem Rdigit_any (w:World) (v:Value) (l:List Nat) (h:Rds w v l) (i:Nat) (hi:i<=9223372036854775807):Calls Tryz.prog 161 #[v,.int .i64 i] w fun r w'=>r=.returned (.int .u64 (dgt l i))/\w'=w:=by
 have h':=h
 obtain ⟨hd,ao,c,rfl,h1,h2,h3,h4⟩:=h'
 obtain ⟨m,hm⟩:∃ m,l.length=m:=⟨_,rfl⟩
 have hmx:m<=9223372036854775807:=by unfold maxLen at h2; omega
 by_cases hlt:i<l.length
 ·obtain ⟨b,off,rfl,hb,hc⟩:=h4 (by omega)
  have c0:=hc i l[i] (List.getElem?_eq_getElem hlt)
  unfold dv at c0
  rw [dgt_in hlt]
  have hdi:=hd.get i hlt
  rw [hm] at hlt ⊢
  clear hc h h3 h4
  generalize l[i]=d at *
  have i0:(0:Int)<=(i:Int):=by omega
  have i1:(i:Int)<(m:Int):=by omega
  have hw:IntKind.u64.wrap (d:Int)=d:=IntWalk.u64_in _ (by omega)
  go_enter Tryz.func161,Tryz.ntmps161
  go_wp2
  go_ret
  exact ⟨ret_int (by omega),rfl⟩
 ·rw [dgt_out (by omega)]
  rw [hm] at hlt ⊢
  have i1:(m:Int)<=(i:Int):=by omega
  clear h h3 h4
  go_enter Tryz.func161,Tryz.ntmps161
  go_wp2
  go_ret
  exact ⟨rfl,rfl⟩
def NatNew (w:World) (n:Nat) (r:Ending) (w':World):Prop:=∃ v,r=.returned v/\IsNat w' v n/\XF w w'/\∀ g,v.ownBlock=some g->w.heap.size<=g
theorem NatNew.post {w w':World} {n:Nat} {r:Ending} (h:NatNew w n r w'):NatPost w n r w':=h.imp fun _ h=>⟨h.1,h.2.1,h.2.2.1⟩
theorem Trim_new (w:World) (v:Value) (l:List Nat) (h:Rds w v l) (hl:l.length<=1073741824):Calls Tryz.prog 129 #[v] w (NatNew w (vl l)):=by
 have h':=h
 obtain ⟨hd,ao,c,rfl,h1,h2,h3,h4⟩:=h'
 obtain ⟨m,hm⟩:∃ m,l.length=m:=⟨_,rfl⟩
 have hmx:m<=1073741824:=by omega
 rw [hm] at h h1 h4 ⊢
 obtain ⟨i0,hi,hz0,hz1,hz2⟩:=info_parts Tryz.infoU32
 have Hi:=bH (bI hi (bI hz0 (bI hz1 hz2)))
 have H:=bH h
 have H4:=bH h4
 have Hm:=bH hm
 have Hd:=bH hd
 clear h h4 hm hd hi hz0 hz1 hz2 hl
 go_enter Tryz.func129,Tryz.ntmps129
 go_wp2_with fail
 go_loopg [3] m (fun g v3 wr=>∃ n:Nat,n<=m/\g=n/\v3=.int .i64 n/\wr=w/\∀ i,n<=i->(hi:i<l.length)->l[i]=0)
 case atStart=>exact ⟨m,Nat.le_refl _,rfl,rfl,rfl,fun i hi hl=>by have:=Hm.out; omega⟩
 case round =>
  obtain ⟨n,hn,hg,rfl,hwr,hz⟩:=hrel
  obtain rfl:=hg.symm
  obtain rfl:=hwr.symm
  by_cases h0:n=0∨∃ hlt:n - 1<l.length,l[n - 1]≠0
  ·have hT:=trim_take Hd.out (by have:=Hm.out; omega) hz h0
   have hx1:XF w (w.alloc (.cells #[] 129)):=(Ext.refl _ w).alloc _
   have hb1:blk (w.alloc (.cells #[] 129)) w.heap.size=some (.cells #[] 129 (0,0)):=blk_alloc_at _ _
   have HR:=bH ((H.out.head n hn).keep hx1).lies
   have HT:=bH hT
   have HX1:=bH hx1
   have HB1:=bH hb1
   have hlen:(l.take n).length=n:=by rw [List.length_take]; have:=Hm.out; omega
   have HL:=bH hlen
   have HV:Hid (∀ W,IsNat W=IsNat W):=bH (fun _=>rfl)
   have hni:(n:Int)<=(m:Int):=by omega
   have hnc:(n:Int)<=(c:Int):=by omega
   have H0:=bH h0
   clear hz hT hx1 hb1 hlen h0
   have hcase:n=0∨(0<n/\∃ b off dj,ao=some ⟨b,off,none⟩/\w.cell? ⟨b,off+(n - 1),none⟩=some (.int .u32 (dj:Nat))/\¬ dj=0):=by
    rcases H0.out with h | ⟨hlt,hne⟩
    ·exact .inl h
    ·rcases Nat.eq_zero_or_pos n with h | h
     ·exact .inl h
     ·obtain ⟨b,off,rfl,hb,hc⟩:=H4.out (by omega)
      exact .inr ⟨h,b,off,l[n - 1],rfl,hc (n - 1) _ (List.getElem?_eq_getElem hlt),hne⟩
   clear H0
   rcases hcase with rfl | ⟨hn0,b,off,dj,rfl,cj,hdj⟩
   ·cases ao with
    | none =>
     obtain rfl:=h3 rfl
     go_wp2_with (at_builtin; refine wpList_append_any rfl (.tmp 18) (.tmp 21) 60 rfl w.heap.size 129 i0 _ 1 4 Tryz.underlying60 Hi.out.1 Hi.out.2.1 Hi.out.2.2.1 Hi.out.2.2.2 rfl (by decide) _ 0 [] rfl (ownsRow_empty 1 (Nat.le_refl _) HB1.out) _ _ _ (fun _=>rfl) _ rfl (by rw [List.length_map,HL.out,Nat.mul_one]) HR.out (dv_one _) (by simp only [maxLen]; omega) (by omega) (by simp) ?_; intro v5 w5 hown5 hgrow5 hat5; have HO:Hid (NatNew w (vl l) (.returned v5) w5):=bH (by
      have ho:Own w5 w.heap.size v5 (l.take 0):=by unfold Own; rw [HL.out]; simpa using hown5
      have hr:=ho.rds (Hd.out.take _)
      rw [HT.out] at hr
      exact ⟨v5,rfl,hr,HX1.out.own ((Ext.refl (fun k=>w.heap.size=k) _).grown hgrow5 (fun k e _=>Option.some.inj e)) (fun k e=>Nat.le_of_eq e),ho.ge⟩); clear hown5 hgrow5 hat5)
     go_wp2
     go_ret
     exact HO.out
    | some ad =>
     go_wp2_with (at_builtin; refine wpList_append_any rfl (.tmp 18) (.tmp 21) 60 rfl w.heap.size 129 i0 _ 1 4 Tryz.underlying60 Hi.out.1 Hi.out.2.1 Hi.out.2.2.1 Hi.out.2.2.2 rfl (by decide) _ 0 [] rfl (ownsRow_empty 1 (Nat.le_refl _) HB1.out) _ _ _ (fun e=>by cases e) _ rfl (by rw [List.length_map,HL.out,Nat.mul_one]) HR.out (dv_one _) (by simp only [maxLen]; omega) (by omega) (by simp) ?_; intro v5 w5 hown5 hgrow5 hat5; have HO:Hid (NatNew w (vl l) (.returned v5) w5):=bH (by
      have ho:Own w5 w.heap.size v5 (l.take 0):=by unfold Own; rw [HL.out]; simpa using hown5
      have hr:=ho.rds (Hd.out.take _)
      rw [HT.out] at hr
      exact ⟨v5,rfl,hr,HX1.out.own ((Ext.refl (fun k=>w.heap.size=k) _).grown hgrow5 (fun k e _=>Option.some.inj e)) (fun k e=>Nat.le_of_eq e),ho.ge⟩); clear hown5 hgrow5 hat5)
     go_wp2
     go_ret
     exact HO.out
   ·obtain ⟨j,rfl⟩:∃ j,n=j+1:=⟨n - 1,by omega⟩
    rw [Nat.add_sub_cancel] at cj
    have hjm:(j:Int)<(m:Int):=by omega
    have p0:(0:Int)<((j+1:Nat):Int):=by omega
    have p1:((j+1:Nat):Int) - 1=j:=by omega
    have hz1:¬ (dj:Int)=0:=by omega
    go_wp2_with (at_builtin; refine wpList_append_any rfl (.tmp 18) (.tmp 21) 60 rfl w.heap.size 129 i0 _ 1 4 Tryz.underlying60 Hi.out.1 Hi.out.2.1 Hi.out.2.2.1 Hi.out.2.2.2 rfl (by decide) _ 0 [] rfl (ownsRow_empty 1 (Nat.le_refl _) HB1.out) _ _ _ (fun e=>by cases e) _ rfl (by rw [List.length_map,HL.out,Nat.mul_one]) HR.out (dv_one _) (by simp only [maxLen]; omega) (by omega) (by simp) ?_; intro v5 w5 hown5 hgrow5 hat5; have HO:Hid (NatNew w (vl l) (.returned v5) w5):=bH (by
     have ho:Own w5 w.heap.size v5 (l.take (j+1)):=by unfold Own; rw [HL.out]; simpa using hown5
     have hr:=ho.rds (Hd.out.take _)
     rw [HT.out] at hr
     exact ⟨v5,rfl,hr,HX1.out.own ((Ext.refl (fun k=>w.heap.size=k) _).grown hgrow5 (fun k e _=>Option.some.inj e)) (fun k e=>Nat.le_of_eq e),ho.ge⟩); clear hown5 hgrow5 hat5)
    go_wp2
    go_ret
    exact HO.out
  ·obtain ⟨j,rfl⟩:∃ j,n=j+1:=⟨n - 1,by
    rcases Nat.eq_zero_or_pos n with h | h
    ·exact absurd (.inl h) h0
    ·omega⟩
   have hj:j<l.length:=by have:=Hm.out; omega
   have hz0:l[j]=0:=by
    by_cases h:l[j]=0
    ·exact h
    ·exact absurd (.inr ⟨by omega,by simpa using h⟩) h0
   obtain ⟨b,off,rfl,hb,hc⟩:=H4.out (by omega)
   have c0:=hc j l[j] (List.getElem?_eq_getElem hj)
   unfold dv at c0
   rw [hz0] at c0
   have p0:(0:Int)<((j+1:Nat):Int):=by omega
   have p1:((j+1:Nat):Int) - 1=j:=by omega
   have Hz:=bH hz
   have Hz0:=bH hz0
   clear hc hz hz0 h0
   go_wp2
   go_roundg j
   case measure=>omega
   case rel=>exact ⟨j,by omega,rfl,by go_num,rfl,fun i hi hl=>by
    by_cases e:i=j
    ·subst e; exact Hz0.out
    ·exact Hz.out i (by omega) hl⟩
theorem Trim_any (w:World) (v:Value) (l:List Nat) (h:Rds w v l) (hl:l.length<=1073741824):Calls Tryz.prog 129 #[v] w (NatPost w (vl l)):=(Trim_new w v l h hl).mono fun _ _ h=>h.post
theorem Rfrom_any (w:World) (n:Nat) (hn:n<18446744073709551616):Calls Tryz.prog 104 #[.int .u64 n] w (NatPost w n):=by
 have hx1:XF w (w.alloc (.cells #[.int .u32 ((n:Int) % 4294967296),.int .u32 ((n:Int) / 4294967296)] 129)):=(Ext.refl _ w).alloc _
 have hr:Rds (w.alloc (.cells #[.int .u32 ((n:Int) % 4294967296),.int .u32 ((n:Int) / 4294967296)] 129)) (.slice (some ⟨w.heap.size,0,none⟩) 2 2) [n % 4294967296,n / 4294967296]:=by
  refine ⟨Dig.cons (by omega) (Dig.cons (by omega) Dig.nil),_,2,rfl,Nat.le_refl _,by unfold maxLen; omega,fun h=>(by cases h),fun _=>⟨_,0,rfl,by simp,fun i d hi=>?_⟩⟩
  have:=cells_new (w:=w) [.int .u32 ((n:Int) % 4294967296),.int .u32 ((n:Int) / 4294967296)] 129 rfl i (dv d) (by
   match i,hi with
   | 0,hi=>simp at hi ⊢; subst hi; simp [dv]
   | 1,hi=>simp at hi ⊢; subst hi; simp [dv]
   | i+2,hi=>simp at hi)
  rwa [Addr.add_lit] at this
 have hf:=Trim_any _ _ _ hr (by simp)
 rw [show vl [n % 4294967296,n / 4294967296]=n by simp [vl]; omega] at hf
 have H:=bH hf
 have HX:=bH hx1
 clear hf hr hx1
 go_enter Tryz.func104,Tryz.ntmps104
 go_wp2_with fail
 refine H.out.mono ?_
 rintro r w' ⟨v,rfl,h1,h2⟩
 have HP:Hid (NatPost w n (.returned v) w'):=bH ⟨v,rfl,h1,HX.out.trans h2⟩
 clear h1 h2
 go_wp2
 go_ret
 exact HP.out
theorem list_ext_dgt {a b:List Nat} (hl:a.length=b.length) (h:∀ j,j<a.length->dgt a j=dgt b j):a=b:=by
 apply List.ext_getElem hl
 intro i h1 h2
 have:=h i h1
 rwa [dgt_in h1,dgt_in h2] at this
theorem Same_any (w:World) (va vb:Value) (a b:List Nat) (ha:Rds w va a) (hb:Rds w vb b) (hal:a.length<=1073741824) (hbl:b.length<=1073741824) :
  Calls Tryz.prog 128 #[va,vb] w fun r w'=>r=.returned (.bool (decide (a=b)))/\XF w w':=by
 obtain ⟨ao,ac,rfl,_⟩:=id ha.2
 obtain ⟨bo,bc,rfl,_⟩:=id hb.2
 by_cases hl:a.length=b.length
 ·obtain ⟨m,hm⟩:∃ m,a.length=m:=⟨_,rfl⟩
  rw [<- hl,hm]
  have Ha:=bH ha
  have Hb:=bH hb
  have Hm:=bH (bI hm hl)
  have hml:m<=1073741824:=by omega
  clear ha hb hl hm hal hbl
  rw [Hm.out.1] at Ha
  rw [<- Hm.out.2,Hm.out.1] at Hb
  obtain ⟨D,hD⟩:∃ D,decide (a=b)=D:=⟨_,rfl⟩
  rw [hD]
  have HD:=bH hD
  clear hD
  go_enter Tryz.func128,Tryz.ntmps128
  go_wp2_with fail
  go_loopg [5] m (fun g v5 wr=>∃ i:Nat,i<=m/\g=m - i/\v5=.int .i64 i/\(∀ j,j<i->dgt a j=dgt b j)/\XF w wr)
  case atStart=>exact ⟨0,Nat.zero_le _,rfl,rfl,fun j hj=>absurd hj (Nat.not_lt_zero _),Ext.refl _ _⟩
  case round =>
   obtain ⟨i,hi,rfl,rfl,hs,hx⟩:=hrel
   by_cases him:i<m
   ·have hia:i<a.length:=by have:=Hm.out.1; omega
    have hib:i<b.length:=by have:=Hm.out.2; omega
    obtain ⟨b1,o1,rfl,_⟩:=Ha.out.base (by have:=Hm.out.1; omega)
    obtain ⟨b2,o2,rfl,_⟩:=Hb.out.base (by have:=Hm.out; omega)
    have c0:=(Ha.out.keep hx).at.2 i hia
    have c1:=(Hb.out.keep hx).at.2 i hib
    have Hs:=bH hs
    have HX:=bH hx
    have HXN:=bH (fun N=>hx.drewN N)
    obtain ⟨x,hxe⟩:∃ x,dgt a i=x:=⟨_,rfl⟩
    obtain ⟨y,hye⟩:∃ y,dgt b i=y:=⟨_,rfl⟩
    rw [hxe] at c0
    rw [hye] at c1
    have Hxy:=bH (bI hxe hye)
    have e0:(0:Int)<=(i:Int):=by omega
    have e1:(i:Int)<(m:Int):=by omega
    clear hs hx hxe hye hia hib
    by_cases hxy:x=y
    ·subst hxy
     go_upto_region 6 with fail
     go_quiet (fail)
     go_wp2
     go_roundg (m - (i+1))
     case measure=>omega
     case rel=>exact ⟨i+1,by omega,rfl,by go_num,fun j hj=>by
      by_cases e:j=i
      ·subst e; rw [Hxy.out.1,Hxy.out.2]
      ·exact Hs.out j (by omega),HXN.out _⟩
    ·have hne:¬ (x:Int)=y:=by omega
     have hbe:((x:Int) == y)=false:=by simpa using hne
     have hDf:D=false:=by
      rw [<- HD.out]
      refine decide_eq_false (fun h=>hxy ?_)
      rw [<- Hxy.out.1,<- Hxy.out.2,h]
     subst hDf
     go_upto_region 6 with fail
     go_quiet (fail)
     go_wp2
     go_ret
     exact ⟨rfl,HXN.out _⟩
   ·obtain rfl:i=m:=by omega
    have hDt:D=true:=by
     rw [<- HD.out]
     refine decide_eq_true (list_ext_dgt Hm.out.2 (fun j hj=>hs j (by have:=Hm.out.1; omega)))
    subst hDt
    have HX:=bH hx
    clear hs hx
    go_wp2
    go_ret
    exact ⟨rfl,HX.out⟩
 ·have hne:¬ (a.length:Int)=b.length:=by omega
  have hbe:((a.length:Int) == b.length)=false:=by simpa using hne
  rw [decide_eq_false (fun h=>hl (by rw [h]))]
  clear ha hb
  generalize a.length=la at *
  generalize b.length=lb at *
  go_enter Tryz.func128,Tryz.ntmps128
  go_wp2
  go_ret
  exact ⟨rfl,Ext.refl _ _⟩
theorem one_one (d:Int):∀ u ∈ [Value.int .u32 d],u.oneCell'=true:=fun u hu=>by
 rw [List.mem_singleton.1 hu]; rfl
theorem own_empty {w:World} {g:Nat} (h:blk w g=some (.cells #[] 129 (0,0))) (base:Nat) (hb:base<=g):Own w base (.slice (some ⟨g,0,none⟩) 0 0) []:=ownsRow_empty 1 hb h
theorem AddSt.all {a b:List Nat} {i:Nat} {o:List Nat} {c:Nat} (h:AddSt a b i o c) (ha:a.length<=i) (hb:b.length<=i):vl (o++[c])=vl a+vl b/\Dig (o++[c]):=by
 have h4:=h.val
 rw [vl_take_all ha,vl_take_all hb] at h4
 refine ⟨by rw [vl_snoc,h.len,h4],h.dig.snoc (by have:=h.car; omega)⟩
theorem Radd_new (w:World) (va vb:Value) (a b:List Nat) (ha:Rds w va a) (hb:Rds w vb b) (hal:a.length<=536870911) (hbl:b.length<=536870911) :
  Calls Tryz.prog 103 #[va,vb] w (NatNew w (vl a+vl b)):=by
 obtain ⟨aao,ac,rfl,_⟩:=id ha.2
 obtain ⟨bbo,bc,rfl,_⟩:=id hb.2
 obtain ⟨m,hm⟩:∃ m,max a.length b.length=m:=⟨_,rfl⟩
 have hma:a.length<=m:=by omega
 have hmb:b.length<=m:=by omega
 have hmx:m<=536870911:=by omega
 have hcs:a.length=m∨b.length=m:=by omega
 obtain ⟨i0,hi,hz0,hz1,hz2⟩:=info_parts Tryz.infoU32
 have Hi:=bH (bI hi (bI hz0 (bI hz1 hz2)))
 have Ha:=bH ha
 have Hb:=bH hb
 have HM:=bH (bI hma hmb)
 clear hi hz0 hz1 hz2 ha hb hal hbl hm
 generalize hna:a.length=na at *
 generalize hnb:b.length=nb at *
 have HN:=bH (bI hna hnb)
 clear hna hnb
 have hb0:blk (w.alloc (.cells #[] 129)) w.heap.size=some (.cells #[] 129 (0,0)):=blk_alloc_at _ _
 have HI:=bH (bI (own_empty hb0 w.heap.size (Nat.le_refl _)) ((Ext.refl (fun _=>False) w).alloc (.cells #[] 129)))
 clear hb0
 go_enter Tryz.func103,Tryz.ntmps103
 go_wp2_with fail
 go_loopg [5,6,7] m (fun g v5 v6 v7 wr=>∃ (i:Nat) (o:List Nat) (c:Nat),i<=m/\g=m - i/\v7=.int .i64 i/\v6=.int .u64 c/\AddSt a b i o c/\Own wr w.heap.size v5 o/\XF w wr)
 case atStart=>exact ⟨0,[],0,Nat.zero_le _,rfl,rfl,rfl,AddSt.zero a b,HI.out.1,HI.out.2⟩
 case round =>
  obtain ⟨i,o,c,hi,rfl,rfl,rfl,hst,ho,hx⟩:=hrel
  clear HI
  by_cases hia:i<na
  ·have hlti:i<m:=by omega
   have hia':(i:Int)<(na:Int):=by omega
   obtain ⟨S,hS⟩:∃ S,dgt a i+dgt b i+c=S:=⟨_,rfl⟩
   have Hda:=bH (Rdigit_any wr _ a (Ha.out.keep hx) i (by omega))
   have Hdb:=bH (Rdigit_any wr _ b (Hb.out.keep hx) i (by omega))
   have hst2:=hst.step Ha.out.1 Hb.out.1
   have hlen:=hst.len
   have l1:=dgt_lt Ha.out.1 i
   have l2:=dgt_lt Hb.out.1 i
   have l3:=hst.car
   rw [hS] at hst2
   obtain ⟨D,hD⟩:∃ D,S % 4294967296=D:=⟨_,rfl⟩
   obtain ⟨E,hE⟩:∃ E,S / 4294967296=E:=⟨_,rfl⟩
   rw [hD,hE] at hst2
   obtain ⟨ao,cap,rfl⟩:=ho.shape
   generalize hX:dgt a i=X at *
   generalize hY:dgt b i=Y at *
   obtain ⟨S1,hS1⟩:∃ S1,c+X=S1:=⟨_,rfl⟩
   have q1:(c:Int)+X=S1:=by omega
   have q2:(S1:Int)+Y=S:=by omega
   have q3:(S:Int) % 4294967296=D:=by omega
   have q4:(S:Int) / 4294967296=E:=by omega
   have hS1l:S1<18446744073709551616:=by omega
   have hSl:S<18446744073709551616:=by omega
   have Hst:=bH hst2
   have Ho:=bH ho
   have Hx:=bH hx
   rw [hlen]
   have Hlen:=bH hlen
   clear hst hst2 ho hx hX hY hS hD hE hS1
   go_wp2_with fail
   refine Hda.out.mono ?_
   rintro r w' ⟨rfl,hw⟩; obtain rfl:=hw.symm
   go_wp2_with fail
   refine Hdb.out.mono ?_
   rintro r w' ⟨rfl,hw⟩; obtain rfl:=hw.symm
   have hx1:XF wr (wr.alloc (.cells #[.int .u32 (D:Int)] 129)):=(Ext.refl _ wr).alloc _
   have HX1:=bH hx1
   have HO1:Hid ((wr.alloc (.cells #[.int .u32 (D:Int)] 129)).ownsRow w.heap.size 129 1 (.slice ao i cap) i (o.map dv)):=bH (by have:=Ho.out.keep hx1; unfold Own at this; rw [hlen] at this; exact this)
   have HG:=bH (row_ge HO1.out)
   clear hx1 Hda Hdb hw hlen
   go_wp2_with (at_builtin; refine wpList_append_any rfl (.tmp 30) (.tmp 33) 60 rfl w.heap.size 129 i0 _ 1 4 Tryz.underlying60 Hi.out.1 Hi.out.2.1 Hi.out.2.2.1 Hi.out.2.2.2 rfl (by decide) _ _ _ rfl HO1.out _ 1 1 (fun e=>by cases e) [.int .u32 (D:Int)] rfl rfl (.inr ⟨_,rfl,cells_new [.int .u32 (D:Int)] _ rfl⟩) (one_one _) (by simp only [maxLen]; omega) (by omega) (Nat.le_trans Hx.out.size HX1.out.size) ?_; intro v5 w5 hown5 hgrow5 hat5; have HO:Hid (Own w5 w.heap.size v5 (o++[D])):=bH (own_app Hlen.out hown5); have HX:Hid (XF w w5):=bH ((Hx.out.trans HX1.out).grown hgrow5 (fun k e h=>absurd (HG.out k e) (by omega))); clear hown5 hgrow5 hat5)
   go_wp2
   go_roundg (m - (i+1))
   case measure=>omega
   case rel=>exact ⟨i+1,_,_,by omega,rfl,by go_num,rfl,Hst.out,HO.out,HX.out⟩
  ·by_cases hib:i<nb
   ·have hlti:i<m:=by omega
    have hib':(i:Int)<(nb:Int):=by omega
    have hia':¬ (i:Int)<(na:Int):=by omega
    obtain ⟨S,hS⟩:∃ S,dgt a i+dgt b i+c=S:=⟨_,rfl⟩
    have Hda:=bH (Rdigit_any wr _ a (Ha.out.keep hx) i (by omega))
    have Hdb:=bH (Rdigit_any wr _ b (Hb.out.keep hx) i (by omega))
    have hst2:=hst.step Ha.out.1 Hb.out.1
    have hlen:=hst.len
    have l1:=dgt_lt Ha.out.1 i
    have l2:=dgt_lt Hb.out.1 i
    have l3:=hst.car
    rw [hS] at hst2
    obtain ⟨D,hD⟩:∃ D,S % 4294967296=D:=⟨_,rfl⟩
    obtain ⟨E,hE⟩:∃ E,S / 4294967296=E:=⟨_,rfl⟩
    rw [hD,hE] at hst2
    obtain ⟨ao,cap,rfl⟩:=ho.shape
    generalize hX:dgt a i=X at *
    generalize hY:dgt b i=Y at *
    obtain ⟨S1,hS1⟩:∃ S1,c+X=S1:=⟨_,rfl⟩
    have q1:(c:Int)+X=S1:=by omega
    have q2:(S1:Int)+Y=S:=by omega
    have q3:(S:Int) % 4294967296=D:=by omega
    have q4:(S:Int) / 4294967296=E:=by omega
    have hS1l:S1<18446744073709551616:=by omega
    have hSl:S<18446744073709551616:=by omega
    have Hst:=bH hst2
    have Ho:=bH ho
    have Hx:=bH hx
    rw [hlen]
    have Hlen:=bH hlen
    clear hst hst2 ho hx hX hY hS hD hE hS1
    go_wp2_with fail
    refine Hda.out.mono ?_
    rintro r w' ⟨rfl,hw⟩; obtain rfl:=hw.symm
    go_wp2_with fail
    refine Hdb.out.mono ?_
    rintro r w' ⟨rfl,hw⟩; obtain rfl:=hw.symm
    have hx1:XF wr (wr.alloc (.cells #[.int .u32 (D:Int)] 129)):=(Ext.refl _ wr).alloc _
    have HX1:=bH hx1
    have HO1:Hid ((wr.alloc (.cells #[.int .u32 (D:Int)] 129)).ownsRow w.heap.size 129 1 (.slice ao i cap) i (o.map dv)):=bH (by have:=Ho.out.keep hx1; unfold Own at this; rw [hlen] at this; exact this)
    have HG:=bH (row_ge HO1.out)
    clear hx1 Hda Hdb hw hlen
    go_wp2_with (at_builtin; refine wpList_append_any rfl (.tmp 30) (.tmp 33) 60 rfl w.heap.size 129 i0 _ 1 4 Tryz.underlying60 Hi.out.1 Hi.out.2.1 Hi.out.2.2.1 Hi.out.2.2.2 rfl (by decide) _ _ _ rfl HO1.out _ 1 1 (fun e=>by cases e) [.int .u32 (D:Int)] rfl rfl (.inr ⟨_,rfl,cells_new [.int .u32 (D:Int)] _ rfl⟩) (one_one _) (by simp only [maxLen]; omega) (by omega) (Nat.le_trans Hx.out.size HX1.out.size) ?_; intro v5 w5 hown5 hgrow5 hat5; have HO:Hid (Own w5 w.heap.size v5 (o++[D])):=bH (own_app Hlen.out hown5); have HX:Hid (XF w w5):=bH ((Hx.out.trans HX1.out).grown hgrow5 (fun k e h=>absurd (HG.out k e) (by omega))); clear hown5 hgrow5 hat5)
    go_wp2
    go_roundg (m - (i+1))
    case measure=>omega
    case rel=>exact ⟨i+1,_,_,by omega,rfl,by go_num,rfl,Hst.out,HO.out,HX.out⟩
   ·have hia':¬ (i:Int)<(na:Int):=by omega
    have hib':¬ (i:Int)<(nb:Int):=by omega
    have hall:=hst.all (by have:=HN.out; omega) (by have:=HN.out; omega)
    have hlen:=hst.len
    have l3:=hst.car
    obtain ⟨ao,cap,rfl⟩:=ho.shape
    have Hall:=bH hall
    have Ho:=bH ho
    have Hx:=bH hx
    rw [hlen]
    obtain ⟨D,hD⟩:∃ D,c=D:=⟨_,rfl⟩
    subst hD
    have q3:(c:Int) % 4294967296=c:=by omega
    have hlo:(o++[c]).length=i+1:=by simp [hlen]
    have Hlo:=bH hlo
    clear hst hall ho hx hlo
    have hx1:XF wr (wr.alloc (.cells #[.int .u32 (c:Int)] 129)):=(Ext.refl _ wr).alloc _
    have HX1:=bH hx1
    have HO1:Hid ((wr.alloc (.cells #[.int .u32 (c:Int)] 129)).ownsRow w.heap.size 129 1 (.slice ao i cap) i (o.map dv)):=bH (by have:=Ho.out.keep hx1; unfold Own at this; rw [hlen] at this; exact this)
    have HG:=bH (row_ge HO1.out)
    clear hx1
    have Hlen:=bH hlen
    clear hlen
    go_wp2_with (at_builtin; refine wpList_append_any rfl (.tmp 37) (.tmp 40) 60 rfl w.heap.size 129 i0 _ 1 4 Tryz.underlying60 Hi.out.1 Hi.out.2.1 Hi.out.2.2.1 Hi.out.2.2.2 rfl (by decide) _ _ _ rfl HO1.out _ 1 1 (fun e=>by cases e) [.int .u32 (c:Int)] rfl rfl (.inr ⟨_,rfl,cells_new [.int .u32 (c:Int)] _ rfl⟩) (one_one _) (by simp only [maxLen]; omega) (by omega) (Nat.le_trans Hx.out.size HX1.out.size) ?_; intro v5 w5 hown5 hgrow5 hat5; have HO:Hid (Own w5 w.heap.size v5 (o++[c])):=bH (own_app Hlen.out hown5); have HX:Hid (XF w w5):=bH ((Hx.out.trans HX1.out).grown hgrow5 (fun k e h=>absurd (HG.out k e) (by omega))); clear hown5 hgrow5 hat5)
    obtain ⟨ao5,cap5,rfl⟩:=HO.out.shape
    rw [Hlo.out] at HO ⊢
    have HT:=bH (Trim_new w5 _ _ (HO.out.rds Hall.out.2) (by rw [Hlo.out]; omega))
    go_wp2_with fail
    refine HT.out.mono ?_
    rintro r6 w6 ⟨v6,rfl,h6,hx6,hg6⟩
    rw [Hall.out.1] at h6
    have HP:Hid (NatNew w (vl a+vl b) (.returned v6) w6):=bH ⟨v6,rfl,h6,HX.out.trans hx6,fun g e=>Nat.le_trans HX.out.size (hg6 g e)⟩
    clear h6 hx6 hg6
    go_wp2
    go_ret
    exact HP.out
theorem Radd_any (w:World) (va vb:Value) (a b:List Nat) (ha:Rds w va a) (hb:Rds w vb b) (hal:a.length<=536870911) (hbl:b.length<=536870911) :
  Calls Tryz.prog 103 #[va,vb] w (NatPost w (vl a+vl b)):=(Radd_new w va vb a b ha hb hal hbl).mono fun _ _ h=>h.post
theorem Rcmp_any (w:World) (va vb:Value) (a b:List Nat) (ha:Rds w va a) (hb:Rds w vb b) (hal:a.length<=1073741823) (hbl:b.length<=1073741823) :
  Calls Tryz.prog 157 #[va,vb] w fun r w'=>r=.returned (.int .i64 (cmpN (vl a) (vl b)))/\XF w w':=by
 have Fa:=bH (Trim_any w va a ha (by omega))
 have Fb:=bH (fun W (hW:XF w W)=>Trim_any W vb b (hb.keep hW) (by omega))
 have la:=trimL_length a ha.1
 have lb:=trimL_length b hb.1
 unfold trimL at la lb
 generalize vl a=x at *
 generalize vl b=y at *
 obtain ⟨m,hm⟩:∃ m,(dg x).length=m:=⟨_,rfl⟩
 obtain ⟨k,hk⟩:∃ k,(dg y).length=k:=⟨_,rfl⟩
 have hml:m<=1073741823:=by omega
 have hkl:k<=1073741823:=by omega
 have Hm:=bH (bI hm hk)
 obtain ⟨C,hC⟩:∃ C,cmpN x y=C:=⟨_,rfl⟩
 rw [hC]
 have HC:=bH hC
 clear ha hb hal hbl la lb hm hk hC
 go_enter Tryz.func157,Tryz.ntmps157
 go_wp2_with fail
 refine Fa.out.mono ?_
 rintro r w1 ⟨v1,rfl,h1,hx1⟩
 have Fb1:=bH (Fb.out w1 hx1)
 have H1:=bH (bI h1 hx1)
 clear h1 hx1 Fa Fb
 go_wp2_with fail
 refine Fb1.out.mono ?_
 rintro r w2 ⟨v2,rfl,h2,hx2⟩
 have h1:=H1.out.1.keep hx2
 have hX:=H1.out.2.trans hx2
 have h1':=h1
 have h2':=h2
 obtain ⟨ao,ca,rfl⟩:=h1'.shape
 obtain ⟨bo,cb,rfl⟩:=h2'.shape
 rw [Hm.out.1] at h1 h1' ⊢
 rw [Hm.out.2] at h2 h2' ⊢
 have HN:=bH (bI h1 (bI h2 hX))
 clear h1 h2 h1' h2' hX hx2 Fb1 H1
 by_cases hmk:m=k
 ·subst hmk
  go_wp2_with fail
  go_loopg [5] m (fun g v5 wr=>∃ n:Nat,n<=m/\g=n/\v5=.int .i64 ((n:Int) - 1)/\(∀ j,n<=j->dgt (dg x) j=dgt (dg y) j)/\XF w2 wr)
  case atStart=>exact ⟨m,Nat.le_refl _,rfl,rfl,fun j hj=>by rw [dgt_out (by have:=Hm.out; omega),dgt_out (by have:=Hm.out; omega)],Ext.refl _ _⟩
  case round =>
   obtain ⟨n,hn,hg,rfl,hs,hx⟩:=hrel
   obtain rfl:=hg.symm
   by_cases h0:n=0
   ·subst h0
    have e:C=0:=by
     rw [<- HC.out]
     have:=vl_equal (fun j=>hs j (Nat.zero_le _))
     rw [vl_dg,vl_dg] at this
     unfold cmpN; rw [this,if_neg (Nat.lt_irrefl _),if_neg (Nat.lt_irrefl _)]
    subst e
    have HX:=bH (HN.out.2.2.trans hx)
    have p0:((0:Nat):Int) - 1 = -1:=by omega
    rw [p0]
    clear hs hx
    go_wp2
    go_ret
    exact ⟨rfl,HX.out⟩
   ·obtain ⟨i,rfl⟩:∃ i,n=i+1:=⟨n - 1,by omega⟩
    have p1:((i+1:Nat):Int) - 1=i:=by omega
    rw [p1]
    obtain ⟨b1,o1,rfl,_⟩:=HN.out.1.base (by have:=Hm.out.1; omega)
    obtain ⟨b2,o2,rfl,_⟩:=HN.out.2.1.base (by have:=Hm.out.2; omega)
    have c0:=(Rds.keep HN.out.1 hx).at.2 i (by have:=Hm.out; omega)
    have c1:=(Rds.keep HN.out.2.1 hx).at.2 i (by have:=Hm.out; omega)
    have hlt:=fun h=>vl_less (dg_dig x) (b:=dg y) (i:=i) h hs
    have hgt:=fun h=>vl_less (dg_dig y) (b:=dg x) (i:=i) h (fun j hj=>(hs j hj).symm)
    rw [vl_dg,vl_dg] at hlt hgt
    have Hs:=bH hs
    have HX:=bH (fun N=>hx.drewN N)
    have HXN:=bH (fun N M=>((HN.out.2.2.trans hx).drewN N).drewN M)
    have HXD:=bH (fun N M=>(hx.drewN N).drewN M)
    obtain ⟨D,hD⟩:∃ D,dgt (dg x) i=D:=⟨_,rfl⟩
    obtain ⟨E,hE⟩:∃ E,dgt (dg y) i=E:=⟨_,rfl⟩
    rw [hD] at c0
    rw [hE] at c1
    rw [hD,hE] at hlt hgt
    have Hlt:=bH hlt
    have Hgt:=bH hgt
    have HDE:=bH (bI hD hE)
    have e0:(0:Int)<=(i:Int):=by omega
    have e1:(i:Int)<(m:Int):=by omega
    clear hs hx hD hE hlt hgt p1
    by_cases q1:D=E
    ·subst q1
     go_upto_region 9 with fail
     go_quiet (fail)
     go_wp2
     go_roundg i
     case measure=>omega
     case rel=>exact ⟨i,by omega,rfl,by go_num,fun j hj=>by
      by_cases e:j=i
      ·subst e; rw [HDE.out.1,HDE.out.2]
      ·exact Hs.out j (by omega),HX.out _⟩
    ·have hne:¬ (D:Int)=E:=by omega
     have hbe:((D:Int) == E)=false:=by simpa using hne
     by_cases q2:D<E
     ·have e:C = -1:=by rw [<- HC.out]; unfold cmpN; rw [if_pos (Hlt.out q2)]
      have q2i:(D:Int)<E:=by omega
      subst e
      go_upto_region 9 with fail
      go_quiet (fail)
      go_upto_region 10 with fail
      go_quiet (fail)
      go_wp2
      go_ret
      exact ⟨rfl,by first | exact HXN.out _ _ | exact HXN.out _ 0⟩
     ·have e:C=1:=by
       rw [<- HC.out]
       have:=Hgt.out (by omega)
       unfold cmpN; rw [if_neg (by omega),if_pos this]
      have q2i:¬ (D:Int)<E:=by omega
      subst e
      go_upto_region 9 with fail
      go_quiet (fail)
      go_upto_region 10 with fail
      go_quiet (fail)
      go_wp2
      go_ret
      exact ⟨rfl,by first | exact HXN.out _ _ | exact HXN.out _ 0⟩
 ·have hne:¬ (m:Int)=k:=by omega
  have hbe:((m:Int) == k)=false:=by simpa using hne
  have HX:=bH HN.out.2.2
  by_cases hlt:m<k
  ·have e:C = -1:=by
    rw [<- HC.out]
    unfold cmpN
    rw [if_pos]
    by_cases h:y<=x
    ·have:=dg_mono h; have:=Hm.out; omega
    ·omega
   subst e
   clear HN Hm
   go_wp2
   go_ret
   exact ⟨rfl,HX.out⟩
  ·have e:C=1:=by
    rw [<- HC.out]
    have h2:y<x:=by
     by_cases h:x<=y
     ·have:=dg_mono h; have:=Hm.out; omega
     ·omega
    unfold cmpN
    rw [if_neg (by omega),if_pos h2]
   subst e
   clear HN Hm
   go_wp2
   go_ret
   exact ⟨rfl,HX.out⟩
theorem SubSt.all {a b:List Nat} (ha:Dig a) (hb:Dig b) {o:List Nat} {c:Nat} (h:SubSt a b a.length o c) (hle:vl b<=vl a):vl o=vl a - vl b:=by
 have h4:=h.val
 have hb2:vl b=vl (b.take a.length):=vl_high (fun i hi=>dgt_zero (Nat.lt_of_le_of_lt hle (vl_lt ha)) i hi)
 rw [List.take_length,<- hb2] at h4
 have ho:=vl_lt h.dig
 rw [h.len] at ho
 have hc:c=0:=by
  have:=h.car
  by_cases hc:c=0
  ·exact hc
  ·have:c=1:=by omega
   subst this
   omega
 subst hc
 omega
theorem sub_word' {x y c:Nat} (hx:x<4294967296) (hy:y<4294967296) (hc:c<=1):(4294967296+x - y - c) % 4294967296=subD x y c/\1 - (4294967296+x - y - c) / 4294967296=subB x y c/\(4294967296+x - y - c) / 4294967296<=1:=by
 unfold subD subB
 split <;> omega
def RSubPost (w:World) (x y:Nat) (r:Ending) (w':World):Prop:=∃ v,r=.returned (.tuple #[v,.int .i64 0])/\IsNat w' v (x - y)/\XF w w'/\∀ g,v.ownBlock=some g->w.heap.size<=g
theorem Rsub_any (w:World) (va vb:Value) (a b:List Nat) (ha:Rds w va a) (hb:Rds w vb b) (hal:a.length<=536870911) (hbl:b.length<=536870911) (hle:vl b<=vl a) :
  Calls Tryz.prog 158 #[va,vb] w (RSubPost w (vl a) (vl b)):=by
 have HC:=bH (Rcmp_any w va vb a b ha hb (by omega) (by omega))
 have hcm:¬ cmpN (vl a) (vl b)<0:=by unfold cmpN; split <;> (try split) <;> omega
 generalize cmpN (vl a) (vl b)=cq at *
 obtain ⟨aao,ac,rfl,_⟩:=id ha.2
 obtain ⟨bbo,bc,rfl,_⟩:=id hb.2
 obtain ⟨i0,hi,hz0,hz1,hz2⟩:=info_parts Tryz.infoU32
 have Hi:=bH (bI hi (bI hz0 (bI hz1 hz2)))
 have Ha:=bH ha
 have Hb:=bH hb
 have Hle:=bH hle
 clear hi hz0 hz1 hz2 ha hb hle
 obtain ⟨m,hm⟩:∃ m,a.length=m:=⟨_,rfl⟩
 have hmx:m<=536870911:=by omega
 rw [hm] at Ha HC ⊢
 generalize b.length=nb at *
 have Hm:=bH hm
 clear hm hal
 go_enter Tryz.func158,Tryz.ntmps158
 go_wp2_with fail
 refine HC.out.mono ?_
 rintro r w1 ⟨rfl,hx1⟩
 have hb0:blk (w1.alloc (.cells #[] 129)) w1.heap.size=some (.cells #[] 129 (0,0)):=blk_alloc_at _ _
 have HI:=bH (bI (own_empty hb0 w.heap.size hx1.size) (hx1.alloc (.cells #[] 129)))
 clear hb0 hx1 HC
 go_wp2_with fail
 go_loopg [6,7,8] m (fun g v6 v7 v8 wr=>∃ (i:Nat) (o:List Nat) (c:Nat),i<=m/\g=m - i/\v8=.int .i64 i/\v7=.int .u64 c/\SubSt a b i o c/\Own wr w.heap.size v6 o/\XF w wr)
 case atStart=>exact ⟨0,[],0,Nat.zero_le _,rfl,rfl,rfl,SubSt.zero a b,HI.out.1,HI.out.2⟩
 case round =>
  obtain ⟨i,o,c,hi,rfl,rfl,rfl,hst,ho,hx⟩:=hrel
  clear HI
  by_cases hlti:i<m
  ·have hia':(i:Int)<(m:Int):=by omega
   have Hda:=bH (Rdigit_any wr _ a (Ha.out.keep hx) i (by omega))
   have Hdb:=bH (Rdigit_any wr _ b (Hb.out.keep hx) i (by omega))
   have hst2:=hst.step Ha.out.1 Hb.out.1
   have hlen:=hst.len
   have l1:=dgt_lt Ha.out.1 i
   have l2:=dgt_lt Hb.out.1 i
   have l3:=hst.car
   obtain ⟨w1',w2',w3'⟩:=sub_word' l1 l2 l3
   rw [<- w1',<- w2'] at hst2
   obtain ⟨ao,cap,rfl⟩:=ho.shape
   generalize hX:dgt a i=X at *
   generalize hY:dgt b i=Y at *
   obtain ⟨S1,hS1⟩:∃ S1,4294967296+X=S1:=⟨_,rfl⟩
   obtain ⟨S2,hS2⟩:∃ S2,S1 - Y=S2:=⟨_,rfl⟩
   obtain ⟨S3,hS3⟩:∃ S3,S2 - c=S3:=⟨_,rfl⟩
   rw [hS1,hS2,hS3] at hst2 w3'
   obtain ⟨D,hD⟩:∃ D,S3 % 4294967296=D:=⟨_,rfl⟩
   obtain ⟨E,hE⟩:∃ E,S3 / 4294967296=E:=⟨_,rfl⟩
   obtain ⟨F,hF⟩:∃ F,1 - E=F:=⟨_,rfl⟩
   rw [hD,hE,hF] at hst2
   rw [hE] at w3'
   have q0:(4294967296:Int)+X=S1:=by omega
   have q1:(S1:Int) - Y=S2:=by omega
   have q2:(S2:Int) - c=S3:=by omega
   have q3:(S3:Int) % 4294967296=D:=by omega
   have q4:(S3:Int) / 4294967296=E:=by omega
   have q5:(1:Int) - E=F:=by omega
   have b1:S1<18446744073709551616:=by omega
   have b2:S2<18446744073709551616:=by omega
   have b3:S3<18446744073709551616:=by omega
   have Hst:=bH hst2
   have Ho:=bH ho
   have Hx:=bH hx
   rw [hlen]
   have Hlen:=bH hlen
   clear hst hst2 ho hx hX hY hD hE hS1 hS2 hS3 hF w1' w2'
   go_wp2_with fail
   refine Hda.out.mono ?_
   rintro r w' ⟨rfl,hw⟩; obtain rfl:=hw.symm
   go_wp2_with fail
   refine Hdb.out.mono ?_
   rintro r w' ⟨rfl,hw⟩; obtain rfl:=hw.symm
   have hx1:XF wr (wr.alloc (.cells #[.int .u32 (D:Int)] 129)):=(Ext.refl _ wr).alloc _
   have HX1:=bH hx1
   have HO1:Hid ((wr.alloc (.cells #[.int .u32 (D:Int)] 129)).ownsRow w.heap.size 129 1 (.slice ao i cap) i (o.map dv)):=bH (by have:=Ho.out.keep hx1; unfold Own at this; rw [hlen] at this; exact this)
   have HG:=bH (row_ge HO1.out)
   clear hx1 Hda Hdb hw hlen
   go_wp2_with (at_builtin; refine wpList_append_any rfl (.tmp 31) (.tmp 34) 60 rfl w.heap.size 129 i0 _ 1 4 Tryz.underlying60 Hi.out.1 Hi.out.2.1 Hi.out.2.2.1 Hi.out.2.2.2 rfl (by decide) _ _ _ rfl HO1.out _ 1 1 (fun e=>by cases e) [.int .u32 (D:Int)] rfl rfl (.inr ⟨_,rfl,cells_new [.int .u32 (D:Int)] _ rfl⟩) (one_one _) (by simp only [maxLen]; omega) (by omega) (Nat.le_trans Hx.out.size HX1.out.size) ?_; intro v5 w5 hown5 hgrow5 hat5; have HO:Hid (Own w5 w.heap.size v5 (o++[D])):=bH (own_app Hlen.out hown5); have HX:Hid (XF w w5):=bH ((Hx.out.trans HX1.out).grown hgrow5 (fun k e h=>absurd (HG.out k e) (by omega))); clear hown5 hgrow5 hat5)
   go_wp2
   go_roundg (m - (i+1))
   case measure=>omega
   case rel=>exact ⟨i+1,_,_,by omega,rfl,by go_num,rfl,Hst.out,HO.out,HX.out⟩
  ·obtain rfl:i=m:=by omega
   have hst':=hst
   rw [<- Hm.out] at hst'
   have hall:=hst'.all Ha.out.1 Hb.out.1 Hle.out
   have hT:=Trim_new wr _ _ (ho.rds hst.dig) (by rw [hst.len]; omega)
   rw [hall] at hT
   have HT:=bH hT
   have Hx:=bH hx
   clear hst hst' hall hT ho hx
   go_wp2_with fail
   refine HT.out.mono ?_
   rintro r6 w6 ⟨v6,rfl,h6,hx6,hg6⟩
   have HP:Hid (RSubPost w (vl a) (vl b) (.returned (.tuple #[v6,.int .i64 0])) w6):=bH ⟨v6,rfl,h6,Hx.out.trans hx6,fun g e=>Nat.le_trans Hx.out.size (hg6 g e)⟩
   clear h6 hx6 hg6
   go_wp2
   go_ret2
   exact HP.out
theorem dgt_snoc {o:List Nat} {i:Nat} (h:i<o.length):dgt (o++[0]) i=dgt o i:=by
 rw [dgt_in h,dgt_in (by simp; omega),List.getElem_append_left h]
theorem set_snoc {o:List Nat} {i d:Nat} (h:i<o.length):(o++[0]).set i d=o.set i d++[0]:=List.set_append_left i d h
theorem Rmul_any (w:World) (va vb:Value) (a b:List Nat) (ha:Rds w va a) (hb:Rds w vb b) (hal:a.length<=268435455) (hbl:b.length<=268435455) :
  Calls Tryz.prog 125 #[va,vb] w (NatPost w (vl a*vl b)):=by
 obtain ⟨ada,aao,ac,rfl,_,_,_,ha4⟩:=id ha
 obtain ⟨bda,bao,bc,rfl,_,_,_,hb4⟩:=id hb
 obtain ⟨n,hn⟩:∃ n,a.length+b.length+1=n:=⟨_,rfl⟩
 obtain ⟨w1,hmk,hA,hx1⟩:=run_make_nat w n (by omega)
 rw [<- hn,List.replicate_succ'] at hA
 obtain ⟨B,hB⟩:∃ B,w.heap.size=B:=⟨_,rfl⟩
 rw [hB] at hmk hA
 have HA:=bH hA
 have HX:=bH hx1
 have Hda:=bH ada
 have Hdb:=bH bda
 have Ha:=bH ha
 have Hb:=bH hb
 have Hst0:=bH (MulSt.zero a b)
 clear ha hb hA hx1 ada bda ha4 hb4
 generalize hna:a.length=na at *
 generalize hnb:b.length=nb at *
 have HN:=bH (bI hna hnb)
 clear hna hnb
 have hn1:(na:Int)+nb+1=n:=by omega
 have hn0:(0:Int)<=(na:Int)+nb+1:=by omega
 go_enter Tryz.func125,Tryz.ntmps125
 go_wp2_with fail
 go_loopg [6] na (fun g v6 wr=>∃ (i:Nat) (o:List Nat),i<=na/\g=na - i/\v6=.int .i64 i/\MulSt a b i o/\Arr wr B (o++[0])/\XF w wr)
 case atStart=>exact ⟨0,_,Nat.zero_le _,rfl,rfl,Hst0.out,HA.out,HX.out⟩
 case round =>
  obtain ⟨i,o,hi,rfl,rfl,hst,hA,hx⟩:=hrel
  clear HA HX Hst0 hmk
  by_cases hin:i<na
  ·obtain ⟨ba,offa,rfl,hba⟩:=Ha.out.base (by have:=HN.out; omega)
   have hia:i<a.length:=by have:=HN.out.1; omega
   have hxl:=dgt_lt Hda.out i
   have hin0:=MulIn.zero (a:=a) (b:=b) (i:=i) hst.dig hst.len
   have Hst:=bH hst
   have Hin0:=bH hin0
   have HA:=bH hA
   have HX:=bH hx
   have hini:(i:Int)<(na:Int):=by omega
   clear hst hin0 hA hx
   obtain ⟨x,hxe⟩:∃ x,dgt a i=x:=⟨_,rfl⟩
   rw [hxe] at hxl
   have Hxe:=bH hxe
   clear hxe
   go_wp2_with fail
   go_loopg [7,8] nb (fun g v7 v8 wr=>∃ (k:Nat) (oc:List Nat) (c:Nat),k<=nb/\g=nb - k/\v8=.int .i64 k/\v7=.int .u64 c/\MulIn a b o i k oc c/\Arr wr B (oc++[0])/\XF w wr)
   case atStart=>exact ⟨0,o,0,Nat.zero_le _,rfl,rfl,rfl,Hin0.out,HA.out,HX.out⟩
   case round =>
    obtain ⟨k,oc,c,hk,rfl,rfl,rfl,hin1,hA1,hx1⟩:=hrel
    clear HA HX Hin0
    by_cases hkn:k<nb
    ·obtain ⟨bb,offb,rfl,hbb⟩:=Hb.out.base (by have:=HN.out; omega)
     have hkb:k<b.length:=by have:=HN.out.2; omega
     have c0:=(Ha.out.keep hx1).at.2 i hia
     have c1:=(Hb.out.keep hx1).at.2 k hkb
     have hyl:=dgt_lt Hdb.out k
     have hlen:i+k<oc.length:=by have:=HN.out; have:=hin1.len; omega
     have hnxt:=hin1.step Hda.out Hdb.out hia hkb
     have c2:=hA1.cell (i+k) (by simp; omega)
     rw [dgt_snoc hlen] at c2
     have hol:=dgt_lt hin1.dig (i+k)
     have hcl:=hin1.car
     rw [Hxe.out] at hnxt c0
     obtain ⟨y,hye⟩:∃ y,dgt b k=y:=⟨_,rfl⟩
     obtain ⟨od,hoe⟩:∃ od,dgt oc (i+k)=od:=⟨_,rfl⟩
     rw [hye] at c1 hyl hnxt
     rw [hoe] at c2 hol hnxt
     have hfit:=mul_fits hxl hyl hol hcl
     obtain ⟨p,hp⟩:∃ p,x*y=p:=⟨_,rfl⟩
     have hpi:(x:Int)*(y:Int)=(p:Int):=by rw [<- hp]; simp
     rw [hp] at hnxt hfit
     obtain ⟨S1,hS1⟩:∃ S1,c+p=S1:=⟨_,rfl⟩
     obtain ⟨S2,hS2⟩:∃ S2,p+od+c=S2:=⟨_,rfl⟩
     rw [hS2] at hnxt
     have e5:(0:Int)<=(x:Int)*y:=by omega
     have e6:(x:Int)*y<18446744073709551616:=by omega
     have w1':IntKind.u64.wrap (p:Int)=p:=IntWalk.u64_in _ (by omega)
     have w2':IntKind.u64.wrap ((c:Int)+p)=S1:=by rw [wrapU]; omega
     have w3':IntKind.u64.wrap ((S1:Int)+od)=S2:=by rw [wrapU]; omega
     have w4':IntKind.u64.wrap (x:Int)=x:=IntWalk.u64_in _ (by omega)
     have w5':IntKind.u64.wrap (y:Int)=y:=IntWalk.u64_in _ (by omega)
     have w6':IntKind.u64.wrap (od:Int)=od:=IntWalk.u64_in _ (by omega)
     have hs1:S1<18446744073709551616:=by omega
     have hs2:S2<18446744073709551616:=by omega
     have HA2:=bH (fun N=>(hA1.ext ((Ext.refl _ wr).drewN N)).set (i+k) (S2 % 4294967296))
     have Hnxt:=bH hnxt
     have HX2:=bH (fun N=>(hx1.drewN N).own ((Ext.refl (fun z=>z=B) (wr.drewN N)).setCell (p:=⟨B,i+k,none⟩) (.int .u32 (S2 % 4294967296:Nat)) (fun _=>rfl)) (fun z e=>by omega))
     have f2:=hA1.free (i+k)
     have Hlen:=bH hlen
     have e0:(0:Int)<=(k:Int):=by omega
     have e1:(k:Int)<(nb:Int):=by omega
     have e2:(i:Int)+k<(n:Int):=by omega
     have e3:(0:Int)<=(i:Int)+k:=by omega
     have e4:((i:Int)+k).toNat=i+k:=by omega
     have e7:(0:Int)<=(i:Int):=by omega
     clear hin1 hA1 hx1 hnxt hye hoe hp hS1 hS2 hfit hlen hia hkb
     go_upto_region 9 with fail
     go_quiet (fail)
     go_wp2
     have q1:(S2:Int) % 4294967296=(S2 % 4294967296:Nat):=by omega
     have q2:(S2:Int) / 4294967296=(S2 / 4294967296:Nat):=by omega
     rw [q1,q2]
     go_roundg (nb - (k+1))
     case measure=>omega
     case rel=>exact ⟨k+1,_,_,by omega,rfl,by go_num,rfl,Hnxt.out,by rw [<- set_snoc Hlen.out]; exact HA2.out _,HX2.out _⟩
    ·have e:k=nb:=by omega
     subst e
     have hlen:i+k<oc.length:=by have:=HN.out; have:=hin1.len; omega
     have hcl:=hin1.car
     have f2:=hA1.free (i+k)
     have c2:=hA1.cell (i+k) (by simp; omega)
     have HA2:=bH (hA1.set (i+k) c)
     rw [set_snoc hlen] at HA2
     have hnx:=Hst.out.step (by have:=HN.out; omega) (o:=oc) (c:=c) (by rw [HN.out.2]; exact hin1)
     rw [HN.out.2] at hnx
     have Hnx:=bH hnx
     have HX2:=bH (hx1.own ((Ext.refl (fun z=>z=B) wr).setCell (p:=⟨B,i+k,none⟩) (.int .u32 (c:Nat)) (fun _=>rfl)) (fun z e=>by omega))
     have q3:(c:Int) % 4294967296=c:=by omega
     clear hin1 hA1 hx1 hnx
     have e2:(i:Int)+k<(n:Int):=by omega
     have e3:(0:Int)<=(i:Int)+k:=by omega
     have e4:((i:Int)+k).toNat=i+k:=by omega
     go_wp2
     go_roundg (na - (i+1))
     case measure=>omega
     case rel=>exact ⟨i+1,_,by omega,rfl,by go_num,Hnx.out,HA2.out,HX2.out⟩
  ·have e:i=na:=by omega
   subst e
   have hl:(o++[0]).length=n:=by have:=HN.out; have:=hst.len; simp; omega
   have hr:=hA.rds (hst.dig.snoc (by omega)) (by omega)
   rw [hl] at hr
   have hd:=hst
   rw [<- HN.out.1] at hd
   have hdone:=hd.done
   have hv:vl (o++[0])=vl a*vl b:=by
    rw [vl_snoc,Nat.mul_zero,Nat.add_zero]
    have:=congrArg vl hdone
    rwa [trimL_value,vl_dg] at this
   have hT:=Trim_any wr _ _ hr (by omega)
   rw [hv] at hT
   have HT:=bH hT
   have HX:=bH hx
   clear hst hA hx hr hd hl hdone hv hT
   go_wp2_with fail
   refine HT.out.mono ?_
   rintro r6 w6 ⟨v6,rfl,h6,hx6⟩
   have HP:Hid (NatPost w (vl a*vl b) (.returned v6) w6):=bH ⟨v6,rfl,h6,HX.out.trans hx6⟩
   clear h6 hx6
   go_wp2
   go_ret
   exact HP.out
theorem digit_at {l:List Nat} (hd:Dig l) (t:Nat):vl l / 4294967296 ^ t % 4294967296=dgt l t:=by
 by_cases h:t<l.length
 ·have h1:=vl_at (l:=l) (t:=t) (Nat.le_of_lt h)
  have h2:=vl_drop h
  rw [<- dgt_in h] at h2
  have h3:=vl_lt (hd.take t)
  rw [List.length_take,Nat.min_eq_left (Nat.le_of_lt h)] at h3
  have h4:=dgt_lt hd t
  rw [h1,Nat.add_mul_div_left _ _ (Nat.pow_pos (by omega)),Nat.div_eq_of_lt h3,h2]
  omega
 ·rw [dgt_out (by omega)]
  have h1:=Nat.lt_of_lt_of_le (vl_lt hd) (pow_mono (show l.length<=t by omega))
  rw [Nat.div_eq_of_lt h1]
theorem pow32 (t:Nat):4294967296 ^ t=2 ^ (32*t):=by rw [Nat.pow_mul]
theorem bit_at {l:List Nat} (hd:Dig l) (i:Nat):dgt l (i / 32) / 2 ^ (i % 32) % 2=vl l / 2 ^ i % 2:=by
 have h1:=digit_at hd (i / 32)
 have hs:i % 32<32:=Nat.mod_lt _ (by omega)
 have e:vl l / 2 ^ i=vl l / 4294967296 ^ (i / 32) / 2 ^ (i % 32):=by
  rw [Nat.div_div_eq_div_mul,pow32,<- Nat.pow_add,Nat.div_add_mod]
 rw [e,<- h1]
 generalize vl l / 4294967296 ^ (i / 32)=X
 generalize i % 32=s at *
 have h2:Nat.testBit (X % 2 ^ 32) s=Nat.testBit X s:=by rw [Nat.testBit_mod_two_pow]; simp [hs]
 rw [Nat.testBit_eq_decide_div_mod_eq,Nat.testBit_eq_decide_div_mod_eq] at h2
 have h3:=Nat.mod_two_eq_zero_or_one (X % 4294967296 / 2 ^ s)
 have h4:=Nat.mod_two_eq_zero_or_one (X / 2 ^ s)
 have h5:(X % 4294967296 / 2 ^ s % 2=1)↔(X / 2 ^ s % 2=1):=by simpa using h2
 omega
structure BitSt (N y m j:Nat) (q:List Nat) (R:Nat):Prop where
 dig:Dig q
 len:q.length=m
 val:vl q=2 ^ j*(N / 2 ^ j / y)
 rest:R=N / 2 ^ j % y
theorem BitSt.start {N y m:Nat} (hN:N<4294967296 ^ m):BitSt N y m (32*m) (List.replicate m 0) 0:=by
 have h:N / 2 ^ (32*m)=0:=Nat.div_eq_of_lt (by rw [<- pow32]; exact hN)
 exact ⟨Dig.zeros m,by simp,by rw [vl_zeros,h]; simp,by rw [h]; simp⟩
theorem half (N j:Nat):N / 2 ^ j=2*(N / 2 ^ (j+1))+N / 2 ^ j % 2:=by
 have:N / 2 ^ (j+1)=N / 2 ^ j / 2:=by rw [Nat.pow_succ,Nat.div_div_eq_div_mul]
 omega
theorem bit_qr {M y b:Nat} (hb:b<2) (hy:0<y) :
  (2*(M % y)+b<y->(2*M+b) / y=2*(M / y)/\(2*M+b) % y=2*(M % y)+b) /\
  (y<=2*(M % y)+b->(2*M+b) / y=2*(M / y)+1/\(2*M+b) % y=2*(M % y)+b - y):=by
 have h1:=Nat.div_add_mod M y
 have h2:=Nat.mod_lt M hy
 generalize M / y=Q at *
 generalize M % y=R at *
 have e:2*M+b=y*(2*Q)+(2*R+b):=by rw [<- h1,Nat.mul_add,Nat.mul_left_comm]; omega
 refine ⟨fun h=>?_,fun h=>?_⟩
 ·rw [e,Nat.mul_add_div hy,Nat.mul_add_mod,Nat.div_eq_of_lt h,Nat.mod_eq_of_lt h]; exact ⟨by omega,rfl⟩
 ·have e2:2*M+b=y*(2*Q+1)+(2*R+b - y):=by rw [e,Nat.mul_add y (2*Q) 1]; omega
  have h3:2*R+b - y<y:=by omega
  rw [e2,Nat.mul_add_div hy,Nat.mul_add_mod,Nat.div_eq_of_lt h3,Nat.mod_eq_of_lt h3]; exact ⟨by omega,rfl⟩
theorem BitSt.keep {N y m j:Nat} {q:List Nat} {R:Nat} (hy:0<y) (h:BitSt N y m (j+1) q R) (hlt:R+R+N / 2 ^ j % 2<y):BitSt N y m j q (R+R+N / 2 ^ j % 2):=by
 have hb:N / 2 ^ j % 2<2:=Nat.mod_lt _ (by omega)
 obtain ⟨h1,h2⟩:=(bit_qr (M:=N / 2 ^ (j+1)) hb hy).1 (by have:=h.rest; omega)
 rw [<- half] at h1 h2
 refine ⟨h.dig,h.len,?_,?_⟩
 ·rw [h.val,h1,Nat.pow_succ,Nat.mul_assoc]
 ·rw [h2,<- h.rest]; omega
theorem or_add {d k:Nat} (h:d % 2 ^ (k+1)=0):d ||| 2 ^ k=d+2 ^ k:=by
 obtain ⟨e,he⟩:=Nat.dvd_of_mod_eq_zero h
 have:=Nat.shiftLeft_add_eq_or_of_lt (show 2 ^ k<2 ^ (k+1) by rw [Nat.pow_succ]; have:=Nat.two_pow_pos k; omega) e
 rw [Nat.shiftLeft_eq,Nat.mul_comm,<- he] at this
 exact this.symm
theorem BitSt.turn {N y m j:Nat} {q:List Nat} {R:Nat} (hy:0<y) (hj:j<32*m) (h:BitSt N y m (j+1) q R) (hge:y<=R+R+N / 2 ^ j % 2) :
  (dgt q (j / 32) ||| 2 ^ (j % 32))<4294967296/\BitSt N y m j (q.set (j / 32) (dgt q (j / 32) ||| 2 ^ (j % 32))) (R+R+N / 2 ^ j % 2 - y):=by
 have hb:N / 2 ^ j % 2<2:=Nat.mod_lt _ (by omega)
 obtain ⟨h1,h2⟩:=(bit_qr (M:=N / 2 ^ (j+1)) hb hy).2 (by have:=h.rest; omega)
 rw [<- half] at h1 h2
 have hs:j % 32<32:=Nat.mod_lt _ (by omega)
 have ht:j / 32<q.length:=by rw [h.len]; omega
 have hor:(dgt q (j / 32) ||| 2 ^ (j % 32))<4294967296:=Nat.or_lt_two_pow (n:=32) (dgt_lt h.dig _) (Nat.pow_lt_pow_right (by omega) hs)
 have hm:dgt q (j / 32) % 2 ^ (j % 32+1)=0:=by
  rw [<- digit_at h.dig,h.val,show (4294967296:Nat)=2 ^ (j % 32+1)*2 ^ (32 - (j % 32+1)) by rw [<- Nat.pow_add,show j % 32+1+(32 - (j % 32+1))=32 by omega],Nat.mod_mul_right_mod]
  rw [show 2 ^ (j % 32+1)*2 ^ (32 - (j % 32+1))=(4294967296:Nat) by rw [<- Nat.pow_add,show j % 32+1+(32 - (j % 32+1))=32 by omega],pow32]
  rw [show 2 ^ (j+1)*(N / 2 ^ (j+1) / y)=2 ^ (32*(j / 32))*(2 ^ (j % 32+1)*(N / 2 ^ (j+1) / y)) by rw [<- Nat.mul_assoc,<- Nat.pow_add,show 32*(j / 32)+(j % 32+1)=j+1 by omega]]
  rw [Nat.mul_div_cancel_left _ (Nat.two_pow_pos _),Nat.mul_mod_right]
 refine ⟨hor,h.dig.set _ _ hor,by simp [h.len],?_,?_⟩
 ·have hset:=vl_set_dgt (dgt q (j / 32) ||| 2 ^ (j % 32)) ht
  rw [or_add hm,Nat.mul_add] at hset
  have e:4294967296 ^ (j / 32)*2 ^ (j % 32)=2 ^ j:=by rw [pow32,<- Nat.pow_add,Nat.div_add_mod]
  rw [e] at hset
  rw [or_add hm,h1,Nat.mul_add,Nat.mul_one]
  have e2:vl q=2 ^ j*(2*(N / 2 ^ (j+1) / y)):=by rw [h.val,Nat.pow_succ,Nat.mul_assoc]
  omega
 ·rw [h2,<- h.rest]; omega
theorem BitSt.done {N y m:Nat} {q:List Nat} {R:Nat} (h:BitSt N y m 0 q R):vl q=N / y/\R=N % y:=by
 have h1:=h.val
 have h2:=h.rest
 simp at h1 h2
 exact ⟨h1,h2⟩
theorem and_one_u32 {x:Nat} (h:x<4294967296):bits BinOp.and .u32 (x:Int) 1=((x % 2:Nat):Int):=by
 have:=u32_and_nat x 1 h (by decide)
 rw [Nat.and_one_is_mod] at this
 exact this
theorem Bit_any (w:World) (v:Value) (l:List Nat) (h:Rds w v l) (i:Nat) (hi:i<32*l.length) (hl:l.length<=268435455):Calls Tryz.prog 175 #[v,.int .i64 i] w fun r w'=>r=.returned (.int .u32 (vl l / 2 ^ i % 2:Nat))/\w'=w:=by
 obtain ⟨ao,c,rfl,_⟩:=id h.2
 obtain ⟨m,hm⟩:∃ m,l.length=m:=⟨_,rfl⟩
 obtain ⟨b,off,rfl,_⟩:=h.base (by omega)
 have ht:i / 32<l.length:=by omega
 have c0:=h.at.2 (i / 32) ht
 have hb:=bit_at h.1 i
 have hdl:=dgt_lt h.1 (i / 32)
 rw [<- hb]
 rw [hm] at h ht hi hl ⊢
 have hs:i % 32<32:=Nat.mod_lt _ (by omega)
 have t1:(i:Int).tdiv 32=((i / 32:Nat):Int):=rfl
 have t2:(i:Int).tmod 32=((i % 32:Nat):Int):=rfl
 obtain ⟨t,hte⟩:∃ t,i / 32=t:=⟨_,rfl⟩
 obtain ⟨s,hse⟩:∃ s,i % 32=s:=⟨_,rfl⟩
 rw [hte] at t1 c0 ht hdl ⊢
 rw [hse] at t2 hs ⊢
 generalize dgt l t=d at *
 have w1:IntKind.i64.wrap (t:Int)=t:=IntWalk.i64_in _ (by omega)
 have e1:(t:Int)<(m:Int):=by omega
 have e2:(0:Int)<=(t:Int):=by omega
 have e3:(0:Int)<=(s:Int):=by omega
 have hq:d / 2 ^ s<4294967296:=Nat.lt_of_le_of_lt (Nat.div_le_self _ _) hdl
 have q1:(d:Int) / 2 ^ s=((d / 2 ^ s:Nat):Int):=by rw [Int.natCast_ediv,Int.natCast_pow]; rfl
 obtain ⟨f,hf⟩:∃ f,d / 2 ^ s=f:=⟨_,rfl⟩
 rw [hf] at q1 hq ⊢
 have q2:=and_one_u32 hq
 obtain ⟨g,hg⟩:∃ g,f % 2=g:=⟨_,rfl⟩
 rw [hg] at q2 ⊢
 have e4:(s:Int)<=64:=by omega
 clear hf hg
 clear h hb hte hse hq
 go_enter Tryz.func175,Tryz.ntmps175
 go_wp2
 go_ret
 exact ⟨rfl,rfl⟩
def RDivPost (w:World) (x y:Nat) (r:Ending) (w':World):Prop:=∃ v1 v2,r=.returned (.tuple #[v1,v2,.int .i64 0])/\IsNat w' v1 (x / y)/\IsNat w' v2 (x % y)/\XF w w'
theorem Rds.apart {S:Nat->Prop} {w w':World} {v:Value} {l:List Nat} (h:Rds w v l) (hx:Ext S w w') (hn:∀ g,v.ownBlock=some g->¬ S g):Rds w' v l:=by
 obtain ⟨h0,ao,c,rfl,h1,h2,h3,h4⟩:=h
 refine ⟨h0,ao,c,rfl,h1,h2,h3,fun hp=>?_⟩
 obtain ⟨b,off,rfl,hbl,hc⟩:=h4 hp
 have hb:=hn b rfl
 exact ⟨b,off,rfl,Nat.lt_of_lt_of_le hbl hx.size,fun i d hi=>(hx.cell (p:=⟨b,off+i,none⟩) hbl hb).trans (hc i d hi)⟩
theorem Rdivmod_any (w:World) (va vb:Value) (a b:List Nat) (ha:Rds w va a) (hb:Rds w vb b) (hal:a.length<=134217727) (hbl:b.length<=134217727) (hy:¬ vl b=0) :
  Calls Tryz.prog 127 #[va,vb] w (RDivPost w (vl a) (vl b)):=by
 have HT:=bH (Trim_any w vb b hb (by omega))
 have hyl:=trimL_length b hb.1
 unfold trimL at hyl
 generalize vl b=y at *
 have hy0:0<y:=Nat.pos_of_ne_zero hy
 obtain ⟨m,hm⟩:∃ m,a.length=m:=⟨_,rfl⟩
 obtain ⟨k,hk⟩:∃ k,(dg y).length=k:=⟨_,rfl⟩
 have hN:vl a<4294967296 ^ m:=by have:=vl_lt ha.1; rwa [hm] at this
 have hkl:k<=134217727:=by omega
 have hk0:¬ (k:Int)=0:=by
  intro h
  exact hy (dg_eq_nil.1 (List.eq_nil_of_length_eq_zero (by omega)))
 have hkb:((k:Int) == 0)=false:=by simpa using hk0
 obtain ⟨ao,ac,rfl,_⟩:=id ha.2
 rw [hm] at ha hal ⊢
 have Ha:=bH ha
 have Hm:=bH (bI hm hk)
 have HN:=bH (BitSt.start (y:=y) hN)
 have Hbit:=bH (fun W (hW:XF w W) i (hi:i<32*m)=>Bit_any W _ a (ha.keep hW) i (by rw [hm]; exact hi) (by omega))
 clear ha hb hbl hyl hm hk hN
 generalize vl a=N at *
 go_enter Tryz.func127,Tryz.ntmps127
 go_wp2_with fail
 refine HT.out.mono ?_
 rintro r w1 ⟨v1,rfl,h1,hx1⟩
 have h1':=h1
 obtain ⟨bo,bc,rfl⟩:=h1'.shape
 rw [Hm.out.2] at h1 h1' ⊢
 obtain ⟨w2,hmk,hQ,hxq⟩:=run_make_nat w1 m (by omega)
 obtain ⟨Q,hQe⟩:∃ Q,w1.heap.size=Q:=⟨_,rfl⟩
 rw [hQe] at hmk hQ
 have hQl:=hQ.lt
 have hx3:XF w2 (w2.alloc (.cells #[] 129)):=(Ext.refl _ w2).alloc _
 have hw1:=hx1.size
 have HI:=bH (bI (hQ.ext hx3) (bI ((own_empty (blk_alloc_at w2 (.cells #[] 129)) 0 (Nat.zero_le _)).rds Dig.nil) (hxq.trans hx3)))
 have H1:=bH (bI h1 hx1)
 clear h1 h1' hx1 hQ hxq hx3 HT
 have hb32:(32:Int)*m - 1=(32*m:Nat) - 1:=by omega
 go_wp2_with fail
 go_loopg [8,9] (32*m) (fun g v8 v9 wr=>∃ (j:Nat) (q:List Nat) (R:Nat),j<=32*m/\g=j/\v9=.int .i64 ((j:Int) - 1)/\BitSt N y m j q R/\Arr wr Q q/\IsNat wr v8 R/\(∀ g,v8.ownBlock=some g->Q<g)/\XF w1 wr)
 case atStart =>
  refine ⟨32*m,_,0,Nat.le_refl _,rfl,by go_num,HN.out,HI.out.1,?_,?_,HI.out.2.2⟩
  ·unfold IsNat; rw [dg_zero]; exact HI.out.2.1
  ·intro g e; cases e; omega
 case round =>
  rename_i v8
  obtain ⟨j,q,R,hj,hg,rfl,hst,hAq,hR,hRo,hx⟩:=hrel
  obtain rfl:=hg.symm
  clear HN HI hmk
  obtain ⟨aoR,capR,rfl⟩:=hR.shape
  by_cases h0:j=0
  ·subst h0
   obtain ⟨hq,hr⟩:=hst.done
   have hqr:=hAq.rds hst.dig (by rw [hst.len]; omega)
   rw [hst.len] at hqr
   have hT:=Trim_any wr _ q hqr (by rw [hst.len]; omega)
   rw [hq] at hT
   rw [hr] at hR
   have HT:=bH hT
   have HRr:=bH hR
   have Hx:=bH (H1.out.2.trans hx)
   have p0:((0:Nat):Int) - 1 = -1:=by omega
   rw [p0]
   rw [hr]
   clear hst hAq hR hRo hx hq hr hqr hT p0
   generalize (dg (N % y)).length=lr at *
   go_wp2_with fail
   refine HT.out.mono ?_
   rintro r6 w6 ⟨v6,rfl,h6,hx6⟩
   have HP:Hid (RDivPost w N y (.returned (.tuple #[v6,.slice aoR lr capR,.int .i64 0])) w6):=bH ⟨v6,_,rfl,h6,HRr.out.keep hx6,Hx.out.trans hx6⟩
   clear h6 hx6
   go_wp2
   go_ret3
   exact HP.out
  ·obtain ⟨i,rfl⟩:∃ i,j=i+1:=⟨j - 1,by omega⟩
   have p1:((i+1:Nat):Int) - 1=i:=by omega
   rw [p1]
   have hRy:R<y:=by rw [hst.rest]; exact Nat.mod_lt _ hy0
   have hRl:(dg R).length<=k:=by have:=dg_mono (Nat.le_of_lt hRy); rw [Hm.out.2] at this; exact this
   have hA1:=Radd_new wr _ _ _ _ hR hR (by omega) (by omega)
   rw [vl_dg] at hA1
   obtain ⟨lR,hlR⟩:∃ lR,(dg R).length=lR:=⟨_,rfl⟩
   rw [hlR] at hA1 ⊢
   have hbl:N / 2 ^ i % 2<2:=Nat.mod_lt _ (by omega)
   have hkeep:=fun h=>hst.keep hy0 h
   have hturn:=fun h=>hst.turn hy0 (by omega) h
   have hBt:=Hbit.out
   have hlen2:(dg (R+R)).length<=k+1:=by
    have h3:=Nat.lt_of_lt_of_le (dg_lt R) (pow_mono hRl)
    have:=dg_len_add h3 h3
    omega
   generalize hbe:N / 2 ^ i % 2=bt at *
   have HA1:=bH hA1
   have HS:=bH (bI hAq (bI hx (bI hst.dig hst.len)))
   have HK:=bH (bI hkeep hturn)
   have HL2:=bH hlen2
   have hRk:=bH hRo
   clear hst hAq hR hRo hx hRl hA1 hkeep hturn hBt hlR hlen2
   go_wp2_with fail
   refine HA1.out.mono ?_
   rintro r3 w3 ⟨v3,rfl,h3,hx3,hg3⟩
   have hBt:=Hbit.out w3 (H1.out.2.trans (HS.out.2.1.trans hx3)) i (by omega)
   rw [hbe] at hBt
   have HBt:=bH hBt
   have H3:=bH (bI h3 hx3)
   obtain ⟨ao3,c3,rfl⟩:=h3.shape
   clear h3 hx3 hg3 hBt HA1 hbe
   go_wp2_with fail
   refine HBt.out.mono ?_
   rintro r4 w' ⟨rfl,hw⟩; obtain rfl:=hw.symm
   clear hw HBt
   have hx4:XF w3 (w3.alloc (.cells #[.int .u32 (bt:Nat)] 129)):=(Ext.refl _ w3).alloc _
   have hr4:Rds (w3.alloc (.cells #[.int .u32 (bt:Nat)] 129)) (.slice (some ⟨w3.heap.size,0,none⟩) 1 1) [bt]:=by
    refine ⟨Dig.cons (by omega) Dig.nil,_,1,rfl,Nat.le_refl _,by unfold maxLen; omega,fun h=>(by cases h),fun _=>⟨_,0,rfl,by simp,fun i d hi=>?_⟩⟩
    have:=cells_new (w:=w3) [.int .u32 (bt:Nat)] 129 rfl i (dv d) (by
     match i,hi with
     | 0,hi=>simp at hi ⊢; subst hi; rfl
     | i+1,hi=>simp at hi)
    rwa [Addr.add_lit] at this
   have hA2:=Radd_new _ _ _ _ _ (H3.out.1.keep hx4) hr4 (by have:=HL2.out; omega) (by simp)
   rw [vl_dg,show vl [bt]=bt by simp [vl]] at hA2
   have HA2:=bH hA2
   have HX4:=bH (H3.out.2.trans hx4)
   generalize (dg (R+R)).length=lRR at *
   clear hx4 hr4 hA2 H3
   go_wp2_with fail
   refine HA2.out.mono ?_
   rintro r5 w5 ⟨v5,rfl,h5,hx5,hg5⟩
   have HX5:=bH ((HS.out.2.1.trans HX4.out).trans hx5)
   have hA5:=HS.out.1.ext (HX4.out.trans hx5)
   have hQ5:∀ g,v5.ownBlock=some g->Q<g:=fun g e=>by
    have h1:=hg5 g e
    have h2:=HX4.out.size
    have h3:=HS.out.1.lt
    omega
   obtain ⟨ao5,c5,rfl⟩:=h5.shape
   obtain ⟨T,hT⟩:∃ T,R+R+bt=T:=⟨_,rfl⟩
   rw [hT] at h5 HK hQ5 ⊢
   have hTl:(dg T).length<=k+1:=by
    have h1:=Nat.lt_of_lt_of_le (dg_lt y) (pow_mono (Nat.le_of_eq Hm.out.2))
    refine dg_length_le ?_
    rw [pow_next]
    omega
   have hC:=Rcmp_any w5 _ _ _ _ h5 (H1.out.1.keep HX5.out) (by omega) (by have:=Hm.out.2; omega)
   rw [vl_dg,vl_dg] at hC
   have hD:=fun W (hW:XF w5 W) (h:y<=T)=>Rsub_any W _ _ _ _ (Rds.keep h5 hW) (Rds.keep H1.out.1 (HX5.out.trans hW)) (by omega) (by have:=Hm.out.2; omega) (by rw [vl_dg,vl_dg]; exact h)
   rw [vl_dg,vl_dg] at hD
   obtain ⟨lT,hlT⟩:∃ lT,(dg T).length=lT:=⟨_,rfl⟩
   rw [hlT] at hC hD ⊢ h5 hQ5
   have HC:=bH hC
   have HD:=bH hD
   have H5:=bH (bI h5 (bI hQ5 hA5))
   clear hA5 h5 hx5 hg5 hC hD hT hlT HA2 HX4 hQ5
   by_cases hTy:T<y
   ·have e:cmpN T y = -1:=by unfold cmpN; rw [if_pos hTy]
    rw [e] at HC
    have HKK:=bH (HK.out.1 hTy)
    clear e HK HD hTy
    go_wp2_with fail
    refine HC.out.mono ?_
    rintro r6 w6 ⟨rfl,hx6⟩
    have HF:Hid (Arr w6 Q q/\IsNat w6 (.slice ao5 lT c5) T/\XF w1 w6):=bH ⟨H5.out.2.2.ext hx6,H5.out.1.keep hx6,HX5.out.trans hx6⟩
    clear hx6
    go_wp2
    go_roundg i
    case measure=>omega
    case rel=>exact ⟨i,q,T,by omega,rfl,by go_num,HKK.out,HF.out.1,HF.out.2.1,H5.out.2.1,HF.out.2.2⟩
   ·have e:¬ cmpN T y<0:=by unfold cmpN; rw [if_neg hTy]; split <;> omega
    have e':0<=cmpN T y:=by omega
    generalize cmpN T y=cq at *
    have HKK:=bH (HK.out.2 (by omega))
    have HTy:=bH hTy
    clear e HK hTy
    go_wp2_with fail
    refine HC.out.mono ?_
    rintro r6 w6 ⟨rfl,hx6⟩
    have HD6:=bH (HD.out w6 hx6 (by have:=HTy.out; omega))
    have HF:=bH (bI (H5.out.2.2.ext hx6) (HX5.out.trans hx6))
    have hsz:=HX5.out.size
    have hsz6:=hx6.size
    have hQs:=H5.out.2.2.lt
    clear hx6 HC HD
    go_wp2_with fail
    refine HD6.out.mono ?_
    rintro r7 w7 ⟨v7,rfl,h7,hx7,hg7⟩
    have hA7:=HF.out.1.ext hx7
    have hQ7:∀ g,v7.ownBlock=some g->Q<g:=fun g e=>by
     have h1:=hg7 g e
     omega
    obtain ⟨ao7,c7,rfl⟩:=h7.shape
    have hs32:i % 32<32:=Nat.mod_lt _ (by omega)
    have htm:i / 32<m:=by omega
    have hlq:=HS.out.2.2.2
    have cq0:=hA7.cell (i / 32) (by omega)
    have f0:=hA7.free (i / 32)
    have hdl:=dgt_lt HS.out.2.2.1 (i / 32)
    have hor:=HKK.out.1
    have t1:(i:Int).tdiv 32=((i / 32:Nat):Int):=rfl
    have t2:(i:Int).tmod 32=((i % 32:Nat):Int):=rfl
    have HSet:=bH HKK.out.2
    obtain ⟨t,hte⟩:∃ t,i / 32=t:=⟨_,rfl⟩
    obtain ⟨s,hse⟩:∃ s,i % 32=s:=⟨_,rfl⟩
    rw [hte] at t1 cq0 f0 htm hdl hor HSet
    rw [hse] at t2 hs32 hor HSet
    obtain ⟨d,hde⟩:∃ d,dgt q t=d:=⟨_,rfl⟩
    rw [hde] at cq0 hdl hor HSet
    obtain ⟨P,hP⟩:∃ P,2 ^ s=P:=⟨_,rfl⟩
    have hPl:P<4294967296:=by rw [<- hP]; exact Nat.pow_lt_pow_right (a:=2) (n:=32) (by omega) hs32
    obtain ⟨d2,hd2⟩:∃ d2,d ||| P=d2:=⟨_,rfl⟩
    have horb:bits BinOp.or .u32 (d:Int) (P:Int)=(d2:Int):=by rw [u32_or_nat d P hdl hPl,hd2]
    rw [hP,hd2] at HSet hor
    have hPi:(2:Int) ^ s=(P:Int):=by rw [<- hP,Int.natCast_pow]; rfl
    have w1':IntKind.i64.wrap (t:Int)=t:=IntWalk.i64_in _ (by omega)
    have w2':IntKind.u32.wrap (P:Int)=P:=IntWalk.u32_in _ (by omega)
    have w3':IntKind.u32.wrap ((1:Int)*P)=P:=by rw [Int.one_mul]; exact w2'
    have e1:(t:Int)<(m:Int):=by omega
    have e2:(0:Int)<=(t:Int):=by omega
    have e3:(0:Int)<=(s:Int):=by omega
    have e4:(s:Int)<=64:=by omega
    have HA7:=bH (bI hA7 (bI h7 (bI hQ7 (HF.out.2.trans hx7))))
    clear hA7 h7 hx7 hg7 hQ7 HKK hte hse hde hP hd2 HF HD6 hlq
    generalize (dg (T - y)).length=l7 at *
    go_upto_region 12 with fail
    go_region
    have hxs:Ext (fun z=>z=Q) w7 (w7.setCell ⟨Q,t,none⟩ (.int .u32 (d2:Nat))).drew:=((Ext.refl (fun z=>z=Q) w7).setCell (p:=⟨Q,t,none⟩) (.int .u32 (d2:Nat)) (fun _=>rfl)).drew
    have hA8:=(HA7.out.1.set t d2).ext ((Ext.refl (fun _=>False) _).drew)
    have hR8:=HA7.out.2.1.apart hxs (fun g e=>by have:=HA7.out.2.2.1 g e; omega)
    have hX8:=HA7.out.2.2.2.own hxs (fun z e=>by omega)
    have HF8:=bH (bI hA8 (bI hR8 (bI HA7.out.2.2.1 hX8)))
    clear hxs hA8 hR8 hX8 HA7
    go_wp2
    go_roundg i
    case measure=>omega
    case rel=>exact ⟨i,_,_,by omega,rfl,by go_num,HSet.out,HF8.out.1,HF8.out.2.1,HF8.out.2.2.1,HF8.out.2.2.2⟩
theorem Rgcd_any (w:World) (va vb:Value) (a b:List Nat) (ha:Rds w va a) (hb:Rds w vb b) (hal:a.length<=134217727) (hbl:b.length<=134217727) :
  Calls Tryz.prog 126 #[va,vb] w (NatPost w (Nat.gcd (vl a) (vl b))):=by
 have Fa:=bH (Trim_any w va a ha (by omega))
 have Fb:=bH (fun W (hW:XF w W)=>Trim_any W vb b (hb.keep hW) (by omega))
 have la:=trimL_length a ha.1
 have lb:=trimL_length b hb.1
 unfold trimL at la lb
 have hla:(dg (vl a)).length<=134217727:=by omega
 have hlb:(dg (vl b)).length<=134217727:=by omega
 generalize vl a=x0 at *
 generalize vl b=y0 at *
 have HL:=bH (bI hla hlb)
 clear ha hb hal hbl la lb hla hlb
 go_enter Tryz.func126,Tryz.ntmps126
 go_wp2_with fail
 refine Fa.out.mono ?_
 rintro r w1 ⟨v1,rfl,h1,hx1⟩
 have Fb1:=bH (Fb.out w1 hx1)
 have H1:=bH (bI h1 hx1)
 clear h1 hx1 Fa Fb
 go_wp2_with fail
 refine Fb1.out.mono ?_
 rintro r w2 ⟨v2,rfl,h2,hx2⟩
 have HI:=bH (bI (H1.out.1.keep hx2) (bI h2 (H1.out.2.trans hx2)))
 clear h2 hx2 Fb1 H1
 go_wp2_with fail
 go_loopg [0,1] y0 (fun g v0 v1 wr=>∃ x y:Nat,g=y/\IsNat wr v0 x/\IsNat wr v1 y/\(dg x).length<=134217727/\(dg y).length<=134217727/\Nat.gcd x y=Nat.gcd x0 y0/\XF w wr)
 case atStart=>exact ⟨x0,y0,rfl,HI.out.1,HI.out.2.1,HL.out.1,HL.out.2,rfl,HI.out.2.2⟩
 case round =>
  rename_i v0 v1
  obtain ⟨x,y,hg,h0,h1,hlx,hly,hgc,hx⟩:=hrel
  obtain rfl:=hg.symm
  clear HI HL
  have h0':=h0
  have h1':=h1
  obtain ⟨ao,ca,rfl,_⟩:=h0'.2
  obtain ⟨bo,cb,rfl,_⟩:=h1'.2
  by_cases hy:y=0
  ·subst hy
   rw [Nat.gcd_zero_right] at hgc
   rw [dg_zero]
   have HP:Hid (NatPost w (Nat.gcd x0 y0) (.returned (.slice ao (dg x).length ca)) wr):=bH ⟨_,rfl,by rw [<- hgc]; exact h0,hx⟩
   clear h0 h1 h0' h1' hgc hx hlx hly
   generalize (dg x).length=lx at *
   simp only [List.length_nil]
   go_wp2
   go_ret
   exact HP.out
  ·obtain ⟨m,hm⟩:∃ m,(dg x).length=m:=⟨_,rfl⟩
   obtain ⟨k,hk⟩:∃ k,(dg y).length=k:=⟨_,rfl⟩
   have hk0:0<k:=by
    rcases Nat.eq_zero_or_pos k with h | h
    ·exact absurd (dg_eq_nil.1 (List.eq_nil_of_length_eq_zero (hk.trans h))) hy
    ·exact h
   have hki:(0:Int)<(k:Int):=by omega
   have HD:=Rdivmod_any wr _ _ _ _ h0 h1 hlx hly (by rw [vl_dg]; exact hy)
   rw [vl_dg,vl_dg,hm,hk] at HD
   have H0:=bH (bI h0 (bI h1 (bI hx hgc)))
   have Hm:=bH (bI hm (bI hk (bI hlx hly)))
   rw [hm,hk]
   have HD':=bH HD
   have hlt:=Nat.mod_lt x (Nat.pos_of_ne_zero hy)
   have hmono:=dg_mono (Nat.le_of_lt hlt)
   have hgn:Nat.gcd y (x % y)=Nat.gcd x0 y0:=by rw [<- hgc,Nat.gcd_comm y,<- Nat.gcd_rec,Nat.gcd_comm]
   have HN:=bH (bI hlt (bI hgn (Nat.le_trans hmono hly)))
   clear h0 h1 h0' h1' hgc hx hlx hly hm hk HD hy hlt hmono hgn
   go_wp2_with fail
   refine HD'.out.mono ?_
   rintro r w9 ⟨v8,v9,rfl,_,h9,hx9⟩
   have HF:Hid (IsNat w9 (.slice bo k cb) y/\IsNat w9 v9 (x % y)/\XF w w9):=bH ⟨by have:=H0.out.2.1.keep hx9; rw [Hm.out.2.1] at this; exact this,h9,H0.out.2.2.1.trans hx9⟩
   clear h9 hx9
   go_wp2
   go_roundg (x % y)
   case measure=>exact HN.out.1
   case rel=>exact ⟨y,x % y,rfl,HF.out.1,HF.out.2.1,Hm.out.2.2.2,HN.out.2.2,HN.out.2.1,HF.out.2.2⟩
theorem dg_pos_len (n:Nat):decide (0<(dg n).length)=decide (0<n):=by
 by_cases h:n=0
 ·subst h; rw [dg_zero]; rfl
 ·have h1:¬ (dg n).length=0:=fun e=>h (dg_eq_nil.1 (List.eq_nil_of_length_eq_zero e))
  rw [decide_eq_true (by omega:0<n),decide_eq_true (by omega:0<(dg n).length)]
theorem Rbuild_any (w:World) (neg:Bool) (v:Value) (l:List Nat) (h:Rds w v l) (hl:l.length<=268435455) :
  Calls Tryz.prog 102 #[.bool neg,v] w (IntPost w (sg neg (vl l))):=by
 have HT:=bH (fun W (hW:XF w W)=>Trim_any W v l (h.keep hW) (by omega))
 generalize vl l=n at *
 clear h hl
 go_enter Tryz.func102,Tryz.ntmps102
 go_wp2_with fail
 refine (HT.out _ ((Ext.refl _ w).alloc _)).mono ?_
 rintro r w1 ⟨v1,rfl,h1,hx1⟩
 have hb1:=(boxI_new (W:=w) rfl false none 0 0).ext hx1 id
 have hX1:=((Ext.refl (fun _=>False) w).alloc (.cells #[.bool false,.slice none 0 0] 62)).trans hx1
 have hi:=IsInt.mk neg h1
 rw [<- dg_pos_len] at hi
 obtain ⟨ao,c,rfl⟩:=h1.shape
 obtain ⟨f0,f1,f2,f3⟩:=hb1.facts
 obtain ⟨m,hm⟩:∃ m,(dg n).length=m:=⟨_,rfl⟩
 rw [hm] at hi h1 ⊢
 obtain ⟨s,hs⟩:∃ s,(neg && decide (0<m))=s:=⟨_,rfl⟩
 rw [hs] at hi
 have hp:=hb1.put (neg:=s) (no_int ao m c)
 have HR:=bH (bI (hp.int hi) (bI (hX1.own hp.ext (fun k e=>by omega)) hp.box))
 have Hs:=bH hs
 clear hp hi h1 hx1 hX1 hb1 HT hm hs
 cases neg
 ·have hs:=Hs.out
  rw [Bool.false_and] at hs
  subst hs
  go_wp2
  generalize (w1.setCell ⟨w.heap.size,0,none⟩ (.bool false)).setCell ⟨w.heap.size,1,none⟩ (.slice ao m c)=w9 at *
  obtain ⟨g0,g1,_⟩:=HR.out.2.2.facts
  exact bodyPost_ret (v:=.agg #[.bool false,.slice ao m c]) (by simp [results,Tryz.results102,go_sem,g0,g1]) rfl ⟨_,rfl,HR.out.1,HR.out.2.1⟩
 ·have hs:=Hs.out
  rw [Bool.true_and] at hs
  subst hs
  go_wp2
  generalize (w1.setCell ⟨w.heap.size,0,none⟩ (.bool (decide (0<m)))).setCell ⟨w.heap.size,1,none⟩ (.slice ao m c)=w9 at *
  obtain ⟨g0,g1,_⟩:=HR.out.2.2.facts
  exact bodyPost_ret (v:=.agg #[.bool (decide (0<m)),.slice ao m c]) (by simp [results,Tryz.results102,go_sem,g0,g1]) rfl ⟨_,rfl,HR.out.1,HR.out.2.1⟩
theorem Rfix_any (w:World) (v:Value) (z:Int) (L:Nat) (h:Rint w v z L) (hL:L<=268435455) :
  Calls Tryz.prog 100 #[v] w (IntPost w (z)):=by
 obtain ⟨neg,ao,m,c,l,rfl,hr,hl,rfl⟩:=h.open
 have HB:=bH (fun W (hW:XF w W)=>Rbuild_any W neg _ l (hr.keep hW) (by omega))
 generalize vl l=n at *
 clear h hr hl
 go_enter Tryz.func100,Tryz.ntmps100
 go_wp2_with fail
 refine (HB.out _ (((Ext.refl _ w).alloc _).alloc _)).mono ?_
 rintro r w1 ⟨v1,rfl,h1,hx1⟩
 obtain ⟨rb,hrb⟩:∃ rb,w.heap.size+1=rb:=⟨_,rfl⟩
 have hb1:=(boxI_new (W:=w.alloc (.cells #[.bool neg,.slice ao m c] 62)) (k:=rb) (by simp; omega) false none 0 0).ext hx1 id
 have hX1:=(((Ext.refl (fun _=>False) w).alloc _).alloc _).trans hx1
 obtain ⟨neg1,so,sn,sc,rfl⟩:=h1.shape
 obtain ⟨f0,f1,f2,f3⟩:=hb1.facts
 have hp:=hb1.put (neg:=neg1) (no_int so sn sc)
 have HR:=bH (bI (hp.int h1) (bI (hX1.own hp.ext (fun k e=>by omega)) hp.box))
 clear hp h1 hx1 hX1 hb1 HB
 rw [hrb]
 go_wp2
 generalize (w1.setCell ⟨rb,0,none⟩ (.bool neg1)).setCell ⟨rb,1,none⟩ (.slice so sn sc)=w9 at *
 obtain ⟨g0,g1,_⟩:=HR.out.2.2.facts
 exact bodyPost_ret (v:=.agg #[.bool neg1,.slice so sn sc]) (by simp [results,Tryz.results100,go_sem,g0,g1]) rfl ⟨_,rfl,HR.out.1,HR.out.2.1⟩
theorem Rneg_any (w:World) (v:Value) (z:Int) (L:Nat) (h:Rint w v z L) (hL:L<=268435455) :
  Calls Tryz.prog 101 #[v] w (IntPost w (-z)):=by
 obtain ⟨neg,ao,m,c,l,rfl,hr,hl,rfl⟩:=h.open
 have HB:=bH (fun W (hW:XF w W)=>Rbuild_any W (!neg) _ l (hr.keep hW) (by omega))
 rw [sg_not] at HB
 generalize vl l=n at *
 clear h hr hl
 go_enter Tryz.func101,Tryz.ntmps101
 go_wp2_with fail
 refine (HB.out _ (((Ext.refl _ w).alloc _).alloc _)).mono ?_
 rintro r w1 ⟨v1,rfl,h1,hx1⟩
 obtain ⟨rb,hrb⟩:∃ rb,w.heap.size+1=rb:=⟨_,rfl⟩
 have hb1:=(boxI_new (W:=w.alloc (.cells #[.bool neg,.slice ao m c] 62)) (k:=rb) (by simp; omega) false none 0 0).ext hx1 id
 have hX1:=(((Ext.refl (fun _=>False) w).alloc _).alloc _).trans hx1
 obtain ⟨neg1,so,sn,sc,rfl⟩:=h1.shape
 obtain ⟨f0,f1,f2,f3⟩:=hb1.facts
 have hp:=hb1.put (neg:=neg1) (no_int so sn sc)
 have HR:=bH (bI (hp.int h1) (bI (hX1.own hp.ext (fun k e=>by omega)) hp.box))
 clear hp h1 hx1 hX1 hb1 HB
 rw [hrb]
 go_wp2
 generalize (w1.setCell ⟨rb,0,none⟩ (.bool neg1)).setCell ⟨rb,1,none⟩ (.slice so sn sc)=w9 at *
 obtain ⟨g0,g1,_⟩:=HR.out.2.2.facts
 exact bodyPost_ret (v:=.agg #[.bool neg1,.slice so sn sc]) (by simp [results,Tryz.results101,go_sem,g0,g1]) rfl ⟨_,rfl,HR.out.1,HR.out.2.1⟩
theorem Risign_any (w:World) (v:Value) (z:Int) (L:Nat) (h:Rint w v z L) (hL:L<=268435455) :
  Calls Tryz.prog 123 #[v] w fun r w'=>r=.returned (.int .i64 z.sign)/\XF w w':=by
 have HF:=bH (fun W (hW:XF w W)=>Rfix_any W v z L (h.keep hW) hL)
 obtain ⟨neg,ao,m,c,l,rfl,hr,hl,rfl⟩:=h.open
 generalize sg neg (vl l)=z at *
 obtain ⟨S,hS⟩:∃ S,z.sign=S:=⟨_,rfl⟩
 rw [hS]
 have HSS:=bH hS
 clear h hr hl hS
 go_enter Tryz.func123,Tryz.ntmps123
 go_wp2_with fail
 refine (HF.out _ ((Ext.refl _ w).alloc _)).mono ?_
 rintro r w1 ⟨v1,rfl,h1,hx1⟩
 have hb1:=(boxI_new (W:=w) rfl neg ao m c).ext hx1 id
 have hX1:=((Ext.refl (fun _=>False) w).alloc _).trans hx1
 obtain ⟨mag,hv,hm⟩:=h1
 obtain ⟨so,sc,rfl⟩:=hm.shape
 subst hv
 obtain ⟨f0,f1,f2,f3⟩:=hb1.facts
 have hp:=hb1.put (neg:=decide (z<0)) (no_int so (dg z.natAbs).length sc)
 have HR:=bH (bI (hX1.own hp.ext (fun k e=>by omega)) hp.box)
 obtain ⟨k,hk⟩:∃ k,(dg z.natAbs).length=k:=⟨_,rfl⟩
 have hk0:k=0↔z=0:=by
  rw [<- hk]
  constructor
  ·intro h; have:=dg_eq_nil.1 (List.eq_nil_of_length_eq_zero h); omega
  ·rintro rfl; rw [show (0:Int).natAbs=0 from rfl,dg_zero]; rfl
 obtain ⟨s,hs⟩:∃ s,decide (z<0)=s:=⟨_,rfl⟩
 rw [hk,hs] at HR ⊢
 have Hs:=bH hs
 clear hp hx1 hX1 hb1 HF hm hk hs
 obtain ⟨W9,hW9⟩:∃ W9,(w1.setCell ⟨w.heap.size,0,none⟩ (.bool s)).setCell ⟨w.heap.size,1,none⟩ (.slice so k sc)=W9:=⟨_,rfl⟩
 go_upto_region 2 with fail
 rw [hW9] at HR
 obtain ⟨g0,g1,_⟩:=HR.out.2.facts
 clear hW9 f0 f1 f2 f3
 by_cases h0:k=0
 ·subst h0
  have hz:z=0:=hk0.1 rfl
  subst hz
  obtain rfl:S=0:=HSS.out.symm
  clear hk0
  go_wp2
  go_ret
  exact ⟨rfl,HR.out.1⟩
 ·have hk1:¬ (k:Int)=0:=by omega
  have hkb:((k:Int) == 0)=false:=by simpa using hk1
  have hz:¬ z=0:=fun e=>h0 (hk0.2 e)
  clear hk0
  by_cases hn:z<0
  ·have hsv:s=true:=by rw [<- Hs.out]; exact decide_eq_true hn
   subst hsv
   obtain rfl:S = -1:=by rw [<- HSS.out]; exact Int.sign_eq_neg_one_of_neg hn
   clear hn hz
   go_wp2
   go_ret
   exact ⟨rfl,HR.out.1⟩
  ·have hsv:s=false:=by rw [<- Hs.out]; exact decide_eq_false hn
   subst hsv
   obtain rfl:S=1:=by rw [<- HSS.out]; exact Int.sign_eq_one_of_pos (by omega)
   clear hn hz
   go_wp2
   go_ret
   exact ⟨rfl,HR.out.1⟩
theorem Rifrom_any (w:World) (k:Int) (h0:-9223372036854775808<=k) (h1:k<=9223372036854775807) :
  Calls Tryz.prog 56 #[.int .i64 k] w (IntPost w k):=by
 by_cases hk:k<0
 ·obtain ⟨n,hn⟩:∃ n:Nat,k = -((n:Int)+1):=⟨k.natAbs - 1,by omega⟩
  have hnl:n<9223372036854775808:=by omega
  have HF:=bH (fun W=>Rfrom_any W n (by omega))
  have HA:=bH (fun W u u' h h'=>Radd_any W u u' (dg n) [1] h h' (Nat.le_trans (dg_two (n:=n) (by omega)).1 (by decide)) (by simp))
  rw [vl_dg,show vl [1]=1 from rfl] at HA
  have HS:=bH (fun W v h=>Rbuild_any W true v (dg (n+1)) h (Nat.le_trans (dg_two (n:=n+1) (by omega)).1 (by decide)))
  have hz:sg true (n+1)=k:=by unfold sg; simp; omega
  rw [vl_dg,hz] at HS
  have q0:k+1 = -(n:Int):=by omega
  have q1:-(-(n:Int))=n:=by omega
  have q2:IntKind.u64.wrap (n:Int)=n:=by rw [wrapU]; omega
  have q3:IntKind.i64.wrap (-(n:Int)) = -n:=IntWalk.i64_in _ (by omega)
  have q4:IntKind.i64.wrap (n:Int)=n:=IntWalk.i64_in _ (by omega)
  clear hz hn
  go_enter Tryz.func56,Tryz.ntmps56
  go_wp2_with fail
  refine (HF.out _).mono ?_
  rintro r w1 ⟨v1,rfl,h1,hx1⟩
  have hx2:XF w1 (w1.alloc (.cells #[.int .u32 1] 129)):=(Ext.refl _ w1).alloc _
  have hr2:Rds (w1.alloc (.cells #[.int .u32 1] 129)) (.slice (some ⟨w1.heap.size,0,none⟩) 1 1) [1]:=by
   refine ⟨Dig.cons (by omega) Dig.nil,_,1,rfl,Nat.le_refl _,by unfold maxLen; omega,fun h=>(by cases h),fun _=>⟨_,0,rfl,by simp,fun i d hi=>?_⟩⟩
   have:=cells_new (w:=w1) [.int .u32 1] 129 rfl i (dv d) (by
    match i,hi with
    | 0,hi=>simp at hi ⊢; subst hi; rfl
    | i+1,hi=>simp at hi)
   rwa [Addr.add_lit] at this
  have HA1:=bH (HA.out _ _ _ (h1.keep hx2) hr2)
  obtain ⟨ao,c,rfl⟩:=h1.shape
  have hb0:=(boxI_new (W:=w) rfl false none 0 0).ext (hx1.trans hx2) id
  have HB0:=bH (bI hb0 (((Ext.refl (fun _=>False) w).alloc (.cells #[.bool false,.slice none 0 0] 62)).trans (hx1.trans hx2)))
  clear hb0 h1 hx1 hx2 hr2 HF HA
  go_wp2_with fail
  refine HA1.out.mono ?_
  rintro r w2 ⟨v2,rfl,h2,hx2⟩
  have HS1:=bH (HS.out w2 v2 h2)
  obtain ⟨ao2,c2,rfl⟩:=h2.shape
  have HB1:=bH (bI (HB0.out.1.ext hx2 id) (HB0.out.2.trans hx2))
  clear h2 hx2 HS HB0 HA1
  go_wp2_with fail
  refine HS1.out.mono ?_
  rintro r w3 ⟨v3,rfl,h3,hx3⟩
  have hb3:=HB1.out.1.ext hx3 id
  obtain ⟨f0,f1,f2,f3⟩:=hb3.facts
  obtain ⟨neg,so,sn,sc,rfl⟩:=h3.shape
  have hp:=hb3.put (neg:=neg) (no_int so sn sc)
  have HR:=bH (bI (hp.int h3) (bI ((HB1.out.2.trans hx3).own hp.ext (fun k e=>by omega)) hp.box))
  clear hb3 h3 hx3 hp HS1 HB1
  go_wp2
  generalize (w3.setCell ⟨w.heap.size,0,none⟩ (.bool neg)).setCell ⟨w.heap.size,1,none⟩ (.slice so sn sc)=w9 at *
  obtain ⟨g0,g1,_⟩:=HR.out.2.2.facts
  exact bodyPost_ret (v:=.agg #[.bool neg,.slice so sn sc]) (by simp [results,Tryz.results56,go_sem,g0,g1]) rfl ⟨_,rfl,HR.out.1,HR.out.2.1⟩
 ·obtain ⟨n,hn⟩:∃ n:Nat,k=(n:Int):=⟨k.natAbs,by omega⟩
  have hnl:n<9223372036854775808:=by omega
  have HF:=bH (fun W=>Rfrom_any W n (by omega))
  have HS:=bH (fun W v h=>Rbuild_any W false v (dg n) h (Nat.le_trans (dg_two (n:=n) (by omega)).1 (by decide)))
  have hz:sg false n=k:=by unfold sg; simp [hn]
  rw [vl_dg,hz] at HS
  have q2:IntKind.u64.wrap (n:Int)=n:=by rw [wrapU]; omega
  subst hn
  clear hz
  go_enter Tryz.func56,Tryz.ntmps56
  go_wp2_with fail
  refine (HF.out _).mono ?_
  rintro r w1 ⟨v1,rfl,h1,hx1⟩
  have HS1:=bH (HS.out w1 v1 h1)
  obtain ⟨ao,c,rfl⟩:=h1.shape
  have HB1:=bH (bI ((boxI_new (W:=w) rfl false none 0 0).ext hx1 id) (((Ext.refl (fun _=>False) w).alloc (.cells #[.bool false,.slice none 0 0] 62)).trans hx1))
  clear h1 hx1 HF HS
  go_wp2_with fail
  refine HS1.out.mono ?_
  rintro r w3 ⟨v3,rfl,h3,hx3⟩
  have hb3:=HB1.out.1.ext hx3 id
  obtain ⟨f0,f1,f2,f3⟩:=hb3.facts
  obtain ⟨neg,so,sn,sc,rfl⟩:=h3.shape
  have hp:=hb3.put (neg:=neg) (no_int so sn sc)
  have HR:=bH (bI (hp.int h3) (bI ((HB1.out.2.trans hx3).own hp.ext (fun k e=>by omega)) hp.box))
  clear hb3 h3 hx3 hp HS1 HB1
  go_wp2
  generalize (w3.setCell ⟨w.heap.size,0,none⟩ (.bool neg)).setCell ⟨w.heap.size,1,none⟩ (.slice so sn sc)=w9 at *
  obtain ⟨g0,g1,_⟩:=HR.out.2.2.facts
  exact bodyPost_ret (v:=.agg #[.bool neg,.slice so sn sc]) (by simp [results,Tryz.results56,go_sem,g0,g1]) rfl ⟨_,rfl,HR.out.1,HR.out.2.1⟩
def Fixed2 (wx:World) (b b':Nat) (z z':Int):Prop:=∃ s a n c s' a' n' c',BoxI wx b s (.slice a n c)/\BoxI wx b' s' (.slice a' n' c')/\IsInt wx (.agg #[.bool s,.slice a n c]) z/\IsInt wx (.agg #[.bool s',.slice a' n' c']) z'
theorem IsInt.rds {w:World} {s:Bool} {mag:Value} {z:Int} (h:IsInt w (.agg #[.bool s,mag]) z):Rds w mag (dg z.natAbs)/\sg s z.natAbs=z:=by
 obtain ⟨m,h1,h2⟩:=h
 injection h1 with h1
 simp at h1
 obtain ⟨rfl,rfl⟩:=h1
 exact ⟨h2,sg_self z⟩
theorem Rimul_any (w:World) (v v':Value) (z z':Int) (L:Nat) (h:Rint w v z L) (h':Rint w v' z' L) (hL:L<=67108864) :
  Calls Tryz.prog 95 #[v,v'] w (IntPost w (z*z')):=by
 have hlz:=h.len
 have hlz':=h'.len
 have HF1:=bH (fun W (hW:XF w W)=>Rfix_any W v z L (h.keep hW) (by omega))
 have HF2:=bH (fun W (hW:XF w W)=>Rfix_any W v' z' L (h'.keep hW) (by omega))
 have HL:=bH (bI hlz hlz')
 obtain ⟨neg,ao,m,c,l,rfl,hr,hl,_⟩:=h.open
 obtain ⟨neg',ao',m',c',l',rfl,hr',hl',_⟩:=h'.open
 clear hr hl hr' hl' h h' hlz hlz'
 go_enter Tryz.func95,Tryz.ntmps95
 go_upto_region 0 with fail
 go_cut [2,3,4] (fun v1 v2 v3 wx=>∃ b b' r,v1=.pointer (some ⟨b,0,none⟩)/\v2=.pointer (some ⟨b',0,none⟩)/\v3=.pointer (some ⟨r,0,none⟩)/\BoxI wx b neg (.slice ao m c)/\BoxI wx b' neg' (.slice ao' m' c')/\BoxI wx r false (.slice none 0 0)/\¬ b=b'/\¬ b=r/\¬ b'=r/\w.heap.size<=b/\w.heap.size<=b'/\w.heap.size<=r/\XF w wx)
 case first =>
  go_wp2
  go_meet
  exact ⟨_,_,_,rfl,rfl,rfl,((boxI_new rfl neg ao m c).alloc _).alloc _,(boxI_new (by simp) neg' ao' m' c').alloc _,boxI_new (by simp) false none 0 0,(by omega),(by omega),(by omega),(by omega),(by omega),(by omega),(((Ext.refl _ w).alloc _).alloc _).alloc _⟩
 case rest =>
  obtain ⟨b,b',r,rfl,rfl,rfl,hb,hb',hrb,n0,n1,n2,le1,le2,hle,hx⟩:=hcut
  obtain ⟨c0,c1,_⟩:=hb.facts
  obtain ⟨e0,e1,_⟩:=hb'.facts
  have HB:=bH (bI hb (bI hb' (bI hrb hx)))
  clear hb hb' hrb hx
  go_upto_region 1 with fail
  go_cut [] (fun wx=>Fixed2 wx b b' z z'/\BoxI wx r false (.slice none 0 0)/\XF w wx)
  case first =>
   go_region_law (first
    | (go_simp; go_at_call 100; (with_reducible refine (HF1.out _ ?_).mono ?_); (exact HB.out.2.2.2.drew); rintro r5 w5 ⟨v5,rfl,h5,hx5⟩; have hX5:=(Ext.refl (fun _=>False) wc).drew.trans hx5; obtain ⟨k0,k1,_⟩:=(HB.out.2.1.ext hX5 id).facts; obtain ⟨s5,ao5,n5,k5,rfl⟩:=h5.shape)
    | (go_simp; go_at_call 100; (with_reducible refine (HF2.out _ ?_).mono ?_); (exact HB.out.2.2.2.trans hX5); rintro r6 w6 ⟨v6,rfl,h6,hx6⟩; have hX6:=hX5.trans hx6; obtain ⟨d0,d1,d2,d3⟩:=(HB.out.1.ext hX6 id).facts; obtain ⟨f0,f1,f2,f3⟩:=(HB.out.2.1.ext hX6 id).facts; obtain ⟨s6,ao6,n6,k6,rfl⟩:=h6.shape))
   all_goals
    have hp1:=(HB.out.1.ext hX6 id).put (neg:=s5) (no_int ao5 n5 k5)
    have hp2:=((HB.out.2.1.ext hX6 id).ext hp1.ext (fun e=>n0 e.symm)).put (neg:=s6) (no_int ao6 n6 k6)
    have HR:Hid (_/\_/\_):=bH (bI (show Fixed2 _ b b' z z' from ⟨s5,ao5,n5,k5,s6,ao6,n6,k6,hp1.box.ext hp2.ext n0,hp2.box,hp2.int (hp1.int (h5.keep hx6)),hp2.int (hp1.int h6)⟩) (bI (((HB.out.2.2.1.ext hX6 id).ext hp1.ext (fun e=>n1 e.symm)).ext hp2.ext (fun e=>n2 e.symm)) (((HB.out.2.2.2.trans hX6).own hp1.ext (fun k e=>by omega)).own hp2.ext (fun k e=>by omega))))
    clear hp1 hp2 h5 h6 hx5 hx6 hX5 hX6 k0 k1 d0 d1 d2 d3 f0 f1 f2 f3
    go_wp2
    go_meet
    exact HR.out
  case rest =>
   obtain ⟨⟨s,a1,m1,c1,s',a2,m2,c2,hb,hb',hi,hi'⟩,hrb,hx⟩:=hcut
   obtain ⟨hr,hz⟩:=hi.rds
   obtain ⟨hr',hz'⟩:=hi'.rds
   have HA:=bH (fun W (hW:XF wc W)=>Rmul_any W _ _ _ _ (hr.keep hW) (hr'.keep hW) (by have:=HL.out; omega) (by have:=HL.out; omega))
   rw [vl_dg,vl_dg] at HA
   obtain ⟨sn0,hs⟩:∃ sn0,(s != s')=sn0:=⟨_,rfl⟩
   have hs':(!(s == s'))=sn0:=hs
   have hzz:sg sn0 (z.natAbs*z'.natAbs)=z*z':=by rw [<- hs,sg_mul,hz,hz']
   have HS:=bH (fun W v (h:IsNat W v (z.natAbs*z'.natAbs))=>Rbuild_any W sn0 v _ h (by have:=dg_len_mul (Nat.lt_of_lt_of_le (dg_lt _) (pow_mono HL.out.1)) (Nat.lt_of_lt_of_le (dg_lt _) (pow_mono HL.out.2)); omega))
   rw [vl_dg,hzz] at HS
   have hS:=SI2.of hb hb'
   have HB:=bH (bI hb (bI hb' (bI hrb hx)))
   clear hb hb' hrb hx hi hi' hr hr' hz hz' hs hzz
   generalize z*z'=Z at *
   generalize z.natAbs*z'.natAbs=n at *
   go_upto_region 2 with fail
   go_region_held3 (SI2 b b' s s' (.slice a1 m1 c1) (.slice a2 m2 c2))
    (repeat (first | (with_reducible assumption) | (with_reducible refine SI2.drew ?_) | (with_reducible refine SI2.set ?_ _ _ ?_ ?_) | (dsimp only; omega)))
    (first
     | (go_at_call 125; (with_reducible refine (HA.out _ ?_).mono ?_); (exact (Ext.refl _ wc).drew); rintro r5 w5 ⟨v5,rfl,h5,hx5⟩; have hX5:=(Ext.refl (fun _=>False) wc).drew.trans hx5; have hS5:=HS.out w5 v5 h5; have hK5:=SI2.of (HB.out.1.ext hX5 id) (HB.out.2.1.ext hX5 id); obtain ⟨ao5,k5,rfl⟩:=h5.shape)
     | (go_at_call 102; (with_reducible refine hS5.mono ?_); rintro r6 w6 ⟨v6,rfl,h6,hx6⟩; have hX6:=hX5.trans hx6; have hr6:=HB.out.2.2.1.ext hX6 id; obtain ⟨d0,d1,d2,d3⟩:=hr6.facts; have hK6:=SI2.of (HB.out.1.ext hX6 id) (HB.out.2.1.ext hX6 id); obtain ⟨neg6,so,sn,sc,rfl⟩:=h6.shape))
   all_goals
    have hp:=hr6.put (neg:=neg6) (no_int so sn sc)
    have HR:=bH (bI (hp.int h6) (bI ((HB.out.2.2.2.trans hX6).own hp.ext (fun k e=>by omega)) hp.box))
    clear hp h5 h6 hX5 hX6 hr6 hx5 hx6 hS5 hK5 hK6 hS d0 d1 d2 d3
    generalize (w6.setCell ⟨r,0,none⟩ (.bool neg6)).setCell ⟨r,1,none⟩ (.slice so sn sc)=w9 at *
    obtain ⟨g0,g1,_⟩:=HR.out.2.2.facts
    go_wp2
    exact bodyPost_ret (v:=.agg #[.bool neg6,.slice so sn sc]) (by simp [results,Tryz.results95,go_sem,g0,g1]) rfl ⟨_,rfl,HR.out.1,HR.out.2.1⟩
theorem Riadd_any (w:World) (v v':Value) (z z':Int) (L:Nat) (h:Rint w v z L) (h':Rint w v' z' L) (hL:L<=67108864) :
  Calls Tryz.prog 94 #[v,v'] w (IntPost w (z+z')):=by
 have hlz:=h.len
 have hlz':=h'.len
 have HF1:=bH (fun W (hW:XF w W)=>Rfix_any W v z L (h.keep hW) (by omega))
 have HF2:=bH (fun W (hW:XF w W)=>Rfix_any W v' z' L (h'.keep hW) (by omega))
 have HL:=bH (bI hlz hlz')
 obtain ⟨neg,ao,m,c,l,rfl,hr,hl,_⟩:=h.open
 obtain ⟨neg',ao',m',c',l',rfl,hr',hl',_⟩:=h'.open
 clear hr hl hr' hl' h h' hlz hlz'
 go_enter Tryz.func94,Tryz.ntmps94
 go_upto_region 0 with fail
 go_cut [2,3,4] (fun v1 v2 v3 wx=>∃ b b' r,v1=.pointer (some ⟨b,0,none⟩)/\v2=.pointer (some ⟨b',0,none⟩)/\v3=.pointer (some ⟨r,0,none⟩)/\BoxI wx b neg (.slice ao m c)/\BoxI wx b' neg' (.slice ao' m' c')/\BoxI wx r false (.slice none 0 0)/\¬ b=b'/\¬ b=r/\¬ b'=r/\w.heap.size<=b/\w.heap.size<=b'/\w.heap.size<=r/\XF w wx)
 case first =>
  go_wp2
  go_meet
  exact ⟨_,_,_,rfl,rfl,rfl,((boxI_new rfl neg ao m c).alloc _).alloc _,(boxI_new (by simp) neg' ao' m' c').alloc _,boxI_new (by simp) false none 0 0,(by omega),(by omega),(by omega),(by omega),(by omega),(by omega),(((Ext.refl _ w).alloc _).alloc _).alloc _⟩
 case rest =>
  obtain ⟨b,b',r,rfl,rfl,rfl,hb,hb',hrb,n0,n1,n2,le1,le2,hle,hx⟩:=hcut
  obtain ⟨c0,c1,_⟩:=hb.facts
  obtain ⟨e0,e1,_⟩:=hb'.facts
  have HB:=bH (bI hb (bI hb' (bI hrb hx)))
  clear hb hb' hrb hx
  go_upto_region 1 with fail
  go_cut [] (fun wx=>Fixed2 wx b b' z z'/\BoxI wx r false (.slice none 0 0)/\XF w wx)
  case first =>
   go_region_law (first
    | (go_simp; go_at_call 100; (with_reducible refine (HF1.out _ ?_).mono ?_); (exact HB.out.2.2.2.drew); rintro r5 w5 ⟨v5,rfl,h5,hx5⟩; have hX5:=(Ext.refl (fun _=>False) wc).drew.trans hx5; obtain ⟨k0,k1,_⟩:=(HB.out.2.1.ext hX5 id).facts; obtain ⟨s5,ao5,n5,k5,rfl⟩:=h5.shape)
    | (go_simp; go_at_call 100; (with_reducible refine (HF2.out _ ?_).mono ?_); (exact HB.out.2.2.2.trans hX5); rintro r6 w6 ⟨v6,rfl,h6,hx6⟩; have hX6:=hX5.trans hx6; obtain ⟨d0,d1,d2,d3⟩:=(HB.out.1.ext hX6 id).facts; obtain ⟨f0,f1,f2,f3⟩:=(HB.out.2.1.ext hX6 id).facts; obtain ⟨s6,ao6,n6,k6,rfl⟩:=h6.shape))
   all_goals
    have hp1:=(HB.out.1.ext hX6 id).put (neg:=s5) (no_int ao5 n5 k5)
    have hp2:=((HB.out.2.1.ext hX6 id).ext hp1.ext (fun e=>n0 e.symm)).put (neg:=s6) (no_int ao6 n6 k6)
    have HR:Hid (_/\_/\_):=bH (bI (show Fixed2 _ b b' z z' from ⟨s5,ao5,n5,k5,s6,ao6,n6,k6,hp1.box.ext hp2.ext n0,hp2.box,hp2.int (hp1.int (h5.keep hx6)),hp2.int (hp1.int h6)⟩) (bI (((HB.out.2.2.1.ext hX6 id).ext hp1.ext (fun e=>n1 e.symm)).ext hp2.ext (fun e=>n2 e.symm)) (((HB.out.2.2.2.trans hX6).own hp1.ext (fun k e=>by omega)).own hp2.ext (fun k e=>by omega))))
    clear hp1 hp2 h5 h6 hx5 hx6 hX5 hX6 k0 k1 d0 d1 d2 d3 f0 f1 f2 f3
    go_wp2
    go_meet
    exact HR.out
  case rest =>
   obtain ⟨⟨s,a1,m1,c1,s',a2,m2,c2,hb,hb',hi,hi'⟩,hrb,hx⟩:=hcut
   obtain ⟨hr,hz⟩:=hi.rds
   obtain ⟨hr',hz'⟩:=hi'.rds
   have hlz:=HL.out.1
   have hlz':=HL.out.2
   have hS2:=fun n (h:n<=max z.natAbs z'.natAbs)=>dg_len_max h (Nat.lt_of_lt_of_le (dg_lt z.natAbs) (pow_mono hlz)) (Nat.lt_of_lt_of_le (dg_lt z'.natAbs) (pow_mono hlz'))
   have hln:=dg_len_add (Nat.lt_of_lt_of_le (dg_lt z.natAbs) (pow_mono hlz)) (Nat.lt_of_lt_of_le (dg_lt z'.natAbs) (pow_mono hlz'))
   have HA:=bH (fun W (hW:XF wc W)=>Radd_any W _ _ _ _ (hr.keep hW) (hr'.keep hW) (by omega) (by omega))
   have HC:=bH (Rcmp_any wc _ _ _ _ hr hr' (by omega) (by omega))
   have HD:=bH (fun W (h1:Rds W (.slice a1 m1 c1) (dg z.natAbs)) (h2:Rds W (.slice a2 m2 c2) (dg z'.natAbs)) (h:z'.natAbs<=z.natAbs)=>Rsub_any W _ _ _ _ h1 h2 (by omega) (by omega) (by rw [vl_dg,vl_dg]; exact h))
   have HD':=bH (fun W (h1:Rds W (.slice a1 m1 c1) (dg z.natAbs)) (h2:Rds W (.slice a2 m2 c2) (dg z'.natAbs)) (h:z.natAbs<=z'.natAbs)=>Rsub_any W _ _ _ _ h2 h1 (by omega) (by omega) (by rw [vl_dg,vl_dg]; exact h))
   unfold RSubPost at HD HD'
   simp only [vl_dg] at HA HC HD HD'
   have hS0:∀ W s v n (h:IsNat W v n),(n<=max z.natAbs z'.natAbs∨n=z.natAbs+z'.natAbs)->Calls Tryz.prog 102 #[.bool s,v] W (IntPost W (sg s n)):=fun W s v n h hn=>by
    have:=Rbuild_any W s v _ h (by
     rcases hn with hn | rfl
     ·have:=hS2 n hn; omega
     ·omega)
    rwa [vl_dg] at this
   have HS:=bH hS0
   have HZ:Hid (sg s z.natAbs+sg s' z'.natAbs=z+z'):=bH (by rw [hz,hz'])
   have HR0:=bH (bI hr hr')
   have hS:=SI2.of hb hb'
   obtain ⟨c0,c1',_⟩:=hb.facts
   obtain ⟨e0,e1,_⟩:=hb'.facts
   have HB:=bH (bI hb (bI hb' (bI hrb hx)))
   clear hz hz' hi hi' hln hS2 hS0 hlz hlz' hb hb' hrb hx hr hr'
   generalize z+z'=Z at *
   generalize z.natAbs=x at *
   generalize z'.natAbs=y at *
   by_cases hn:s=s'
   ·subst hn
    have HS1:=bH (fun W v h=>HS.out W s v (x+y) h (.inr rfl))
    rw [sg_add,HZ.out] at HS1
    go_upto_region 3 with fail
    go_region_held3 (SI2 b b' s s (.slice a1 m1 c1) (.slice a2 m2 c2))
     (repeat (first | (with_reducible assumption) | (with_reducible refine SI2.drew ?_) | (with_reducible refine SI2.set ?_ _ _ ?_ ?_) | (dsimp only; omega)))
     (first
      | (go_at_call 103; (with_reducible refine (HA.out _ ?_).mono ?_); (exact (Ext.refl _ wc).drew); rintro r5 w5 ⟨v5,rfl,h5,hx5⟩; have hX5:=(Ext.refl (fun _=>False) wc).drew.trans hx5; have hS5:=HS1.out w5 v5 h5; have hK5:=SI2.of (HB.out.1.ext hX5 id) (HB.out.2.1.ext hX5 id); obtain ⟨ao5,k5,rfl⟩:=h5.shape)
      | (go_at_call 102; (with_reducible refine hS5.mono ?_); rintro r6 w6 ⟨v6,rfl,h6,hx6⟩; have hX6:=hX5.trans hx6; have hr6:=HB.out.2.2.1.ext hX6 id; obtain ⟨d0,d1,d2,d3⟩:=hr6.facts; have hK6:=SI2.of (HB.out.1.ext hX6 id) (HB.out.2.1.ext hX6 id); obtain ⟨neg6,so,sn,sc,rfl⟩:=h6.shape))
    all_goals
     have hp:=hr6.put (neg:=neg6) (no_int so sn sc)
     have HR:=bH (bI (hp.int h6) (bI ((HB.out.2.2.2.trans hX6).own hp.ext (fun k e=>by omega)) hp.box))
     clear hp h5 h6 hX5 hX6 hr6 hx5 hx6 hS5 hK5 hK6 hS d0 d1 d2 d3
     generalize (w6.setCell ⟨r,0,none⟩ (.bool neg6)).setCell ⟨r,1,none⟩ (.slice so sn sc)=w9 at *
     obtain ⟨g0,g1,_⟩:=HR.out.2.2.facts
     go_wp2
     exact bodyPost_ret (v:=.agg #[.bool neg6,.slice so sn sc]) (by simp [results,Tryz.results94,go_sem,g0,g1]) rfl ⟨_,rfl,HR.out.1,HR.out.2.1⟩
   ·have hne:(s == s')=false:=by simpa using hn
    clear hS
    by_cases hxy:x<y
    ·have e:cmpN x y = -1:=by unfold cmpN; rw [if_pos hxy]
     rw [e] at HC
     have HS1:=bH (fun W v h=>HS.out W s' v (y - x) h (.inl (by omega)))
     rw [sg_sub s' s y x (by omega) (fun h=>hn h.symm),Int.add_comm,HZ.out] at HS1
     have Hxy:=bH hxy
     clear e hn hxy
     go_wp2_with fail
     refine HC.out.mono ?_
     rintro r7 w2 ⟨rfl,hx2⟩
     obtain ⟨c0,c1',c2',c3⟩:=(HB.out.1.ext hx2 id).facts
     obtain ⟨e0,e1,e2,e3⟩:=(HB.out.2.1.ext hx2 id).facts
     have HX2:=bH hx2
     clear hx2 HC
     go_upto_region 5 with fail
     go_cut [] (fun wx=>BoxI wx b s' (.slice a2 m2 c2)/\BoxI wx b' s (.slice a1 m1 c1)/\BoxI wx r false (.slice none 0 0)/\Rds wx (.slice a1 m1 c1) (dg x)/\Rds wx (.slice a2 m2 c2) (dg y)/\XF w wx)
     case first =>
      go_wp2
      go_meet
      have hp1:=(HB.out.1.ext HX2.out id).put (neg:=s') (no_int a2 m2 c2)
      have hp2:=((HB.out.2.1.ext HX2.out id).ext hp1.ext (fun e=>n0 e.symm)).put (neg:=s) (no_int a1 m1 c1)
      exact ⟨hp1.box.ext hp2.ext n0,hp2.box,((HB.out.2.2.1.ext HX2.out id).ext hp1.ext (fun e=>n1 e.symm)).ext hp2.ext (fun e=>n2 e.symm),hp2.rds _ _ (hp1.rds _ _ (HR0.out.1.keep HX2.out)),hp2.rds _ _ (hp1.rds _ _ (HR0.out.2.keep HX2.out)),((HB.out.2.2.2.trans HX2.out).own hp1.ext (fun k e=>by omega)).own hp2.ext (fun k e=>by omega)⟩
     case rest =>
      obtain ⟨hb,hb',hrb,hr1,hr2,hx⟩:=hcut
      have HD1:=bH (HD'.out wc hr1 hr2 (Nat.le_of_lt Hxy.out))
      obtain ⟨c0,c1',_⟩:=hb.facts
      obtain ⟨e0,e1,_⟩:=hb'.facts
      have HB':=bH (bI hb (bI hrb hx))
      clear hb hb' hrb hx
      go_wp2_with fail
      refine HD1.out.mono ?_
      rintro r7 w7 ⟨v7,rfl,h7,hx7,_⟩
      have HS7:=bH (HS1.out w7 v7 h7)
      obtain ⟨c07,c17,_⟩:=(HB'.out.1.ext hx7 id).facts
      have HB7:=bH (bI (HB'.out.2.1.ext hx7 id) (HB'.out.2.2.trans hx7))
      obtain ⟨ao7,k7,rfl⟩:=h7.shape
      clear h7 hx7
      go_wp2_with fail
      refine HS7.out.mono ?_
      rintro r8 w6 ⟨v6,rfl,h6,hx6⟩
      have hr6:=HB7.out.1.ext hx6 id
      obtain ⟨d0,d1,d2,d3⟩:=hr6.facts
      have hX6:=HB7.out.2.trans hx6
      obtain ⟨neg6,so,sn,sc,rfl⟩:=h6.shape
      have hp:=hr6.put (neg:=neg6) (no_int so sn sc)
      have HR:=bH (bI (hp.int h6) (bI (hX6.own hp.ext (fun k e=>by omega)) hp.box))
      clear hp h6 hX6 hr6 hx6
      go_wp2
      generalize (w6.setCell ⟨r,0,none⟩ (.bool neg6)).setCell ⟨r,1,none⟩ (.slice so sn sc)=w9 at *
      obtain ⟨g0,g1,_⟩:=HR.out.2.2.facts
      exact bodyPost_ret (v:=.agg #[.bool neg6,.slice so sn sc]) (by simp [results,Tryz.results94,go_sem,g0,g1]) rfl ⟨_,rfl,HR.out.1,HR.out.2.1⟩
    ·have e:¬ cmpN x y<0:=by unfold cmpN; rw [if_neg hxy]; split <;> omega
     have e':0<=cmpN x y:=by omega
     generalize hq:cmpN x y=cq at *
     have HS1:=bH (fun W v h=>HS.out W s v (x - y) h (.inl (by omega)))
     rw [sg_sub s s' x y (by omega) hn,HZ.out] at HS1
     have Hxy:=bH hxy
     clear hq hn hxy e
     go_wp2_with fail
     refine HC.out.mono ?_
     rintro r7 w2 ⟨rfl,hx2⟩
     have hb:=HB.out.1.ext hx2 id
     have hb':=HB.out.2.1.ext hx2 id
     have hrb:=HB.out.2.2.1.ext hx2 id
     have hx:=HB.out.2.2.2.trans hx2
     have HD1:=bH (HD.out w2 (HR0.out.1.keep hx2) (HR0.out.2.keep hx2) (Nat.le_of_not_lt Hxy.out))
     clear hx2 HC
     obtain ⟨c0,c1',_⟩:=hb.facts
     obtain ⟨e0,e1,_⟩:=hb'.facts
     have HB':=bH (bI hb (bI hrb hx))
     clear hb hb' hrb hx
     go_wp2_with fail
     refine HD1.out.mono ?_
     rintro r7 w7 ⟨v7,rfl,h7,hx7,_⟩
     have HS7:=bH (HS1.out w7 v7 h7)
     obtain ⟨c07,c17,_⟩:=(HB'.out.1.ext hx7 id).facts
     have HB7:=bH (bI (HB'.out.2.1.ext hx7 id) (HB'.out.2.2.trans hx7))
     obtain ⟨ao7,k7,rfl⟩:=h7.shape
     clear h7 hx7
     go_wp2_with fail
     refine HS7.out.mono ?_
     rintro r8 w6 ⟨v6,rfl,h6,hx6⟩
     have hr6:=HB7.out.1.ext hx6 id
     obtain ⟨d0,d1,d2,d3⟩:=hr6.facts
     have hX6:=HB7.out.2.trans hx6
     obtain ⟨neg6,so,sn,sc,rfl⟩:=h6.shape
     have hp:=hr6.put (neg:=neg6) (no_int so sn sc)
     have HR:=bH (bI (hp.int h6) (bI (hX6.own hp.ext (fun k e=>by omega)) hp.box))
     clear hp h6 hX6 hr6 hx6
     go_wp2
     generalize (w6.setCell ⟨r,0,none⟩ (.bool neg6)).setCell ⟨r,1,none⟩ (.slice so sn sc)=w9 at *
     obtain ⟨g0,g1,_⟩:=HR.out.2.2.facts
     exact bodyPost_ret (v:=.agg #[.bool neg6,.slice so sn sc]) (by simp [results,Tryz.results94,go_sem,g0,g1]) rfl ⟨_,rfl,HR.out.1,HR.out.2.1⟩
theorem dg_1:dg 1=[1]:=by rw [dg_pos (by omega)]; simp [dg_zero]
theorem one_rds (w:World):Rds (w.alloc (.cells #[.int .u32 1] 129)) (.slice (some ⟨w.heap.size,0,none⟩) 1 1) [1]:=by
 refine ⟨Dig.cons (by omega) Dig.nil,_,1,rfl,Nat.le_refl _,by unfold maxLen; omega,fun h=>(by cases h),fun _=>⟨_,0,rfl,by simp,fun i d hi=>?_⟩⟩
 have:=cells_new (w:=w) [.int .u32 1] 129 rfl i (dv d) (by
  match i,hi with
  | 0,hi=>simp at hi ⊢; subst hi; rfl
  | i+1,hi=>simp at hi)
 rwa [Addr.add_lit] at this
theorem Rden_any (w:World) (neg:Bool) (ao:Option Addr) (m c:Nat) (ao':Option Addr) (m' c':Nat) (d:List Nat)
  (h:Rds w (.slice ao' m' c') d) (hl:d.length<=268435455) :
  Calls Tryz.prog 69 #[.agg #[.bool neg,.slice ao m c,.slice ao' m' c']] w (NatPost w (dn (vl d))):=by
 have HT:=bH (fun W (hW:XF w W)=>Trim_any W _ d (h.keep hW) (by omega))
 generalize vl d=n at *
 clear h hl
 go_enter Tryz.func69,Tryz.ntmps69
 go_wp2_with fail
 refine (HT.out _ ((Ext.refl _ w).alloc _)).mono ?_
 rintro r w1 ⟨v1,rfl,h1,hx1⟩
 have hX:=((Ext.refl (fun _=>False) w).alloc _).trans hx1
 obtain ⟨ao1,c1,rfl⟩:=h1.shape
 by_cases h0:n=0
 ·subst h0
  have HP:Hid (NatPost w (dn 0) (.returned (.slice (some ⟨w1.heap.size,0,none⟩) 1 1)) (w1.alloc (.cells #[.int .u32 1] 129))):=bH ⟨_,rfl,by unfold IsNat; rw [show dn 0=1 from rfl,dg_1]; exact one_rds w1,hX.alloc _⟩
  rw [dg_zero] at h1 ⊢
  clear h1 hx1 hX HT
  simp only [List.length_nil]
  go_wp2
  go_ret
  exact HP.out
 ·have hk:¬ ((dg n).length:Int)=0:=fun h=>h0 (dg_eq_nil.1 (List.eq_nil_of_length_eq_zero (by omega)))
  have HP:Hid (NatPost w (dn n) (.returned (.slice ao1 (dg n).length c1)) w1):=bH ⟨_,rfl,by unfold dn; rw [if_neg h0]; exact h1,hX⟩
  clear h1 hx1 hX HT
  generalize (dg n).length=k at *
  go_wp2
  go_ret
  exact HP.out
theorem red_num' {z:Int} {y:Nat} (hy:0<y):sg (decide (z<0)) (z.natAbs / Nat.gcd z.natAbs y)=(mkRat z y).num/\y / Nat.gcd z.natAbs y=(mkRat z y).den:=by
 have hg:0<Nat.gcd z.natAbs y:=Nat.gcd_pos_of_pos_right _ hy
 obtain ⟨h1,h2⟩:=red_num (z:=z) hy
 refine ⟨?_,?_⟩
 ·rw [<- h1,<- sg_tdiv,Int.natAbs_natCast]
  congr 1
  rw [sign_pos hg,Int.mul_one]
  by_cases hz:z<0
  ·rw [Int.sign_eq_neg_one_of_neg hz]; simp [hz]
  ·have:¬ z.sign<0:=by
    rcases Int.lt_or_eq_of_le (Int.not_lt.1 hz) with h | h
    ·rw [Int.sign_eq_one_of_pos h]; omega
    ·rw [<- h]; decide
   rw [decide_eq_false hz,decide_eq_false this]
 ·rw [tdiv_nat] at h2; omega
theorem Rrbuild_any (w:World) (v:Value) (z:Int) (y L:Nat) (u:Value) (h:Rint w v z L) (hu:IsNat w u y) (hy:0<y) (hL:L<=67108864) (hul:(dg y).length<=67108864) :
  Calls Tryz.prog 68 #[v,u] w (RatPost w (mkRat z y)):=by
 have hlz:=h.len
 obtain ⟨hq1,hq2⟩:=red_num' (z:=z) hy
 have hg:0<Nat.gcd z.natAbs y:=Nat.gcd_pos_of_pos_right _ hy
 have hgl:(dg (Nat.gcd z.natAbs y)).length<=67108864:=Nat.le_trans (dg_mono (Nat.gcd_le_right _ hy)) hul
 have HF:=bH (fun W (hW:XF w W)=>Rfix_any W v z L (h.keep hW) (by omega))
 have HG:=bH (fun W a b (ha:IsNat W a z.natAbs) (hb:IsNat W b y)=>Rgcd_any W a b _ _ ha hb (by omega) (by omega))
 have HD1:=bH (fun W a b (ha:IsNat W a z.natAbs) (hb:IsNat W b (Nat.gcd z.natAbs y))=>Rdivmod_any W a b _ _ ha hb (by omega) (by omega) (by rw [vl_dg]; omega))
 have HD2:=bH (fun W a b (ha:IsNat W a y) (hb:IsNat W b (Nat.gcd z.natAbs y))=>Rdivmod_any W a b _ _ ha hb (by omega) (by omega) (by rw [vl_dg]; omega))
 unfold RDivPost at HD1 HD2
 simp only [vl_dg] at HG HD1 HD2
 have hml:(dg (z.natAbs / Nat.gcd z.natAbs y)).length<=67108864:=Nat.le_trans (dg_mono (Nat.div_le_self _ _)) (by omega)
 have hdl:(dg (y / Nat.gcd z.natAbs y)).length<=67108864:=Nat.le_trans (dg_mono (Nat.div_le_self _ _)) hul
 have HF2:=bH (fun W a (ha:IsNat W a (z.natAbs / Nat.gcd z.natAbs y))=>Rfix_any W (.agg #[.bool (decide (z<0)),a]) (sg (decide (z<0)) (z.natAbs / Nat.gcd z.natAbs y)) 67108864 ⟨_,a,_,rfl,ha,hml,by rw [vl_dg]⟩ (by omega))
 rw [hq1] at HF2
 rw [hq2] at HD2 hdl
 have HS:=bH (fun W a b (ha:IsNat W a (mkRat z y).den) (hb:Rds W b [1])=>Same_any W a b _ _ ha hb (by omega) (by simp))
 generalize Nat.gcd z.natAbs y=g at *
 obtain ⟨q,hq⟩:∃ q,mkRat z y=q:=⟨_,rfl⟩
 rw [hq] at HF2 HD2 HS ⊢
 obtain ⟨neg,ao,m,c,l,rfl,_,_,_⟩:=h.open
 obtain ⟨uo,uc,rfl⟩:=hu.shape
 have Hu:=bH hu
 clear h hu hg hgl hq1 hq2 hlz hml hdl hq hul
 generalize (dg y).length=ly at *
 generalize hX:z.natAbs=X at *
 generalize X / g=X2 at *
 generalize X % g=X3 at *
 generalize y % g=X4 at *
 have HX:=bH hX
 clear hX
 obtain ⟨sz,hsz⟩:∃ sz,decide (z<0)=sz:=⟨_,rfl⟩
 rw [hsz] at HF2
 have Hsz:=bH hsz
 clear hsz
 go_enter Tryz.func68,Tryz.ntmps68
 go_upto_region 0 with fail
 go_cut [2,4] (fun v2 v4 wx=>∃ b r,v2=.pointer (some ⟨b,0,none⟩)/\v4=.pointer (some ⟨r,0,none⟩)/\BoxI wx b neg (.slice ao m c)/\BoxR wx r false (.slice none 0 0) (.slice none 0 0)/\¬ b=r/\w.heap.size<=b/\w.heap.size<=r/\XF w wx)
 case first =>
  go_wp2
  go_meet
  exact ⟨_,_,rfl,rfl,(boxI_new rfl neg ao m c).alloc _,boxR_new (by simp) false none 0 0 none 0 0,(by omega),(by omega),(by omega),((Ext.refl _ w).alloc _).alloc _⟩
 case rest =>
  obtain ⟨b,r,rfl,rfl,hb,hrb,n1,le1,le2,hx⟩:=hcut
  obtain ⟨c0,c1,c2,c3⟩:=hb.facts
  have HB:=bH (bI hb (bI hrb hx))
  clear hb hrb hx
  go_wp2_with fail
  refine (HF.out _ HB.out.2.2).mono ?_
  rintro r1 w1 ⟨v1,rfl,h1,hx1⟩
  have hb1:=HB.out.1.ext hx1 id
  obtain ⟨c0,c1,c2,c3⟩:=hb1.facts
  obtain ⟨mag,hv,hm⟩:=h1
  obtain ⟨so,sc,rfl⟩:=hm.shape
  subst hv
  rw [HX.out] at hm ⊢
  rw [Hsz.out]
  have hp:=hb1.put (neg:=sz) (no_int so (dg X).length sc)
  have HI:=bH (bI hp.box (bI ((HB.out.2.1.ext hx1 id).ext hp.ext (fun e=>n1 e.symm)) (bI ((HB.out.2.2.trans hx1).own hp.ext (fun k e=>by omega)) (bI (hp.rds _ _ hm) (hp.rds _ _ (Hu.out.keep (HB.out.2.2.trans hx1)))))))
  generalize (dg X).length=lX at *
  clear hp hb1 hm hx1 HB
  go_upto_region 2 with fail
  generalize (w1.setCell ⟨b,0,none⟩ (.bool sz)).setCell ⟨b,1,none⟩ (.slice so lX sc)=w2 at *
  obtain ⟨c0,c1,_⟩:=HI.out.1.facts
  have HG2:=bH (HG.out w2 _ _ HI.out.2.2.2.1 HI.out.2.2.2.2)
  go_wp2_with fail
  refine HG2.out.mono ?_
  rintro r3 w3 ⟨vg,rfl,hg3,hx3⟩
  obtain ⟨c0,c1,_⟩:=(HI.out.1.ext hx3 id).facts
  have HD3:=bH (HD1.out w3 _ _ (Rds.keep HI.out.2.2.2.1 hx3) hg3)
  have HX3:=bH (bI hx3 hg3)
  obtain ⟨go,gc,rfl⟩:=hg3.shape
  generalize (dg g).length=lg at *
  clear hx3 hg3 HG2
  go_wp2_with fail
  refine HD3.out.mono ?_
  rintro r4 w4 ⟨vm,vr,rfl,hm4,_,hx4⟩
  have hX4:=HX3.out.1.trans hx4
  have HD4:=bH (HD2.out w4 _ _ (Rds.keep HI.out.2.2.2.2 hX4) (HX3.out.2.keep hx4))
  have HX4:=bH (bI hX4 hm4)
  obtain ⟨mo,mc,rfl⟩:=hm4.shape
  clear hX4 hx4 hm4 HD3
  go_wp2_with fail
  refine HD4.out.mono ?_
  rintro r5 w5 ⟨vd,vs,rfl,hd5,_,hx5⟩
  have hX5:=HX4.out.1.trans hx5
  have hx6:XF w5 (w5.alloc (.cells #[.int .u32 1] 129)):=(Ext.refl _ w5).alloc _
  have HS6:=bH (HS.out _ _ _ (hd5.keep hx6) (one_rds w5))
  obtain ⟨dO,dc,rfl⟩:=hd5.shape
  have HX5:=bH (bI (hX5.trans hx6) (bI (hd5.keep hx6) (HX4.out.2.keep (hx5.trans hx6))))
  clear hX5 hx5 hx6 hd5 HD4
  have hd1:(decide (dg q.den=[1]))=decide (q.den=1):=by
   by_cases h:q.den=1
   ·rw [h,dg_1]; rfl
   ·rw [decide_eq_false h]
    exact decide_eq_false (fun e=>h (by have:=congrArg vl e; rw [vl_dg] at this; simpa [vl] using this))
  rw [hd1] at HS6
  clear hd1
  generalize (dg q.den).length=ld at *
  generalize (dg X2).length=lm at *
  by_cases hden:q.den=1
  ·rw [decide_eq_true hden] at HS6
   have Hden:=bH hden
   clear hden
   go_wp2_with fail
   refine HS6.out.mono ?_
   rintro r7 w7 ⟨rfl,hx7⟩
   have hX7:=HX5.out.1.trans hx7
   obtain ⟨c0,c1,_⟩:=(HI.out.1.ext hX7 id).facts
   have HF7:=bH (HF2.out w7 _ (HX5.out.2.2.keep hx7))
   have HX7:=bH hX7
   clear hX7 hx7 HS6
   go_wp2_with fail
   refine HF7.out.mono ?_
   rintro r8 w8 ⟨v8,rfl,h8,hx8⟩
   obtain ⟨n8,ao8,l8,c8,rfl⟩:=h8.shape
   have hX8:=HX7.out.trans hx8
   have hr8:=HI.out.2.1.ext hX8 id
   obtain ⟨d0,d1,d2,d3,d4,d5⟩:=hr8.facts
   have hp:=hr8.put (neg:=n8) (no_int ao8 l8 c8) (no_int none 0 0)
   have hR0:IsRat w8 (.agg #[.bool n8,.slice ao8 l8 c8,.slice none 0 0]) q:=IsRat.mk h8 (by rw [Hden.out]; exact IsNat.nil w8)
   have HR:=bH (bI (hp.rat hR0) (bI ((HI.out.2.2.1.trans hX8).own hp.ext (fun k e=>by omega)) hp.box))
   clear hp hR0 h8 hr8 hX8 hx8
   go_wp2
   generalize ((w8.setCell ⟨r,0,none⟩ (.bool n8)).setCell ⟨r,1,none⟩ (.slice ao8 l8 c8)).setCell ⟨r,2,none⟩ (.slice none 0 0)=w9 at *
   obtain ⟨g0,g1,g2,_⟩:=HR.out.2.2.facts
   exact bodyPost_ret (v:=.agg #[.bool n8,.slice ao8 l8 c8,.slice none 0 0]) (by simp [results,Tryz.results68,go_sem,g0,g1,g2]) rfl ⟨_,rfl,HR.out.1,HR.out.2.1⟩
  ·rw [decide_eq_false hden] at HS6
   have Hden:=bH hden
   clear hden
   go_wp2_with fail
   refine HS6.out.mono ?_
   rintro r7 w7 ⟨rfl,hx7⟩
   have hX7:=HX5.out.1.trans hx7
   obtain ⟨c0,c1,_⟩:=(HI.out.1.ext hX7 id).facts
   have HF7:=bH (HF2.out w7 _ (HX5.out.2.2.keep hx7))
   have HX7:=bH (bI hX7 (HX5.out.2.1.keep hx7))
   clear hX7 hx7 HS6
   go_wp2_with fail
   refine HF7.out.mono ?_
   rintro r8 w8 ⟨v8,rfl,h8,hx8⟩
   obtain ⟨n8,ao8,l8,c8,rfl⟩:=h8.shape
   have hX8:=HX7.out.1.trans hx8
   have hr8:=HI.out.2.1.ext hX8 id
   obtain ⟨d0,d1,d2,d3,d4,d5⟩:=hr8.facts
   have hp:=hr8.put (neg:=n8) (no_int ao8 l8 c8) (no_int dO ld dc)
   have hR0:IsRat w8 (.agg #[.bool n8,.slice ao8 l8 c8,.slice dO ld dc]) q:=IsRat.mk h8 (by unfold dw; rw [if_neg Hden.out]; exact HX7.out.2.keep hx8)
   have HR:=bH (bI (hp.rat hR0) (bI ((HI.out.2.2.1.trans hX8).own hp.ext (fun k e=>by omega)) hp.box))
   clear hp hR0 h8 hr8 hX8 hx8
   go_wp2
   generalize ((w8.setCell ⟨r,0,none⟩ (.bool n8)).setCell ⟨r,1,none⟩ (.slice ao8 l8 c8)).setCell ⟨r,2,none⟩ (.slice dO ld dc)=w9 at *
   obtain ⟨g0,g1,g2,_⟩:=HR.out.2.2.facts
   exact bodyPost_ret (v:=.agg #[.bool n8,.slice ao8 l8 c8,.slice dO ld dc]) (by simp [results,Tryz.results68,go_sem,g0,g1,g2]) rfl ⟨_,rfl,HR.out.1,HR.out.2.1⟩
theorem Rrneg_any (w:World) (v:Value) (q:Rat) (L:Nat) (h:Rrat w v q L) (h0:1<=L) (hL:L<=67108864) :
  Calls Tryz.prog 124 #[v] w (RatPost w (-q)):=by
 obtain ⟨n1,a1,l1,c1,x1,y1,k1,l,d,rfl,hr,hd,hm,hdl,hq⟩:=h.open
 clear hm
 have HN:=bH (fun W (hW:XF w W)=>Rneg_any W _ _ L (hr.keep hW) (by omega))
 have hnl:(dg (-sg n1 (vl l)).natAbs).length<=L:=by rw [Int.natAbs_neg]; exact hr.len
 have HD1:=bH (fun W (hW:XF w W)=>Rden_any W n1 a1 l1 c1 x1 y1 k1 d (hd.keep hW) (by omega))
 have HRd:=bH (fun W u u' (hu:IsInt W u (-sg n1 (vl l))) (hu':IsNat W u' (dn (vl d)))=>Rrbuild_any W u (-sg n1 (vl l)) (dn (vl d)) L u' (hu.reads hnl) hu' (dn_pos _) hL (Nat.le_trans (dn_len hd hdl h0) hL))
 rw [<- Rat.neg_mkRat,<- hq] at HRd
 clear hnl
 generalize -sg n1 (vl l)=Z at *
 generalize -q=Q at *
 clear hr hd hdl hq h
 generalize dn (vl d)=D1 at *
 go_enter Tryz.func124,Tryz.ntmps124
 go_upto_region 0 with fail
 go_cut [1,2] (fun v1 v3 wx=>∃ b1 r,v1=.pointer (some ⟨b1,0,none⟩)/\v3=.pointer (some ⟨r,0,none⟩)/\BoxR wx b1 n1 (.slice a1 l1 c1) (.slice x1 y1 k1)/\BoxR wx r false (.slice none 0 0) (.slice none 0 0)/\b1<r/\w.heap.size<=r/\XF w wx)
 case first =>
  go_wp2
  go_meet
  exact ⟨_,_,rfl,rfl,(boxR_new rfl n1 a1 l1 c1 x1 y1 k1).alloc _,boxR_new (by simp) false none 0 0 none 0 0,(by omega),(by omega),((Ext.refl _ w).alloc _).alloc _⟩
 case rest =>
  obtain ⟨b1,r,rfl,rfl,hb1,hrb,i1,hle,hx⟩:=hcut
  have hS:=SR1.of hb1
  have HB:=bH (bI hb1 (bI hrb hx))
  clear hb1 hrb hx
  go_upto_region 1 with fail
  go_region_held3 (SR1 b1 n1 (.slice a1 l1 c1) (.slice x1 y1 k1))
   (repeat (first | (with_reducible assumption) | (with_reducible refine SR1.drew ?_) | (with_reducible refine SR1.set ?_ _ _ ?_) | (dsimp only; omega)))
   (first
    | (go_at_call 101; (with_reducible refine (HN.out _ HB.out.2.2.drew).mono ?_); rintro q1 w11 ⟨v11,rfl,h11,hx11⟩; have hX1:=(Ext.refl (fun _=>False) wc).drew.trans hx11; have hK1:=SR1.of (HB.out.1.ext hX1 id); obtain ⟨ng1,ag1,lg1,cg1,rfl⟩:=h11.shape)
    | (go_at_call 69; (with_reducible refine (HD1.out _ (HB.out.2.2.trans hX1)).mono ?_); rintro q2 w12 ⟨v12,rfl,h12,hx12⟩; have hX2:=hX1.trans hx12; have hK2:=SR1.of (HB.out.1.ext hX2 id); have hR:=HRd.out w12 _ _ (h11.keep hx12) h12; obtain ⟨ag2,cg2,rfl⟩:=h12.shape)
    | (go_at_call 68; (with_reducible refine hR.mono ?_); rintro q4 w14 ⟨v14,rfl,h14,hx14⟩; have hX4:=hX2.trans hx14; have hK4:=SR1.of (HB.out.1.ext hX4 id); have hr4:=HB.out.2.1.ext hX4 id; obtain ⟨d0,d1,d2,d3,d4,d5⟩:=hr4.facts; obtain ⟨ng,sa,sn,sc,ta,tn,tc,rfl⟩:=h14.shape))
  have hp:=hr4.put (neg:=ng) (no_int sa sn sc) (no_int ta tn tc)
  have HR:=bH (bI (hp.rat h14) (bI ((HB.out.2.2.trans hX4).own hp.ext (fun k e=>by omega)) hp.box))
  clear hp hr4 h14 hX4 h11 h12 hx11 hx12 hx14 hX1 hX2 hK1 hK2 hK4 hR hS d0 d1 d2 d3 d4 d5
  generalize ((w14.setCell ⟨r,0,none⟩ (.bool ng)).setCell ⟨r,1,none⟩ (.slice sa sn sc)).setCell ⟨r,2,none⟩ (.slice ta tn tc)=w20 at *
  obtain ⟨g0,g1,g2,_⟩:=HR.out.2.2.facts
  go_wp2
  exact bodyPost_ret (v:=.agg #[.bool ng,.slice sa sn sc,.slice ta tn tc]) (by simp [results,Tryz.results124,go_sem,g0,g1,g2]) rfl ⟨_,rfl,HR.out.1,HR.out.2.1⟩
theorem Rrmul_any (w:World) (v v':Value) (q q':Rat) (L:Nat) (h:Rrat w v q L) (h':Rrat w v' q' L) (h0:1<=L) (hL:L<=16777216) :
  Calls Tryz.prog 92 #[v,v'] w (RatPost w (q*q')):=by
 obtain ⟨n1,a1,l1,c1,x1,y1,k1,l,d,rfl,hr,hd,hm,hdl,hq⟩:=h.open
 clear hm
 obtain ⟨n2,a2,l2,c2,x2,y2,k2,l',d',rfl,hr',hd',hm,hdl',hq'⟩:=h'.open
 clear hm
 have HM:=bH (fun W (hW:XF w W)=>Rimul_any W _ _ _ _ L (hr.keep hW) (hr'.keep hW) (by omega))
 have HD1:=bH (fun W (hW:XF w W)=>Rden_any W n1 a1 l1 c1 x1 y1 k1 d (hd.keep hW) (by omega))
 have HD2:=bH (fun W (hW:XF w W)=>Rden_any W n2 a2 l2 c2 x2 y2 k2 d' (hd'.keep hW) (by omega))
 have hdl1:=dn_len hd hdl h0
 have hdl2:=dn_len hd' hdl' h0
 have HN:=bH (fun W u u' (hu:IsNat W u (dn (vl d))) (hu':IsNat W u' (dn (vl d')))=>Rmul_any W u u' _ _ hu hu' (by omega) (by omega))
 simp only [vl_dg] at HN
 have hYl:=dg_len_mul (Nat.lt_of_lt_of_le (dg_lt (dn (vl d))) (pow_mono hdl1)) (Nat.lt_of_lt_of_le (dg_lt (dn (vl d'))) (pow_mono hdl2))
 have hZl:=len_mul hr.len hr'.len
 have HRd:=bH (fun W u u' (hu:IsInt W u (sg n1 (vl l)*sg n2 (vl l'))) (hu':IsNat W u' (dn (vl d)*dn (vl d')))=>Rrbuild_any W u (sg n1 (vl l)*sg n2 (vl l')) (dn (vl d)*dn (vl d')) (L+L) u' (hu.reads hZl) hu' (Nat.mul_pos (dn_pos _) (dn_pos _)) (by omega) (by omega))
 have hres:mkRat (sg n1 (vl l)*sg n2 (vl l')) (dn (vl d)*dn (vl d'))=q*q':=by
  rw [hq,hq',Rat.mkRat_mul_mkRat]
 rw [hres] at HRd
 clear hr hr' hd hd' hdl hdl' hq hq' h h' hres hZl hYl hdl1 hdl2
 generalize q*q'=Q at *
 generalize sg n1 (vl l)*sg n2 (vl l')=Z at *
 generalize hP:dn (vl d)*dn (vl d')=Y at *
 clear hP
 generalize dn (vl d)=D1 at *
 generalize dn (vl d')=D2 at *
 go_enter Tryz.func92,Tryz.ntmps92
 go_upto_region 0 with fail
 go_cut [2,3,4] (fun v1 v2 v3 wx=>∃ b1 b2 r,v1=.pointer (some ⟨b1,0,none⟩)/\v2=.pointer (some ⟨b2,0,none⟩)/\v3=.pointer (some ⟨r,0,none⟩)/\BoxR wx b1 n1 (.slice a1 l1 c1) (.slice x1 y1 k1)/\BoxR wx b2 n2 (.slice a2 l2 c2) (.slice x2 y2 k2)/\BoxR wx r false (.slice none 0 0) (.slice none 0 0)/\b1<r/\b2<r/\w.heap.size<=r/\XF w wx)
 case first =>
  go_wp2
  go_meet
  exact ⟨_,_,_,rfl,rfl,rfl,((boxR_new rfl n1 a1 l1 c1 x1 y1 k1).alloc _).alloc _,(boxR_new (by simp) n2 a2 l2 c2 x2 y2 k2).alloc _,boxR_new (by simp) false none 0 0 none 0 0,(by omega),(by omega),(by omega),(((Ext.refl _ w).alloc _).alloc _).alloc _⟩
 case rest =>
  obtain ⟨b1,b2,r,rfl,rfl,rfl,hb1,hb2,hrb,i1,i2,hle,hx⟩:=hcut
  have hS:=SR2.of hb1 hb2
  have HB:=bH (bI hb1 (bI hb2 (bI hrb hx)))
  clear hb1 hb2 hrb hx
  go_upto_region 1 with fail
  go_region_held3 (SR2 b1 b2 n1 n2 (.slice a1 l1 c1) (.slice x1 y1 k1) (.slice a2 l2 c2) (.slice x2 y2 k2))
   (repeat (first | (with_reducible assumption) | (with_reducible refine SR2.drew ?_) | (with_reducible refine SR2.set ?_ _ _ ?_ ?_) | (dsimp only; omega)))
   (first
    | (go_at_call 95; (with_reducible refine (HM.out _ HB.out.2.2.2.drew).mono ?_); rintro q1 w11 ⟨v11,rfl,h11,hx11⟩; have hX1:=(Ext.refl (fun _=>False) wc).drew.trans hx11; have hK1:=SR2.of (HB.out.1.ext hX1 id) (HB.out.2.1.ext hX1 id); obtain ⟨ng1,ag1,lg1,cg1,rfl⟩:=h11.shape)
    | (go_at_call 69; (with_reducible refine (HD1.out _ (HB.out.2.2.2.trans hX1)).mono ?_); rintro q2 w12 ⟨v12,rfl,h12,hx12⟩; have hX2:=hX1.trans hx12; have hK2:=SR2.of (HB.out.1.ext hX2 id) (HB.out.2.1.ext hX2 id); obtain ⟨ag2,cg2,rfl⟩:=h12.shape)
    | (go_at_call 69; (with_reducible refine (HD2.out _ (HB.out.2.2.2.trans hX2)).mono ?_); rintro q3 w13 ⟨v13,rfl,h13,hx13⟩; have hX3:=hX2.trans hx13; have hK3:=SR2.of (HB.out.1.ext hX3 id) (HB.out.2.1.ext hX3 id); have hN:=HN.out w13 _ _ (h12.keep hx13) h13; obtain ⟨ag3,cg3,rfl⟩:=h13.shape)
    | (go_at_call 125; (with_reducible refine hN.mono ?_); rintro q5 w15 ⟨v15,rfl,h15,hx15⟩; have hX5:=hX3.trans hx15; have hK5:=SR2.of (HB.out.1.ext hX5 id) (HB.out.2.1.ext hX5 id); have hR:=HRd.out w15 _ _ (h11.keep (hx12.trans (hx13.trans hx15))) h15; obtain ⟨ag5,cg5,rfl⟩:=h15.shape)
    | (go_at_call 68; (with_reducible refine hR.mono ?_); rintro q4 w14 ⟨v14,rfl,h14,hx14⟩; have hX4:=hX5.trans hx14; have hK4:=SR2.of (HB.out.1.ext hX4 id) (HB.out.2.1.ext hX4 id); have hr4:=HB.out.2.2.1.ext hX4 id; obtain ⟨d0,d1,d2,d3,d4,d5⟩:=hr4.facts; obtain ⟨ng,sa,sn,sc,ta,tn,tc,rfl⟩:=h14.shape))
  have hp:=hr4.put (neg:=ng) (no_int sa sn sc) (no_int ta tn tc)
  have HR:=bH (bI (hp.rat h14) (bI ((HB.out.2.2.2.trans hX4).own hp.ext (fun k e=>by omega)) hp.box))
  clear hp hr4 h14 hX4 h11 h12 h13 h15 hx11 hx12 hx13 hx14 hx15 hX1 hX2 hX3 hX5 hK1 hK2 hK3 hK4 hK5 hN hR hS d0 d1 d2 d3 d4 d5
  generalize ((w14.setCell ⟨r,0,none⟩ (.bool ng)).setCell ⟨r,1,none⟩ (.slice sa sn sc)).setCell ⟨r,2,none⟩ (.slice ta tn tc)=w20 at *
  obtain ⟨g0,g1,g2,_⟩:=HR.out.2.2.facts
  go_wp2
  exact bodyPost_ret (v:=.agg #[.bool ng,.slice sa sn sc,.slice ta tn tc]) (by simp [results,Tryz.results92,go_sem,g0,g1,g2]) rfl ⟨_,rfl,HR.out.1,HR.out.2.1⟩
theorem Rrfrom_any (w:World) (k:Int) (h0:-9223372036854775808<=k) (h1:k<=9223372036854775807) :
  Calls Tryz.prog 31 #[.int .i64 k] w (RatPost w (k:Rat)):=by
 have HF:=bH (fun W=>Rifrom_any W k h0 h1)
 obtain ⟨q,hq⟩:∃ q:Rat,(k:Rat)=q:=⟨_,rfl⟩
 have hof:∀ W neg mag,IsInt W (.agg #[.bool neg,mag]) k->IsRat W (.agg #[.bool neg,mag,.slice none 0 0]) q:=fun W neg mag h=>by rw [<- hq]; exact IsRat.ofInt h
 have Hof:=bH hof
 rw [hq]
 clear hof hq h0 h1
 go_enter Tryz.func31,Tryz.ntmps31
 go_wp2_with fail
 refine (HF.out _).mono ?_
 rintro r w6 ⟨v6,rfl,h6,hx6⟩
 have hr6:=(boxR_new rfl false none 0 0 none 0 0 (W:=w)).ext hx6 id
 obtain ⟨d0,d1,d2,d3,d4,d5⟩:=hr6.facts
 have hX6:=((Ext.refl (fun _=>False) w).alloc _).trans hx6
 obtain ⟨neg6,so,sn,sc,rfl⟩:=h6.shape
 have hp:=hr6.put (neg:=neg6) (no_int so sn sc) (no_int none 0 0)
 have HR:=bH (bI (hp.rat (Hof.out _ _ _ h6)) (bI (hX6.own hp.ext (fun k e=>by omega)) hp.box))
 clear hp h6 hX6 hr6 hx6
 go_wp2
 generalize ((w6.setCell ⟨w.heap.size,0,none⟩ (.bool neg6)).setCell ⟨w.heap.size,1,none⟩ (.slice so sn sc)).setCell ⟨w.heap.size,2,none⟩ (.slice none 0 0)=w9 at *
 obtain ⟨g0,g1,g2,_⟩:=HR.out.2.2.facts
 exact bodyPost_ret (v:=.agg #[.bool neg6,.slice so sn sc,.slice none 0 0]) (by simp [results,Tryz.results31,go_sem,g0,g1,g2]) rfl ⟨_,rfl,HR.out.1,HR.out.2.1⟩
theorem Rrsign_any (w:World) (v:Value) (q:Rat) (L:Nat) (h:Rrat w v q L) (hL:L<=268435455) :
  Calls Tryz.prog 64 #[v] w fun r w'=>r=.returned (.int .i64 q.num.sign)/\XF w w':=by
 obtain ⟨neg,ao,m,c,ao',m',c',l,d,rfl,h1,_,_,_,rfl⟩:=h.open
 rw [sign_mkRat _ (dn_pos _)]
 have HS:=bH (fun W (hW:XF w W)=>Risign_any W _ _ L (h1.keep hW) hL)
 generalize sg neg (vl l)=z at *
 clear h h1
 go_enter Tryz.func64,Tryz.ntmps64
 go_wp2_with fail
 refine (HS.out _ ((Ext.refl _ w).alloc _)).mono ?_
 rintro r6 w6 ⟨rfl,hx6⟩
 have HX6:=bH (((Ext.refl (fun _=>False) w).alloc _).trans hx6)
 clear hx6
 go_wp2
 go_ret
 exact ⟨rfl,HX6.out⟩
end Go.Proofs.YtjaldknfeojjkaaGreat
