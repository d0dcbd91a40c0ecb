/-
  Texts of the proof, part 10. Conditions: each lemma names its own.
-/
import Derived.Test.YtglepbhkilbbcaaGreatZ5
import Derived.Test.YtglepbhkilbbcaaGreatZ7
import Derived.Test.YtglepbhkilbbcaaGreatZ8
import Derived.Test.YtglepbhkilbbcaaGreatZ9
import Derived.Maps.RangeWalk
open Go.Proofs.Tryz
set_option linter.unusedVariables false
set_option linter.unusedSimpArgs false
set_option maxRecDepth 100000
set_option maxHeartbeats 16000000
namespace Go.Proofs.YtglepbhkilbbcaaGreat
open Go.RowKit Go.MapKept
open Go.ChangeMaps (setBlock)
theorem RI(w:World) (base tb tc ic:Nat) (V:Bh) (T:AX) (i c s:Nat) (h:BG w base tb V T) (hi:i<T.m) (hc:c<T.n) (htc:w.cell? ⟨tc,0,none⟩=some (.pointer (some ⟨tb,0,none⟩))) (hic:w.cell? ⟨ic,0,none⟩=some (.int .i64 i))
  (hz:Sz (T.al i c) s) (hzd:Sz (T.d c) s) (hnz:T.al i c≠0) (hs1:1<=s) (hs:s<=4000000) :
  Calls prog 155 #[.int .i64 c,.pointer (some ⟨tc,0,none⟩),.pointer (some ⟨ic,0,none⟩)] w (Aw w (T.d c / -(T.al i c))):=by
 have hxa:=(AK.refl (fun _=>False) w).alloc (.cells #[.bool false,.slice none 0 0,.slice none 0 0] 34);have hrb:=AO (W:=w) rfl false none 0 0 none 0 0;replace h:=h.keep hxa;replace htc:=AB htc hxa;replace hic:=AB hic hxa;have HX:=bH (bI hxa hrb);clear hxa hrb;go_enter func155,ntmps155;go_upto_region 1 with fail;have hrs:w.heap.size<=w.heap.size:=Nat.le_refl _;generalize w.alloc (.cells #[.bool false,.slice none 0 0,.slice none 0 0] 34)=w2 at *;obtain⟨r,hr⟩:=bN w.heap.size;have hwr:w.heap.size<=r:=Nat.le_of_eq hr;rw[hr] at HX ⊢;clear hr hrs;obtain⟨gal,cal,hv,g1,g2,hal⟩:=h.al.open (by omega);obtain⟨gd,cd,hvd,g3,g4,hrd⟩:=h.d.open (by omega);have hbox:=h.box;rw[hv,hvd] at hbox;have b7:=cq (AA hbox 7 rfl);have b8:=cq (AA hbox 8 rfl);have a0:=cq (hal i hi);have i0:(0:Int)<=(i:Int):=by omega
 have i1:(i:Int)<(T.m:Int):=by omega
 have c0:(0:Int)<=(c:Int):=by omega
 have c1:(c:Int)<(T.n:Int):=by omega
 obtain⟨n3,a3,l3,c3,a3',l3',c3',e0,e1,e2,hq⟩:=(h.rows i hi).1.cells c hc;obtain⟨n4,a4,l4,c4,a4',l4',c4',o0,o1,o2,hqd⟩:=hrd.cells c hc;have HN:=bH (fun W (hW:XF w2 W)=>GT W _ (T.al i c) s ((hq.keep hW).reads hz) hs1 (by omega));have HD:=bH (fun W u (hW:XF w2 W) (hu:AN W u (-(T.al i c)))=>KX W _ u (T.d c) (-(T.al i c)) s ((hqd.keep hW).reads hzd) (hu.reads hz.neg) (by omega) (by omega) (by grind));clear hq hqd hbox hal hrd hv hvd h;replace e0:=cq e0;replace e1:=cq e1;replace e2:=cq e2;replace o0:=cq o0;replace o1:=cq o1;replace o2:=cq o2;replace htc:=cq htc;replace hic:=cq hic;go_cut [5] (fun v5 wx=>∃ib n12 a12 l12 c12 a12' l12' c12',v5=.pointer (some ⟨ib,0,none⟩)/\Aj wx ib n12 (.slice a12 l12 c12) (.slice a12' l12' c12')/\AN wx (.agg #[.bool n12,.slice a12 l12 c12,.slice a12' l12' c12']) (T.d c / -(T.al i c))/\XF w2 wx);case first =>
  refine wp_region_held_drew (S:=(XF w2)) (by kernel_rfl) ((AK.refl _ w2).drew) (fun hHeld=>?_);refine ht 0 (h:=(ht 1 (h:=(ht 2 (h:=(ht 3 (h:=(ht 4 (h:=(ht 5 (h:=(ht 6 (h:=(ht 7 (h:=(ht 8 (h:=(ht 9 (h:=(ht 10 (h:=(ht 11 (h:=(ht 12 (h:=(ht 13 (h:=(ht 14 (h:=(ht 15 (h:=(ht 16 (h:=?_)))))))))))))))))))))))))))))))));(try go_frame);refine Dt 17 22 rfl rfl (by kernel_rfl) (fun K hK=>?_) (fun K hK=>?_)
  ·go_simp;go_at_call 157;(with_reducible refine (HN.o _ hHeld).mono ?_);rintro q1 w11 ⟨v1,rfl,h11,hx1⟩;have hX1:=hHeld.trans hx1;obtain⟨n11,a11,l11,c11,a11',l11',c11',rfl⟩:=h11.shape;refine hK.o _ _ (hX1) (fun hHeld=>?_);clear hK K;(try go_frame);refine Dt 18 22 rfl rfl (by kernel_rfl) (fun K hK=>?_) (fun K hK=>?_)
   ·go_simp;go_at_call 156;(with_reducible refine (HD.o _ _ hX1 h11).mono ?_);rintro q2 w12 ⟨v2,rfl,h12,hx2⟩;have hX2:=hX1.trans hx2;obtain⟨n12,a12,l12,c12,a12',l12',c12',rfl⟩:=h12.shape;refine hK.o _ _ (hX2) (fun hHeld=>?_);clear hK K;(try go_frame);refine ht 19 (h:=(ht 20 (h:=(ht 21 (h:=?_)))));(try go_frame);refine Aa 22 (h:=fun K hK=>?_);go_simp;have hBl3:=hX2.size;have hX3:=hX2.trans ((AK.refl (fun _=>False) w12).alloc (.cells #[.bool false,.slice none 0 0,.slice none 0 0] 34));refine hK.o _ _ (hX3) (fun hHeld=>?_);clear hK K;(try go_frame);refine Aa 23 (h:=fun K hK=>?_);go_simp;have hxn:=(AK.refl (fun _=>False) w12).alloc (.cells #[.bool n12,.slice a12 l12 c12,.slice a12' l12' c12'] 34);have hXs:=hX2.trans hxn;have hps:=h12.keep hxn;have hpb:=AO (W:=w12) rfl n12 a12 l12 c12 a12' l12' c12';refine hK.o _ _ (hXs) (fun hHeld=>?_);clear hK K;(try go_frame);refine ht 24 (h:=?_);(try go_frame);refine wpAnyH_done (by kernel_rfl) ?_ _;go_wp2;go_meet;exact⟨_,_,_,_,_,_,_,_,rfl,hpb,hps,hXs⟩
   go_simp;have hxn:=(AK.refl (fun _=>False) w11).alloc (.cells #[.bool false,.slice none 0 0,.slice none 0 0] 34);have hX2:=hX1.trans hxn;have hB2:=AO (W:=w11) rfl false none 0 0 none 0 0;have hBl2:=hX1.size;replace h11:=h11.keep hxn;refine hK.o _ _ (hX2) (fun hHeld=>?_);clear hK K;(try go_frame);refine Aa 18 (h:=fun K hK=>?_);go_simp;go_at_call 156;(with_reducible refine (HD.o _ _ hX2 h11).mono ?_);rintro q3 w13 ⟨v3,rfl,h12,hx3⟩;have hX3:=hX2.trans hx3;have hB3:=hB2.keep hx3;obtain⟨n12,a12,l12,c12,a12',l12',c12',rfl⟩:=h12.shape;refine hK.o _ _ (hX3) (fun hHeld=>?_);clear hK K;(try go_frame);refine ht 19 (h:=(ht 20 (h:=(ht 21 (h:=?_)))));(try go_frame);refine Aa 23 (h:=fun K hK=>?_);obtain⟨d0,d1,d2,d3,d4,d5⟩:=hB3.facts;have hp:=hB3.put (neg:=n12) (AF a12 l12 c12) (AF a12' l12' c12');have hXs:=hX3.own hp.ext (fun k e=>by have:=hBl2;omega);have hps:=hp.rat h12;have hpb:=hp.box;go_simp;refine hK.o _ _ (hXs) (fun hHeld=>?_);clear hK K;(try go_frame);refine ht 24 (h:=?_);(try go_frame);refine wpAnyH_done (by kernel_rfl) ?_ _;go_wp2;go_meet;exact⟨_,_,_,_,_,_,_,_,rfl,hpb,hps,hXs⟩
  go_simp;have hxn:=(AK.refl (fun _=>False) w2.drew).alloc (.cells #[.bool false,.slice none 0 0,.slice none 0 0] 34);have hX1:XF w2 ((w2.alloc (.cells #[.bool false,.slice none 0 0,.slice none 0 0] 34)).drew):=hHeld.trans hxn;have hB1:Aj ((w2.alloc (.cells #[.bool false,.slice none 0 0,.slice none 0 0] 34)).drew) w2.heap.size false (.slice none 0 0) (.slice none 0 0):=AO (W:=w2.drew) rfl false none 0 0 none 0 0;have hBl1:w2.heap.size<=w2.heap.size:=Nat.le_refl _;refine hK.o _ _ (hX1) (fun hHeld=>?_);clear hK K;(try go_frame);refine Aa 17 (h:=fun K hK=>?_);go_simp;go_at_call 157;(with_reducible refine (HN.o _ hX1).mono ?_);rintro q2 w12 ⟨v2,rfl,h11,hx2⟩;have hX2:=hX1.trans hx2;have hB2:=hB1.keep hx2;obtain⟨n11,a11,l11,c11,a11',l11',c11',rfl⟩:=h11.shape;refine hK.o _ _ (hX2) (fun hHeld=>?_);clear hK K;(try go_frame);refine Aa 18 (h:=fun K hK=>?_);go_simp;go_at_call 156;(with_reducible refine (HD.o _ _ hX2 h11).mono ?_);rintro q3 w13 ⟨v3,rfl,h12,hx3⟩;have hX3:=hX2.trans hx3;have hB3:=hB2.keep hx3;obtain⟨n12,a12,l12,c12,a12',l12',c12',rfl⟩:=h12.shape;refine hK.o _ _ (hX3) (fun hHeld=>?_);clear hK K;(try go_frame);refine ht 19 (h:=(ht 20 (h:=(ht 21 (h:=?_)))));(try go_frame);refine Aa 23 (h:=fun K hK=>?_);obtain⟨d0,d1,d2,d3,d4,d5⟩:=hB3.facts;have hp:=hB3.put (neg:=n12) (AF a12 l12 c12) (AF a12' l12' c12');have hXs:=hX3.own hp.ext (fun k e=>by have:=hBl1;omega);have hps:=hp.rat h12;have hpb:=hp.box;go_simp;refine hK.o _ _ (hXs) (fun hHeld=>?_);clear hK K;(try go_frame);refine ht 24 (h:=?_);(try go_frame);refine wpAnyH_done (by kernel_rfl) ?_ _;go_wp2;go_meet;exact⟨_,_,_,_,_,_,_,_,rfl,hpb,hps,hXs⟩
 case rest =>
  obtain⟨ib,n1,a1,l1,k1,a1',l1',k1',rfl,hbx,hqr,hx⟩:=hcut;obtain⟨x0,x1,x2,-⟩:=hbx.facts;have hrb:=HX.o.2.keep hx;obtain⟨y0,y1,y2,y3,y4,y5⟩:=hrb.facts;have hp:=hrb.put (neg:=n1) (AF a1 l1 k1) (AF a1' l1' k1');have HP:=bH (bI hp.box (bI (hp.rat hqr) ((HX.o.1.trans hx).own hp.ext (fun k e=>by omega))));clear hp hrb hqr hbx hx;go_wp2;generalize ((wc.setCell ⟨r,0,none⟩ (.bool n1)).setCell ⟨r,1,none⟩ (.slice a1 l1 k1)).setCell ⟨r,2,none⟩ (.slice a1' l1' k1')=w9 at *;obtain⟨z0,z1,z2,_⟩:=HP.o.1.facts;exact bodyPost_ret (v:=.agg #[.bool n1,.slice a1 l1 k1,.slice a1' l1' k1']) (by simp[results,results155,go_sem,z0,z1,z2]) rfl ⟨_,rfl,HP.o.2⟩
theorem OZ(w:World) (base tb tc ic:Nat) (V:Bh) (T:AX) (i c s:Nat) (h:BG w base tb V T) (hi:i<T.m) (hc:c<T.n) (htc:w.cell? ⟨tc,0,none⟩=some (.pointer (some ⟨tb,0,none⟩))) (hic:w.cell? ⟨ic,0,none⟩=some (.int .i64 c))
  (hz:Sz (T.al i c) s) (hzd:Sz (T.be i) s) (hnz:T.al i c≠0) (hs1:1<=s) (hs:s<=4000000) :
  Calls prog 166 #[.int .i64 i,.pointer (some ⟨tc,0,none⟩),.pointer (some ⟨ic,0,none⟩)] w (Aw w (T.be i/T.al i c)):=by
 have hxa:=(AK.refl (fun _=>False) w).alloc (.cells #[.bool false,.slice none 0 0,.slice none 0 0] 34);have hrb:=AO (W:=w) rfl false none 0 0 none 0 0;replace h:=h.keep hxa;replace htc:=AB htc hxa;replace hic:=AB hic hxa;have HX:=bH (bI hxa hrb);clear hxa hrb;go_enter func166,ntmps166;go_upto_region 1 with fail;have hrs:w.heap.size<=w.heap.size:=Nat.le_refl _;generalize w.alloc (.cells #[.bool false,.slice none 0 0,.slice none 0 0] 34)=w2 at *;obtain⟨r,hr⟩:=bN w.heap.size;have hwr:w.heap.size<=r:=Nat.le_of_eq hr;rw[hr] at HX ⊢;clear hr hrs;obtain⟨gal,cal,hv,g1,g2,hal⟩:=h.al.open (by omega);obtain⟨gd,cd,hvd,g3,g4,hrd⟩:=h.be.open (by omega);have hbox:=h.box;rw[hv,hvd] at hbox;have b7:=cq (AA hbox 7 rfl);have b8:=cq (AA hbox 6 rfl);have a0:=cq (hal i hi);have i0:(0:Int)<=(i:Int):=by omega
 have i1:(i:Int)<(T.m:Int):=by omega
 have c0:(0:Int)<=(c:Int):=by omega
 have c1:(c:Int)<(T.n:Int):=by omega
 obtain⟨n3,a3,l3,c3,a3',l3',c3',e0,e1,e2,hq⟩:=(h.rows i hi).1.cells c hc;obtain⟨n4,a4,l4,c4,a4',l4',c4',o0,o1,o2,hqd⟩:=hrd.cells i hi;have HD:=bH (fun W (hW:XF w2 W)=>KX W _ _ (T.be i) (T.al i c) s ((hqd.keep hW).reads hzd) ((hq.keep hW).reads hz) (by omega) (by omega) hnz);clear hq hqd hbox hal hrd hv hvd h;replace e0:=cq e0;replace e1:=cq e1;replace e2:=cq e2;replace o0:=cq o0;replace o1:=cq o1;replace o2:=cq o2;replace htc:=cq htc;replace hic:=cq hic;go_cut [5] (fun v5 wx=>∃ib n12 a12 l12 c12 a12' l12' c12',v5=.pointer (some ⟨ib,0,none⟩)/\Aj wx ib n12 (.slice a12 l12 c12) (.slice a12' l12' c12')/\AN wx (.agg #[.bool n12,.slice a12 l12 c12,.slice a12' l12' c12']) (T.be i/T.al i c)/\XF w2 wx);case first =>
  refine wp_region_held_drew (S:=(XF w2)) (by kernel_rfl) ((AK.refl _ w2).drew) (fun hHeld=>?_);refine ht 0 (h:=(ht 1 (h:=(ht 2 (h:=(ht 3 (h:=(ht 4 (h:=(ht 5 (h:=(ht 6 (h:=(ht 7 (h:=(ht 8 (h:=(ht 9 (h:=(ht 10 (h:=(ht 11 (h:=(ht 12 (h:=(ht 13 (h:=(ht 14 (h:=(ht 15 (h:=(ht 16 (h:=?_)))))))))))))))))))))))))))))))));(try go_frame);refine Dt 17 21 rfl rfl (by kernel_rfl) (fun K hK=>?_) (fun K hK=>?_)
  ·go_simp;go_at_call 156;(with_reducible refine (HD.o _ hHeld).mono ?_);rintro q1 w11 ⟨v1,rfl,h12,hx1⟩;have hX1:=hHeld.trans hx1;obtain⟨n12,a12,l12,c12,a12',l12',c12',rfl⟩:=h12.shape;refine hK.o _ _ (hX1) (fun hHeld=>?_);clear hK K;(try go_frame);refine ht 18 (h:=(ht 19 (h:=(ht 20 (h:=?_)))));(try go_frame);refine Aa 21 (h:=fun K hK=>?_);go_simp;have hBl2:=hX1.size;have hX2:=hX1.trans ((AK.refl (fun _=>False) w11).alloc (.cells #[.bool false,.slice none 0 0,.slice none 0 0] 34));refine hK.o _ _ (hX2) (fun hHeld=>?_);clear hK K;(try go_frame);refine Aa 22 (h:=fun K hK=>?_);go_simp;have hxn:=(AK.refl (fun _=>False) w11).alloc (.cells #[.bool n12,.slice a12 l12 c12,.slice a12' l12' c12'] 34);have hXs:=hX1.trans hxn;have hps:=h12.keep hxn;have hpb:=AO (W:=w11) rfl n12 a12 l12 c12 a12' l12' c12';refine hK.o _ _ (hXs) (fun hHeld=>?_);clear hK K;(try go_frame);refine ht 23 (h:=?_);(try go_frame);refine wpAnyH_done (by kernel_rfl) ?_ _;go_wp2;go_meet;exact⟨_,_,_,_,_,_,_,_,rfl,hpb,hps,hXs⟩
  go_simp;have hxn:=(AK.refl (fun _=>False) w2.drew).alloc (.cells #[.bool false,.slice none 0 0,.slice none 0 0] 34);have hX1:XF w2 ((w2.alloc (.cells #[.bool false,.slice none 0 0,.slice none 0 0] 34)).drew):=hHeld.trans hxn;have hB1:Aj ((w2.alloc (.cells #[.bool false,.slice none 0 0,.slice none 0 0] 34)).drew) w2.heap.size false (.slice none 0 0) (.slice none 0 0):=AO (W:=w2.drew) rfl false none 0 0 none 0 0;have hBl1:w2.heap.size<=w2.heap.size:=Nat.le_refl _;refine hK.o _ _ (hX1) (fun hHeld=>?_);clear hK K;(try go_frame);refine Aa 17 (h:=fun K hK=>?_);go_simp;go_at_call 156;(with_reducible refine (HD.o _ hX1).mono ?_);rintro q2 w12 ⟨v2,rfl,h12,hx2⟩;have hX2:=hX1.trans hx2;have hB2:=hB1.keep hx2;obtain⟨n12,a12,l12,c12,a12',l12',c12',rfl⟩:=h12.shape;refine hK.o _ _ (hX2) (fun hHeld=>?_);clear hK K;(try go_frame);refine ht 18 (h:=(ht 19 (h:=(ht 20 (h:=?_)))));(try go_frame);refine Aa 22 (h:=fun K hK=>?_);obtain⟨d0,d1,d2,d3,d4,d5⟩:=hB2.facts;have hp:=hB2.put (neg:=n12) (AF a12 l12 c12) (AF a12' l12' c12');have hXs:=hX2.own hp.ext (fun k e=>by have:=hBl1;omega);have hps:=hp.rat h12;have hpb:=hp.box;go_simp;refine hK.o _ _ (hXs) (fun hHeld=>?_);clear hK K;(try go_frame);refine ht 23 (h:=?_);(try go_frame);refine wpAnyH_done (by kernel_rfl) ?_ _;go_wp2;go_meet;exact⟨_,_,_,_,_,_,_,_,rfl,hpb,hps,hXs⟩
 case rest =>
  obtain⟨ib,n1,a1,l1,k1,a1',l1',k1',rfl,hbx,hqr,hx⟩:=hcut;obtain⟨x0,x1,x2,-⟩:=hbx.facts;have hrb:=HX.o.2.keep hx;obtain⟨y0,y1,y2,y3,y4,y5⟩:=hrb.facts;have hp:=hrb.put (neg:=n1) (AF a1 l1 k1) (AF a1' l1' k1');have HP:=bH (bI hp.box (bI (hp.rat hqr) ((HX.o.1.trans hx).own hp.ext (fun k e=>by omega))));clear hp hrb hqr hbx hx;go_wp2;generalize ((wc.setCell ⟨r,0,none⟩ (.bool n1)).setCell ⟨r,1,none⟩ (.slice a1 l1 k1)).setCell ⟨r,2,none⟩ (.slice a1' l1' k1')=w9 at *;obtain⟨z0,z1,z2,_⟩:=HP.o.1.facts;exact bodyPost_ret (v:=.agg #[.bool n1,.slice a1 l1 k1,.slice a1' l1' k1']) (by simp[results,results166,go_sem,z0,z1,z2]) rfl ⟨_,rfl,HP.o.2⟩
section
variable {acc:Nat->Bool} {key:Nat->Rat} {b:Nat->Nat}
theorem Dk:∀{m:Nat},Bb acc key b m=none->∀k,k<m->acc k=false
 | 0,_,k,hk=>absurd hk (Nat.not_lt_zero k)
 | m+1,h,k,hk=>by
  unfold Bb at h;split at h
  ·exfalso;cases hb:Bb acc key b m with
   | none=>rw[hb] at h;cases h
   | some j =>
    rw[hb] at h;unfold Ku at h;simp only at h;split at h<;>cases h
  rename_i ha;by_cases e:k=m
  ·rw[e];simpa using ha
  exact Dk h k (by omega)
def D6(key:Nat->Rat) (b:Nat->Nat) (j k:Nat):Prop:=key j<key k∨(key j=key k/\b j<=b k)
theorem D6.refl(j:Nat):D6 key b j j:=.inr ⟨rfl,Nat.le_refl _⟩
theorem D6.trans{i j k:Nat} (h:D6 key b i j) (h':D6 key b j k):D6 key b i k:=by
 unfold D6 at *;rcases h with h|⟨h,h1⟩<;>rcases h' with h'|⟨h',h2⟩
 ·exact .inl (by grind)
 ·exact .inl (by grind)
 ·exact .inl (by grind)
 exact .inr ⟨by grind,by omega⟩
theorem NC{k j j':Nat} (h:Ku key b k (some j)=some j'):D6 key b j' k/\D6 key b j' j:=by
 unfold Ku at h;simp only at h;split at h
 ·rename_i hc;cases h;refine⟨D6.refl _,?_⟩;rcases hc with hc|⟨hc,hl⟩
  ·have:=(BV (key k-key j)).1 hc;exact .inl (by grind)
  have:=(By (key k-key j)).1 hc;exact .inr ⟨by grind,by omega⟩
 rename_i hc;cases h;refine⟨?_,D6.refl _⟩;have h1:¬(key k-key j<0):=fun h=>hc (.inl ((BV _).2 h));by_cases h2:key k-key j=0
 ·have h3:¬b k<b j:=fun h=>hc (.inr ⟨(By _).2 h2,h⟩);exact .inr ⟨by grind,by omega⟩
 exact .inl (by grind)
theorem Cf:∀{m j:Nat},Bb acc key b m=some j->∀k,k<m->acc k=true->D6 key b j k
 | 0,_,h,_,_,_=>by cases h
 | m+1,j,h,k,hk,ha=>by
  unfold Bb at h;split at h
  ·rename_i hm;cases hb:Bb acc key b m with
   | none =>
    rw[hb] at h;have:j=m:=(by cases h;rfl);by_cases e:k=m
    ·rw[this,e];exact D6.refl _
    have:=Dk hb k (by omega);rw[ha] at this;cases this
   | some j0 =>
    rw[hb] at h;obtain⟨p1,p2⟩:=NC h;by_cases e:k=m
    ·rw[e];exact p1
    exact p2.trans (Cf hb k (by omega) ha)
  rename_i hm;by_cases e:k=m
  ·rw[e] at ha;rw[ha] at hm;exact absurd rfl hm
  exact Cf h k (by omega) ha
end
def zc(D:Tb):Tb:={ D with d:=fun _=>0,z:=0 }
theorem VG{N:Nat} {D:Tb} (h:Wf N D):Wf N (zc D):=⟨h.dom,h.row,h.rhs,h.unit,fun _ _=>rfl⟩
theorem Uy(D:Tb) (v u:Nat):zc (Cq D v u)=Cq (zc D) v u:=by
 unfold zc Cq;congr 1
 ·funext t;show (0:Rat)=0-0*(D.M v t/D.M v u);grind
 show (0:Rat)=0+0*(D.b v/D.M v u);grind
section
variable {N:Nat} {T:AX} {D:Tb} {i c:Nat}
theorem GH{q:Rat} (h:q<q):False:=by grind
theorem EI.dfirst(h:EI N T D) (h1:Bb (fun k=>decide ((T.be k).num.sign<0)) (fun _=>0) T.ba T.m=some i):i<T.m/\T.be i<0/\∀v,D.B v=true->D.b v<0->T.ba i<=v:=by
 obtain⟨hi,hai⟩:=CO h1;refine⟨hi,(BV _).1 (of_decide_eq_true hai),fun v hv hn=>?_⟩;obtain⟨k,hk,rfl⟩:=h.bas v hv;rw[h.be k hk] at hn;rcases Cf h1 k hk (decide_eq_true ((BV _).2 hn)) with h2|h2
 ·exact (GH h2).elim
 exact h2.2
theorem EI.dstep(h:EI N T D) (h1:Bb (fun k=>decide ((T.be k).num.sign<0)) (fun _=>0) T.ba T.m=some i) (h2:Bb (fun k=>decide ((T.al i k).num.sign<0)) (fun k=>T.d k / -(T.al i k)) T.fr T.n=some c):c<T.n/\T.al i c≠0/\FS N D (T.ba i) (T.fr c):=by
 obtain⟨hi,hbe,hfirst⟩:=h.dfirst h1;obtain⟨hc,hac⟩:=CO h2;have hal:T.al i c<0:=(BV _).1 (of_decide_eq_true hac);refine⟨hc,fun e=>by rw[e] at hal;exact GH hal,h.ba i hi,by rw[h.be i hi];exact hbe,hfirst,h.fr c hc,h.free c hc,by rw[h.al i c hi hc];exact hal,fun t ht hb hn=>?_⟩;obtain⟨j,hj,rfl⟩:=h.frs t ht hb;rw[h.al i j hi hj] at hn ⊢;rw[h.al i c hi hc,h.d c hc,h.d j hj];exact Cf h2 j hj (decide_eq_true ((BV _).2 hn))
theorem EI.dstep0(h:EI N T D) (h1:Bb (fun k=>decide ((T.be k).num.sign<0)) (fun _=>0) T.ba T.m=some i) (h2:Bb (fun k=>decide ((T.al i k).num.sign<0)) (fun _=>0) T.fr T.n=some c):c<T.n/\T.al i c≠0/\FS N (zc D) (T.ba i) (T.fr c):=by
 obtain⟨hi,hbe,hfirst⟩:=h.dfirst h1;obtain⟨hc,hac⟩:=CO h2;have hal:T.al i c<0:=(BV _).1 (of_decide_eq_true hac);have hm:D.M (T.ba i) (T.fr c)<0:=by rw[h.al i c hi hc];exact hal
 refine⟨hc,fun e=>by rw[e] at hal;exact GH hal,h.ba i hi,(by show D.b (T.ba i)<0;rw[h.be i hi];exact hbe),hfirst,h.fr c hc,h.free c hc,hm,fun t ht hb hn=>?_⟩;obtain⟨j,hj,rfl⟩:=h.frs t ht hb;have hn':D.M (T.ba i) (T.fr j)<0:=hn;rw[h.al i j hi hj] at hn';refine .inr ⟨?_,?_⟩
 ·show (0:Rat) / -D.M (T.ba i) (T.fr c)=0 / -D.M (T.ba i) (T.fr j);grind
 rcases Cf h2 j hj (decide_eq_true ((BV _).2 hn')) with h3|h3
 ·exact (GH h3).elim
 exact h3.2
theorem EI.pstep(h:EI N T D) (h1:Bb (fun k=>decide ((T.d k).num.sign<0)) (fun _=>0) T.fr T.n=some c) (h2:Bb (fun k=>decide (0<(T.al k c).num.sign)) (fun k=>T.be k/T.al k c) T.ba T.m=some i):c<T.n/\i<T.m/\T.al i c≠0/\Ia N D (T.ba i) (T.fr c):=by
 obtain⟨hc,hac⟩:=CO h1;obtain⟨hi,hai⟩:=CO h2;have hd:T.d c<0:=(BV _).1 (of_decide_eq_true hac);have hal:0<T.al i c:=(Ea _).1 (of_decide_eq_true hai);refine⟨hc,hi,fun e=>by rw[e] at hal;exact GH hal,h.fr c hc,h.free c hc,by rw[h.d c hc];exact hd,fun t ht hb hn=>?_,h.ba i hi,by rw[h.al i c hi hc];exact hal,fun v hv hp=>?_⟩
 ·obtain⟨j,hj,rfl⟩:=h.frs t ht hb;rw[h.d j hj] at hn;rcases Cf h1 j hj (decide_eq_true ((BV _).2 hn)) with h3|h3
  ·exact (GH h3).elim
  exact h3.2
 obtain⟨k,hk,rfl⟩:=h.bas v hv;rw[h.al k c hk hc] at hp ⊢;rw[h.al i c hi hc,h.be i hi,h.be k hk];exact Cf h2 k hk (decide_eq_true ((Ea _).2 hp))
end
inductive IJ (St:Tb->Nat->Nat->Prop) (D0:Tb):Nat->Tb->Prop
 | zero:IJ St D0 0 D0
 | next {k:Nat} {D:Tb} {v u:Nat}:IJ St D0 k D->St D v u->IJ St D0 (k+1) (Cq D v u)
theorem IJ.chain{St:Tb->Nat->Nat->Prop} {D0:Tb} {k:Nat} {D:Tb} (h:IJ St D0 k D):∃(c:Nat->Tb) (pv pu:Nat->Nat),c 0=D0/\c k=D/\(∀i,i<k->c (i+1)=Cq (c i) (pv i) (pu i))/\∀i,i<k->St (c i) (pv i) (pu i):=by
 induction h with
 | zero=>exact⟨fun _=>D0,fun _=>0,fun _=>0,rfl,rfl,fun i hi=>absurd hi (Nat.not_lt_zero i),fun i hi=>absurd hi (Nat.not_lt_zero i)⟩
 | @next k D v u _ hs ih =>
  obtain⟨c,pv,pu,h0,hk,hn,Aa⟩:=ih;refine⟨fun i=>if i<=k then c i else Cq D v u,fun i=>if i<k then pv i else v,fun i=>if i<k then pu i else u,?_,?_,fun i hi=>?_,fun i hi=>?_⟩
  ·show (if 0<=k then c 0 else _)=D0;rw[if_pos (Nat.zero_le k),h0]
  ·show (if k+1<=k then _ else Cq D v u)=Cq D v u;rw[if_neg (by omega)]
  ·show (if i+1<=k then c (i+1) else Cq D v u)=Cq (if i<=k then c i else _) (if i<k then pv i else v) (if i<k then pu i else u);by_cases e:i<k
   ·rw[if_pos (by omega),if_pos (by omega),if_pos e,if_pos e];exact hn i e
   have:i=k:=(by omega);subst this;rw[if_neg (by omega),if_pos (Nat.le_refl i),if_neg e,if_neg e,hk]
  show St (if i<=k then c i else _) (if i<k then pv i else v) (if i<k then pu i else u);by_cases e:i<k
  ·rw[if_pos (by omega),if_pos e,if_pos e];exact Aa i e
  have:i=k:=(by omega);subst this;rw[if_pos (Nat.le_refl i),if_neg e,if_neg e,hk];exact hs
section
variable {N k:Nat} {D0 D:Tb}
theorem IJ.shortD(h:IJ (FS N) D0 k D) (hw:Wf N D0) (hd:∀t,t<N->0<=D0.d t):k<2 ^ N/\F4 N D0 D/\Wf N D/\∀t,t<N->0<=D.d t:=by
 obtain⟨c,pv,pu,h0,hk,hn,Aa⟩:=h.chain;subst h0;subst hk;have hc:=Bn.ofD hw hn Aa;exact⟨Go.Proofs.YtglepbhkilbbcaaGreat.NK hc Aa hd,hc.equ k (Nat.le_refl k),hc.wfs k (Nat.le_refl k),fun t ht=>QI hc Aa hd k (Nat.le_refl k) t ht⟩
theorem IJ.shortP(h:IJ (Ia N) D0 k D) (hw:Wf N D0) (hb:∀w,0<=D0.b w):k<2 ^ N/\F4 N D0 D/\Wf N D/\∀w,0<=D.b w:=by
 obtain⟨c,pv,pu,h0,hk,hn,Aa⟩:=h.chain;subst h0;subst hk;have hc:=Bn.ofP hw hn Aa;exact⟨Go.Proofs.YtglepbhkilbbcaaGreat.PC hc Aa hb,hc.equ k (Nat.le_refl k),hc.wfs k (Nat.le_refl k),fun w=>P7 hc Aa hb k (Nat.le_refl k) w⟩
theorem IJ.shortZ(h:IJ (fun D v u=>FS N (zc D) v u) D0 k D) (hw:Wf N D0):k<2 ^ N/\F4 N D0 D/\Wf N D:=by
 obtain⟨c,pv,pu,h0,hk,hn,Aa⟩:=h.chain;subst h0;subst hk;have hc:=Bn.ofD (c:=fun i=>zc (c i)) (VG hw) (fun i hi=>by rw[hn i hi,Uy]) Aa;have hs:=Go.Proofs.YtglepbhkilbbcaaGreat.NK hc Aa (fun t _=>Rat.le_refl);have hx:Bn N c pv pu k:=⟨hw,hn,fun i hi=>(Aa i hi).basic,fun i hi=>(Aa i hi).free,fun i hi=>(Aa i hi).uN,fun i hi=>hc.ne i hi⟩;exact⟨hs,hx.equ k (Nat.le_refl k),hx.wfs k (Nat.le_refl k)⟩
end
open Go.RowKit Go.MapKept Go.Lib
theorem Ow(w:World) (ao:Option Addr) (c:Nat) (fv:Value):Calls prog 149 #[.slice ao 0 c,fv] w fun r w'=>r=.returned (.bool false)/\w'=w:=by
 have h:∀W,Calls prog 214 #[.slice ao 0 c,fv] W fun r w'=>r=.returned (.int .i64 (-1))/\w'=W:=fun W=>by
  go_enter func214,ntmps214;go_wp2_with fail;go_loopg [8] 0 (fun gg s8 wr=>s8=.int .i64 0/\wr=W);case atStart=>exact⟨rfl,rfl⟩
  case round =>
   obtain⟨rfl,rfl⟩:=hrel;go_wp2;go_ret;exact⟨rfl,rfl⟩
 have H:=bH h;clear h;go_enter func149,ntmps149;go_wp2_with (go_at_call 214;refine (H.o _).mono ?_;rintro e w' ⟨rfl,rfl⟩);go_ret;exact⟨rfl,rfl⟩
def H6(m:Nat) (f:Nat->Rat):Bool:=(List.range m).any fun j=>decide (f j<0)
theorem KE{m:Nat} {f:Nat->Rat}:H6 m f=false↔∀j,j<m->0<=f j:=by
 unfold H6;rw[List.any_eq_false];constructor
 ·intro h j hj;have:=h j (List.mem_range.2 hj);exact Rat.not_lt.1 (by simpa using this)
 intro h j hj;have:=Rat.not_lt.2 (h j (List.mem_range.1 hj));simpa using this
theorem PD(w:World) (base:Nat) (v:Value) (m s:Nat) (f:Nat->Rat) (h:A8 w base v m f) (hz:∀j,j<m->Sz (f j) s) (hs1:1<=s) (hs:s<=268435455) (hm:m<=1000000) :
  Calls prog 149 #[v,.func (.func 150) #[] #[]] w (Ak w (H6 m f)):=by
 rcases h with⟨rfl,rfl⟩|⟨g,cap,rfl,_,_,_,hr,_⟩
 ·refine (Ow w none 0 _).mono ?_;rintro r w' ⟨rfl,rfl⟩;exact⟨AL rfl,AK.refl _ _⟩
 have hex:∀j,∃x:BW,(j<m->∀i u,x.cells[i]?=some u->w.cell? ⟨g,0+j*3+i,none⟩=some u)/\AN w x.v (if j<m then f j else 0):=fun j=>by
  by_cases hj:j<m
  ·obtain⟨ng,a1,m1,c1,a2,m2,c2,e0,e1,e2,hq⟩:=hr.cells j hj;refine⟨⟨ng,a1,m1,c1,a2,m2,c2⟩,fun _ i u hi=>?_,by rw[if_pos hj];exact hq⟩;rw[Nat.zero_add];match i,hi with
   | 0,hi=>cases hi;exact e0
   | 1,hi=>cases hi;exact e1
   | 2,hi=>cases hi;exact e2
   | i+3,hi=>cases hi
  exact⟨⟨false,none,0,0,none,0,0⟩,fun h=>absurd h hj,by rw[if_neg hj];exact AN.zero _⟩
 obtain⟨x,hx⟩:=Classical.axiomOfChoice hex;have hq:=AnyQ.slices_ContainsFunc Tryz.laysRat8 3 isAgg34 sizeOf34 (fun j=>(x j).cells) (fun _=>rfl) (fun j=>decide ((if j<m then f j else 0:Rat)<0)) 150 #[] (enters_of func150 (by kernel_rfl) rfl) g 0 m cap (List.range m) w
  (fun W j hW=>by
   have hxx:=Below.ext hW;have hzj:Sz (if j<m then f j else 0) s:=by
    split
    ·next h=>exact hz j h
    exact Sz.zero.mono hs1
   refine (RL W _ _ s ((hx j).2.keep hxx) hzj hs).mono ?_;rintro e w' ⟨rfl,hx'⟩;refine⟨?_,(hxx.trans hx').below⟩;congr 2;exact decide_eq_decide.2 (BV _))
  (by simp) (by omega) hr.lt (fun j hj i u hi=>by
   rw[List.length_range] at hj;rw[getElem!_pos _ j (by simpa using hj),List.getElem_range] at hi;exact (hx j).1 hj i u hi)
 refine hq.mono ?_;rintro r w' ⟨rfl,hb⟩;refine⟨?_,Below.ext hb⟩;have ht:List.take m (List.range m)=List.range m:=by rw[List.take_of_length_le (by simp)]
 rw[ht];congr 2;unfold H6;rw[Bool.eq_iff_iff,List.any_eq_true,List.any_eq_true];constructor
 ·rintro⟨j,hj,h⟩;rw[if_pos (List.mem_range.1 hj)] at h;exact⟨j,hj,h⟩
 rintro⟨j,hj,h⟩;exact⟨j,hj,by rw[if_pos (List.mem_range.1 hj)];exact h⟩
def VR(good:Bool) (T:AX) (i:Nat) (c:Nat):Rat:=if good then T.d c / -(T.al i c) else 0
def CK(T:AX):Option Nat:=Bb (fun k=>decide ((T.be k).num.sign<0)) (fun _=>0) T.ba T.m
def FQ(good:Bool) (T:AX) (i:Nat):Option Nat:=Bb (fun k=>decide ((T.al i k).num.sign<0)) (VR good T i) T.fr T.n
def CF(T:AX):Option Nat:=Bb (fun k=>decide ((T.d k).num.sign<0)) (fun _=>0) T.fr T.n
def GB(T:AX) (c:Nat):Option Nat:=Bb (fun k=>decide (0<(T.al k c).num.sign)) (fun k=>T.be k/T.al k c) T.ba T.m
def Rr(f:AX->Option AX):Nat->AX->Option AX
 | 0,T=>some T
 | k+1,T=>(Rr f k T).bind f
def Cc(f:AX->Option AX) (T T':AX):Prop:=(∃k,Rr f k T=some T')/\f T'=none
def CE(good:Bool) (T:AX):Option AX:=(CK T).bind fun i=>(FQ good T i).bind fun c=>some (DS T i c)
def CJ(T:AX):Option AX:=(CF T).bind fun c=>(GB T c).bind fun i=>some (DS T i c)
structure Ft(N:Nat) (good:Bool) (T0:AX) (D0:Tb) (k:Nat) (T:AX) (D:Tb):Prop where
 its:Rr (CE good) k T0=some T
 rep:EI N T D
 run:IJ (fun D v u=>FS N (if good then D else zc D) v u) D0 k D
 wf0:Wf N D0
 cost:good=true->∀t,t<N->0<=D0.d t
section
variable {N k:Nat} {good:Bool} {D0 D:Tb} {T0 T:AX}
theorem Ft.start(h:EI N T D) (hg:good=true->∀j,j<T.n->0<=T.d j):Ft N good T D 0 T D:=⟨rfl,h,.zero,h.wf,fun e t ht=>by
 cases hb:D.B t with
 | true=>rw[h.wf.cost t hb];exact Rat.le_refl
 | false =>
  obtain⟨j,hj,rfl⟩:=h.frs t ht hb;rw[h.d j hj];exact hg e j hj⟩
theorem Ft.short(h:Ft N good T0 D0 k T D):k<2 ^ N/\F4 N D0 D/\Wf N D/\(good=true->∀t,t<N->0<=D.d t):=by
 obtain⟨hits,hr,hrun,hw,hc⟩:=h;cases good with
 | true =>
  have h1:IJ (FS N) D0 k D:=hrun;obtain⟨g1,g2,g3,g4⟩:=h1.shortD hw (hc rfl);exact⟨g1,g2,g3,fun _=>g4⟩
 | false =>
  have h1:IJ (fun D v u=>FS N (zc D) v u) D0 k D:=hrun;obtain⟨g1,g2,g3⟩:=h1.shortZ hw;exact⟨g1,g2,g3,fun e=>(by cases e)⟩
theorem Ft.next(h:Ft N good T0 D0 k T D) {i c:Nat} (h1:CK T=some i) (h2:FQ good T i=some c):i<T.m/\c<T.n/\T.al i c≠0/\Ft N good T0 D0 (k+1) (DS T i c) (Cq D (T.ba i) (T.fr c)):=by
 have hi:=(h.rep.dfirst h1).1;have nit:Rr (CE good) (k+1) T0=some (DS T i c):=by
  show (Rr (CE good) k T0).bind (CE good)=_;rw[h.its];show (CK T).bind _=_;rw[h1];show (FQ good T i).bind _=_;rw[h2];rfl
 obtain⟨hits,hr,hrun,hw,hc⟩:=h;cases good with
 | true =>
  obtain⟨g1,g2,g3⟩:=hr.dstep h1 h2;exact⟨hi,g1,g2,nit,hr.piv hi g1 g2,hrun.next g3,hw,hc⟩
 | false =>
  obtain⟨g1,g2,g3⟩:=hr.dstep0 h1 h2;exact⟨hi,g1,g2,nit,hr.piv hi g1 g2,hrun.next g3,hw,hc⟩
theorem Ft.halt1(h:Ft N good T0 D0 k T D) (h1:CK T=none):Cc (CE good) T0 T:=⟨⟨k,h.its⟩,by unfold CE;rw[h1];rfl⟩
theorem Ft.halt2(h:Ft N good T0 D0 k T D) {i:Nat} (h1:CK T=some i) (h2:FQ good T i=none):Cc (CE good) T0 T:=⟨⟨k,h.its⟩,by
 unfold CE;rw[h1];show (FQ good T i).bind _=none;rw[h2];rfl⟩
theorem Er(h:CK T=none):∀k,k<T.m->0<=T.be k:=fun k hk=>by
 have:=of_decide_eq_false (Dk h k hk);exact Rat.not_lt.1 fun hl=>this ((BV _).2 hl)
theorem K4{i:Nat} (h:CK T=some i):i<T.m/\T.be i<0:=⟨(CO h).1,(BV _).1 (of_decide_eq_true (CO h).2)⟩
theorem IM{i:Nat} (h:FQ good T i=none):∀c,c<T.n->0<=T.al i c:=fun c hc=>by
 have:=of_decide_eq_false (Dk h c hc);exact Rat.not_lt.1 fun hl=>this ((BV _).2 hl)
structure Fq(N:Nat) (T0:AX) (D0:Tb) (k:Nat) (T:AX) (D:Tb):Prop where
 its:Rr CJ k T0=some T
 rep:EI N T D
 run:IJ (Ia N) D0 k D
 wf0:Wf N D0
 rhs:∀v,0<=D0.b v
theorem Fq.start(h:EI N T D) (hb:∀k,k<T.m->0<=T.be k):Fq N T D 0 T D:=⟨rfl,h,.zero,h.wf,fun v=>by
 cases hB:D.B v with
 | true =>
  obtain⟨k,hk,rfl⟩:=h.bas v hB;rw[h.be k hk];exact hb k hk
 | false=>rw[h.wf.rhs v hB];exact Rat.le_refl⟩
theorem Fq.short(h:Fq N T0 D0 k T D):k<2 ^ N/\F4 N D0 D/\Wf N D/\∀v,0<=D.b v:=h.run.shortP h.wf0 h.rhs
theorem Fq.next(h:Fq N T0 D0 k T D) {i c:Nat} (h1:CF T=some c) (h2:GB T c=some i):i<T.m/\c<T.n/\T.al i c≠0/\Fq N T0 D0 (k+1) (DS T i c) (Cq D (T.ba i) (T.fr c)):=by
 obtain⟨hits,hr,hrun,hw,hb⟩:=h;obtain⟨g1,g2,g3,g4⟩:=hr.pstep h1 h2;refine⟨g2,g1,g3,?_,hr.piv g2 g1 g3,hrun.next g4,hw,hb⟩;show (Rr CJ k T0).bind CJ=_;rw[hits];show (CF T).bind _=_;rw[h1];show (GB T c).bind _=_;rw[h2];rfl
theorem Fq.halt1(h:Fq N T0 D0 k T D) (h1:CF T=none):Cc CJ T0 T:=⟨⟨k,h.its⟩,by unfold CJ;rw[h1];rfl⟩
theorem Fq.halt2(h:Fq N T0 D0 k T D) {c:Nat} (h1:CF T=some c) (h2:GB T c=none):Cc CJ T0 T:=⟨⟨k,h.its⟩,by
 unfold CJ;rw[h1];show (GB T c).bind _=none;rw[h2];rfl⟩
theorem LH(h:CF T=none):∀c,c<T.n->0<=T.d c:=fun c hc=>by
 have:=of_decide_eq_false (Dk h c hc);exact Rat.not_lt.1 fun hl=>this ((BV _).2 hl)
theorem LV{c:Nat} (h:CF T=some c):c<T.n/\T.d c<0:=⟨(CO h).1,(BV _).1 (of_decide_eq_true (CO h).2)⟩
theorem KJ{c:Nat} (h:GB T c=none):∀k,k<T.m->T.al k c<=0:=fun k hk=>by
 have:=of_decide_eq_false (Dk h k hk);exact Rat.not_lt.1 fun hl=>this ((Ea _).2 hl)
end
theorem JL(w:World) (base tb:Nat) (V:Bh) (T:AX) (i c s:Nat) (h:BG w base tb V T) (hi:i<T.m) (hc:c<T.n) (hnz:T.al i c≠0) (hs1:2<=s) (hs2:s<=200000)
  (hal:∀k j,k<T.m->j<T.n->Sz (T.al k j) s) (hbe:∀k,k<T.m->Sz (T.be k) s) (hd:∀j,j<T.n->Sz (T.d j) s) :
  Calls prog 159 #[.pointer (some ⟨tb,0,none⟩),.int .i64 i,.int .i64 c] w (fun r w'=>r=.returned (.tuple #[])/\BG w' base tb V (DS T i c)/\AK (V.S T.m) w w'/\∀v l,Ad w v l->Ad w' v l):=by
 obtain⟨gal,cal,hval,hal1,hal2,hcal⟩:=h.al.open (by omega);obtain⟨gbe,cbe,hvbe,hbe1,hbe2,-⟩:=h.be.open (by omega);obtain⟨gd,cd,hvd,hd1,hd2,-⟩:=h.d.open (by omega);obtain⟨gba,cba,hvba,hba1,hba2,-,-⟩:=h.ba.open (by omega);obtain⟨gfr,cfr,hvfr,hfr1,hfr2,-,-⟩:=h.fr.open (by omega);have HV:=bH (bI hval (bI hvbe (bI hvd (bI hvba hvfr))));have hbox:=h.box;rw[hval,hvbe,hvd,hvba,hvfr] at hbox;have b6:=AA hbox 7 rfl;have a0:=hcal i hi;obtain⟨n0,r1,r2,r3,r1',r2',r3',e0,e1,e2,hq0⟩:=(h.rows i hi).1.cells c hc;have i0:(0:Int)<=(i:Int):=by omega
 have i1:(i:Int)<(T.m:Int):=by omega
 have c0:(0:Int)<=(c:Int):=by omega
 have c1:(c:Int)<(T.n:Int):=by omega
 have HF:=bH (fun W=>Bx W 1 (by decide) (by decide));have hz0:=hal i c hi hc;have HD:=bH (fun W u (hW:XF w W) (hu:AN W u ((1:Int):Rat))=>KX W u _ ((1:Int):Rat) (T.al i c) s (hu.reads ((Sz.int (k:=1) (by constructor<;>decide)).mono hs1)) ((hq0.keep hW).reads hz0) (by omega) (by omega) hnz);have HT:=bH (bI h (bI hal (bI hbe (bI hd hnz))));have HI:=bH (bI hi hc);clear hq0 hz0 hal hbe hd hnz h hcal hbox hvbe hvd hvba hvfr hval;go_enter func159,ntmps159;go_upto_region 1 with fail;clear b6 a0;obtain⟨w2,hw2⟩:=bN w;rw[hw2] at e0 e1 e2 HD HT ⊢;replace e0:=cq e0;replace e1:=cq e1;replace e2:=cq e2;go_cut [7] (fun v7 wx=>∃ib n12 a12 l12 c12 a12' l12' c12',v7=.pointer (some ⟨ib,0,none⟩)/\Aj wx ib n12 (.slice a12 l12 c12) (.slice a12' l12' c12')/\AN wx (.agg #[.bool n12,.slice a12 l12 c12,.slice a12' l12' c12']) (((1:Int):Rat)/T.al i c)/\w2.heap.size<=ib/\XF w2 wx);case first =>
  refine wp_region_held_drew (S:=(XF w2)) (by kernel_rfl) ((AK.refl _ w2).drew) (fun hHeld=>?_);refine ht 1 (h:=(ht 2 (h:=(ht 3 (h:=(ht 4 (h:=?_)))))));(try go_frame);refine Dt 0 9 rfl rfl (by kernel_rfl) (fun K hK=>?_) (fun K hK=>?_)
  ·go_simp;go_at_call 86;(with_reducible refine (HF.o _).mono ?_);rintro q1 w11 ⟨v1,rfl,h11,hx1⟩;have hX1:=hHeld.trans hx1;obtain⟨n11,a11,l11,c11,a11',l11',c11',rfl⟩:=h11.shape;refine hK.o _ _ (hX1) (fun hHeld=>?_);clear hK K;(try go_frame);refine Dt 5 9 rfl rfl (by kernel_rfl) (fun K hK=>?_) (fun K hK=>?_)
   ·go_simp;go_at_call 156;(with_reducible refine (HD.o _ _ hX1 h11).mono ?_);rintro q2 w12 ⟨v2,rfl,h12,hx2⟩;have hX2:=hX1.trans hx2;obtain⟨n12,a12,l12,c12,a12',l12',c12',rfl⟩:=h12.shape;refine hK.o _ _ (hX2) (fun hHeld=>?_);clear hK K;(try go_frame);refine ht 6 (h:=(ht 7 (h:=(ht 8 (h:=?_)))));(try go_frame);refine Aa 9 (h:=fun K hK=>?_);go_simp;have hBl3:=hX2.size;have hX3:=hX2.trans ((AK.refl (fun _=>False) w12).alloc (.cells #[.bool false,.slice none 0 0,.slice none 0 0] 34));refine hK.o _ _ (hX3) (fun hHeld=>?_);clear hK K;(try go_frame);refine Aa 10 (h:=fun K hK=>?_);go_simp;have hxn:=(AK.refl (fun _=>False) w12).alloc (.cells #[.bool n12,.slice a12 l12 c12,.slice a12' l12' c12'] 34);have hXs:=hX2.trans hxn;have hps:=h12.keep hxn;have hpb:=AO (W:=w12) rfl n12 a12 l12 c12 a12' l12' c12';have hle:=hBl3;refine hK.o _ _ (hXs) (fun hHeld=>?_);clear hK K;(try go_frame);refine ht 11 (h:=?_);(try go_frame);refine wpAnyH_done (by kernel_rfl) ?_ _;go_wp2;go_meet;exact⟨_,_,_,_,_,_,_,_,rfl,hpb,hps,hle,hXs⟩
   go_simp;have hxn:=(AK.refl (fun _=>False) w11).alloc (.cells #[.bool false,.slice none 0 0,.slice none 0 0] 34);have hX2:=hX1.trans hxn;have hB2:=AO (W:=w11) rfl false none 0 0 none 0 0;have hBl2:=hX1.size;replace h11:=h11.keep hxn;refine hK.o _ _ (hX2) (fun hHeld=>?_);clear hK K;(try go_frame);refine Aa 5 (h:=fun K hK=>?_);go_simp;go_at_call 156;(with_reducible refine (HD.o _ _ hX2 h11).mono ?_);rintro q3 w13 ⟨v3,rfl,h12,hx3⟩;have hX3:=hX2.trans hx3;have hB3:=hB2.keep hx3;obtain⟨n12,a12,l12,c12,a12',l12',c12',rfl⟩:=h12.shape;refine hK.o _ _ (hX3) (fun hHeld=>?_);clear hK K;(try go_frame);refine ht 6 (h:=(ht 7 (h:=(ht 8 (h:=?_)))));(try go_frame);refine Aa 10 (h:=fun K hK=>?_);obtain⟨d0,d1,d2,d3,d4,d5⟩:=hB3.facts;have hp:=hB3.put (neg:=n12) (AF a12 l12 c12) (AF a12' l12' c12');have hXs:=hX3.own hp.ext (fun k e=>by have:=hBl2;omega);have hps:=hp.rat h12;have hpb:=hp.box;have hle:=hBl2;go_simp;refine hK.o _ _ (hXs) (fun hHeld=>?_);clear hK K;(try go_frame);refine ht 11 (h:=?_);(try go_frame);refine wpAnyH_done (by kernel_rfl) ?_ _;go_wp2;go_meet;exact⟨_,_,_,_,_,_,_,_,rfl,hpb,hps,hle,hXs⟩
  go_simp;have hxn:=(AK.refl (fun _=>False) w2.drew).alloc (.cells #[.bool false,.slice none 0 0,.slice none 0 0] 34);have hX1:=hHeld.trans hxn;have hB1:Aj (w2.drew.alloc (.cells #[.bool false,.slice none 0 0,.slice none 0 0] 34)) w2.heap.size false (.slice none 0 0) (.slice none 0 0):=AO (W:=w2.drew) rfl false none 0 0 none 0 0;have hBl1:w2.heap.size<=w2.heap.size:=Nat.le_refl _;refine hK.o _ _ (hX1) (fun hHeld=>?_);clear hK K;(try go_frame);refine Aa 0 (h:=fun K hK=>?_);go_simp;go_at_call 86;(with_reducible refine (HF.o _).mono ?_);rintro q2 w12 ⟨v2,rfl,h11,hx2⟩;have hX2:=hX1.trans hx2;have hB2:=hB1.keep hx2;obtain⟨n11,a11,l11,c11,a11',l11',c11',rfl⟩:=h11.shape;refine hK.o _ _ (hX2) (fun hHeld=>?_);clear hK K;(try go_frame);refine Aa 5 (h:=fun K hK=>?_);go_simp;go_at_call 156;(with_reducible refine (HD.o _ _ hX2 h11).mono ?_);rintro q3 w13 ⟨v3,rfl,h12,hx3⟩;have hX3:=hX2.trans hx3;have hB3:=hB2.keep hx3;obtain⟨n12,a12,l12,c12,a12',l12',c12',rfl⟩:=h12.shape;refine hK.o _ _ (hX3) (fun hHeld=>?_);clear hK K;(try go_frame);refine ht 6 (h:=(ht 7 (h:=(ht 8 (h:=?_)))));(try go_frame);refine Aa 10 (h:=fun K hK=>?_);obtain⟨d0,d1,d2,d3,d4,d5⟩:=hB3.facts;have hp:=hB3.put (neg:=n12) (AF a12 l12 c12) (AF a12' l12' c12');have hXs:=hX3.own hp.ext (fun k e=>by have:=hBl1;omega);have hps:=hp.rat h12;have hpb:=hp.box;have hle:=hBl1;go_simp;refine hK.o _ _ (hXs) (fun hHeld=>?_);clear hK K;(try go_frame);refine ht 11 (h:=?_);(try go_frame);refine wpAnyH_done (by kernel_rfl) ?_ _;go_wp2;go_meet;exact⟨_,_,_,_,_,_,_,_,rfl,hpb,hps,hle,hXs⟩
 case rest =>
  clear HF HD e0 e1 e2;obtain⟨ib,n1,a1,l1,c1,a1',l1',c1',rfl,hbx,hq,hib,hx⟩:=hcut;obtain⟨hsm1,hsm2⟩:=HT.o.1.small;have HZ:=bH (bI (Sz.invF (T:=T) (i:=i) (c:=c) (by omega) (HT.o.2.1 i c HI.o.1 HI.o.2)) (fun l hl=>Sz.row (T:=T) (i:=i) (c:=c) (by omega) (HT.o.2.1 i c HI.o.1 HI.o.2) (HT.o.2.1 i l HI.o.1 hl)));have HP:=bH (show FM w2 wc base tb V (MW T i c 0) ib (BE T i c) ⟨n1,a1,l1,c1,a1',l1',c1'⟩ from⟨(HT.o.1.keep hx).congr (TE T i c),hx.none,fun v l k=>k.keep hx,hbx,by
   have e:((1:Int):Rat)=1:=rfl;rw[e] at hq;exact hq,hib,HT.o.1.old⟩)
  have HO:=bH HT.o.1.old;clear hbx hq hx;go_wp2_with fail;go_loopg [33,9,10] T.n (fun gg v33 v9 v10 wr=>∃j:Nat,j<=T.n/\gg=T.n-j/\v33=.int .i64 j/\FM w2 wr base tb V (MW T i c j) ib (BE T i c) ⟨n1,a1,l1,c1,a1',l1',c1'⟩);case atStart=>exact⟨0,Nat.zero_le _,rfl,rfl,HP.o⟩
  case round =>
   clear HP;obtain⟨j,hj,rfl,rfl,hp⟩:=hrel;have HS:=bH hp;clear hp;by_cases hjn:j<T.n
   ·have j0:(j:Int)<(T.n:Int):=(by omega);have j1:(0:Int)<=(j:Int):=(by omega);obtain⟨n3,a3,l3,c3,a3',l3',c3',e0,e1,e2,hq3⟩:=(HS.o.tab.rows i HI.o.1).1.cells j hjn;rw[U4] at hq3;have hxa:=(AK.refl (fun _=>False) wr).alloc (.cells #[.bool n3,.slice a3 l3 c3,.slice a3' l3' c3'] 34);have hb3:=AO (W:=wr) rfl n3 a3 l3 c3 a3' l3' c3';have HSt:=bH (bI (HS.o.keep hxa) (bI hb3 (hq3.keep hxa)));clear hxa hb3 hq3 HS;go_upto_region 5 with fail;generalize wr.alloc (.cells #[.bool n3,.slice a3 l3 c3,.slice a3' l3' c3'] 34)=w3 at *;generalize wr.heap.size=ab at *;clear e0 e1 e2;by_cases hjc:j=c
    ·have HN:=bH (HSt.o.1.congr (OD T i c j (.inl hjc)));have hnb:((j:Int) != (c:Int))=false:=(by rw[hjc];simp);have hnb':((j:Int) == (c:Int))=true:=(by rw[hjc];simp);go_wp2;go_roundg (T.n-(j+1));case measure=>omega
     case rel=>exact⟨j+1,by omega,rfl,by go_num,HN.o⟩
    have hjc1:((j:Int) == (c:Int))=false:=(by simp;omega);have hjc2:((j:Int) != (c:Int))=true:=(by simp;omega);obtain⟨x0,x1,x2,-⟩:=HSt.o.2.1.facts;have hsj:=HT.o.2.1 i j HI.o.1 hjn;have HSg:=bH (Bt w3 _ _ s (HSt.o.2.2.reads hsj) (by omega));go_wp2_with fail;refine HSg.o.mono ?_;rintro r4 w4 ⟨rfl,hx4⟩;replace HSt:=bH (bI (HSt.o.1.keep hx4) (bI (HSt.o.2.1.keep hx4) (HSt.o.2.2.keep hx4)));have Hsz:=bH (By (T.al i j));clear hx4 x0 x1 x2 HSg;generalize (T.al i j).num.sign=sg at *;by_cases hsg:sg=0
    ·have HN:=bH (HSt.o.1.congr (OD T i c j (.inr (Hsz.o.1 hsg))));subst hsg;go_wp2;go_roundg (T.n-(j+1));case measure=>omega
     case rel=>exact⟨j+1,by omega,rfl,by go_num,HN.o⟩
    have hs1:(sg == 0)=false:=(by simpa using hsg);have hs2:(sg != 0)=true:=(by simpa using hsg);obtain⟨x0,x1,x2,-⟩:=HSt.o.2.1.facts;obtain⟨y0,y1,y2,-⟩:=HSt.o.1.box.facts;dsimp only at y0 y1 y2;have HM:=bH (DW w4 _ _ (T.al i j) (BE T i c) s (HSt.o.2.2.reads hsj) (HSt.o.1.inv.reads HZ.o.1) (by omega) (by omega));go_wp2_with fail;refine HM.o.mono ?_;rintro r5 w5 ⟨v5,rfl,h5,hx5⟩;obtain⟨n5,a5,l5,c5,a5',l5',c5',rfl⟩:=h5.shape;have HP5:=bH (HSt.o.1.keep hx5);clear HM x0 x1 x2 y0 y1 y2 HSt;have HR:=bH (HP5.o.tab.rows i HI.o.1).1;obtain⟨o1,o2,o3,o4,o5,o6,o7,t0,t1,t2,-⟩:=HR.o.cells j hjn;have fz0:=HR.o.free (j*3);have fz1:=HR.o.free (j*3+1);have fz2:=HR.o.free (j*3+2);go_upto_region 7 with fail;have HN:=bH (by
     obtain⟨p1,p2,p3,p4⟩:=HR.o.put (show j<(MW T i c j).n from hjn) h5;exact (HP5.o.row HI.o.1 ((Bd.refl HR.o).next p1 p2 p3 p4)).congr (TU T i c j hjc))
    clear t0 t1 t2 fz0 fz1 fz2 HP5 HR h5 hx5;generalize ((w5.setCell ⟨V.rb i,j*3,none⟩ (.bool n5)).setCell ⟨V.rb i,j*3+1,none⟩ (.slice a5 l5 c5)).setCell ⟨V.rb i,j*3+2,none⟩ (.slice a5' l5' c5')=w9 at *;go_wp2;go_roundg (T.n-(j+1));case measure=>omega
    case rel=>exact⟨j+1,by omega,rfl,by go_num,HN.o⟩
   obtain rfl:j=T.n:=(by omega);have HR:=bH (HS.o.tab.rows i HI.o.1).1;obtain⟨o1,o2,o3,o4,o5,o6,o7,t0,t1,t2,-⟩:=HR.o.cells c HI.o.2;have fz0:=HR.o.free (c*3);have fz1:=HR.o.free (c*3+1);have fz2:=HR.o.free (c*3+2);obtain⟨y0,y1,y2,-⟩:=HS.o.box.facts;dsimp only at y0 y1 y2;go_upto_region 9 with fail;have HN:=bH (by
    obtain⟨p1,p2,p3,p4⟩:=HR.o.put (show c<(MW T i c T.n).n from HI.o.2) HS.o.inv;exact (HS.o.row HI.o.1 ((Bd.refl HR.o).next p1 p2 p3 p4)).congr (Rz T i c))
   clear t0 t1 t2 fz0 fz1 fz2 HR y0 y1 y2 HS;generalize ((wr.setCell ⟨V.rb i,c*3,none⟩ (.bool n1)).setCell ⟨V.rb i,c*3+1,none⟩ (.slice a1 l1 c1)).setCell ⟨V.rb i,c*3+2,none⟩ (.slice a1' l1' c1')=w8 at *;have HB:=bH (show B9 w8 gbe T.m T.be from HN.o.tab.be.cap' HV.o.2.1);have hbox:=HN.o.tab.box;rw[HV.o.1,HV.o.2.1,HV.o.2.2.1,HV.o.2.2.2.1,HV.o.2.2.2.2] at hbox;have b5:=cq (AA hbox 6 rfl);clear hbox;obtain⟨on,oa,ol,oc,oa2,ol2,oc2,o0,o1,o2,hoq⟩:=HB.o.cells i HI.o.1;obtain⟨y0,y1,y2,-⟩:=HN.o.box.facts;dsimp only at y0 y1 y2;have hiq:AN w8 (.agg #[.bool n1,.slice a1 l1 c1,.slice a1' l1' c1']) (BE T i c):=HN.o.inv;have HM:=bH (fun W (hW:XF w8 W)=>DW W _ _ (T.be i) (BE T i c) s ((hoq.keep hW).reads (HT.o.2.2.1 i HI.o.1)) ((hiq.keep hW).reads HZ.o.1) (by omega) (by omega));clear hoq hiq;replace o0:=cq o0;replace o1:=cq o1;replace o2:=cq o2;replace y0:=cq y0;replace y1:=cq y1;replace y2:=cq y2;refine A4 15 (XF w8) (by kernel_rfl) ((AK.refl _ w8).drew) (fun hHeld=>?_);refine et 0 (h:=(et 1 (h:=(et 2 (h:=(et 3 (h:=(et 4 (h:=(et 5 (h:=(et 6 (h:=(et 7 (h:=(et 8 (h:=(et 9 (h:=(et 10 (h:=(et 11 (h:=(et 12 (h:=?_)))))))))))))))))))))))));(try go_frame);refine GY 13 (h:=fun K hK=>?_);(go_simp;go_at_call 179;(with_reducible refine (HM.o _ hHeld).mono ?_);rintro q1 w11 ⟨v11,rfl,h11,hx11⟩;have hX1:=hHeld.trans hx11;obtain⟨n11,a11,l11,k11,a11',l11',k11',rfl⟩:=h11.shape);refine hK.o _ _ (hX1) (fun hHeld=>?_);clear hK K;(try go_frame);refine et 14 (h:=?_);(try go_frame);have HT2:=bH (HB.o.keep hX1);have fz0:=HT2.o.free (i*3);have fz1:=HT2.o.free (i*3+1);have fz2:=HT2.o.free (i*3+2);have t0:=o0 _ hX1;have t1:=o1 _ hX1;have t2:=o2 _ hX1;refine BJ rfl (by kernel_rfl) (fun K hK=>?_);go_simp;refine hK.o _ _ ?_;clear hK K;(try go_frame);refine BL (by kernel_rfl) ?_ _;have HN2:=bH (by
    obtain⟨p1,p2,p3,p4⟩:=HT2.o.put HI.o.1 h11;exact ((HN.o.keep hX1).be HV.o.2.1 ((Bd.refl HT2.o).next p1 p2 p3 p4)).congr (TQ T i c))
   clear t0 t1 t2 fz0 fz1 fz2 HT2 HB HN y0 y1 y2 o0 o1 o2 b5 h11 hx11 hX1 HM hHeld;generalize ((w11.setCell ⟨gbe,i*3,none⟩ (.bool n11)).setCell ⟨gbe,i*3+1,none⟩ (.slice a11 l11 k11)).setCell ⟨gbe,i*3+2,none⟩ (.slice a11' l11' k11')=w9 at *;have hbox:=HN2.o.tab.box;rw[HV.o.1,HV.o.2.1,HV.o.2.2.1,HV.o.2.2.2.1,HV.o.2.2.2.2] at hbox;have b6:=AA hbox 7 rfl;clear hbox;go_wp2_with fail;clear b6;go_loopg [77,11,12,13] T.m (fun gg v77 v11 v12 v13 wr=>∃j:Nat,j<=T.m/\gg=T.m-j/\v77=.int .i64 j/\FM w2 wr base tb V (LZ T i c j) ib (BE T i c) ⟨n1,a1,l1,c1,a1',l1',c1'⟩);case atStart=>exact⟨0,Nat.zero_le _,rfl,rfl,HN2.o⟩
   case round =>
    clear HN2;obtain⟨j,hj,rfl,rfl,hp⟩:=hrel;have HS:=bH hp;clear hp;by_cases hjm:j<T.m
    ·have j0:(j:Int)<(T.m:Int):=(by omega);have j1:(0:Int)<=(j:Int):=(by omega);have a0:wr.cell? ⟨gal,j,none⟩=some (.slice (some ⟨V.rb j,0,none⟩) T.n T.n):=HS.o.tab.al.cell' HV.o.1 hjm;obtain⟨n3,a3,l3,k3,a3',l3',k3',e0,e1,e2,hq3⟩:=(HS.o.tab.rows j hjm).1.cells c HI.o.2;have hab:V.rb j<wr.heap.size:=(HS.o.tab.rows j hjm).1.lt;have hxa:=(AK.refl (fun _=>False) wr).alloc (.cells #[.bool n3,.slice a3 l3 k3,.slice a3' l3' k3'] 34);have hb3:=AO (W:=wr) rfl n3 a3 l3 k3 a3' l3' k3';have HSt:=bH (bI (HS.o.keep hxa) (bI hb3 (hq3.keep hxa)));clear hxa hb3 hq3 HS;go_upto_region 14 with fail;generalize wr.alloc (.cells #[.bool n3,.slice a3 l3 k3,.slice a3' l3' k3'] 34)=w3 at *;generalize wr.heap.size=ab at *;clear e0 e1 e2 a0;by_cases hji:j=i
     ·have HN:=bH (HSt.o.1.congr (OJ T i c j (.inl hji)));have hnb:((j:Int) != (i:Int))=false:=(by rw[hji];simp);have hnb':((j:Int) == (i:Int))=true:=(by rw[hji];simp);go_wp2;go_roundg (T.m-(j+1));case measure=>omega
      case rel=>exact⟨j+1,by omega,rfl,by go_num,HN.o⟩
     have hji1:((j:Int) == (i:Int))=false:=(by simp;omega);have hji2:((j:Int) != (i:Int))=true:=(by simp;omega);replace HSt:=bH (bI HSt.o.1 (bI HSt.o.2.1 (show AN w3 (.agg #[.bool n3,.slice a3 l3 k3,.slice a3' l3' k3']) (T.al j c) from by have:=HSt.o.2.2;rw[Rw T hji] at this;exact this)));obtain⟨x0,x1,x2,-⟩:=HSt.o.2.1.facts;have hsj:=HT.o.2.1 j c hjm HI.o.2;have HSg:=bH (Bt w3 _ _ s (HSt.o.2.2.reads hsj) (by omega));go_wp2_with fail;refine HSg.o.mono ?_;rintro r4 w4 ⟨rfl,hx4⟩;replace HSt:=bH (bI (HSt.o.1.keep hx4) (bI (HSt.o.2.1.keep hx4) (HSt.o.2.2.keep hx4)));have Hsz:=bH (By (T.al j c));clear hx4 x0 x1 x2 HSg;generalize (T.al j c).num.sign=sg at *;by_cases hsg:sg=0
     ·have HN:=bH (HSt.o.1.congr (OJ T i c j (.inr (Hsz.o.1 hsg))));subst hsg;go_wp2;go_roundg (T.m-(j+1));case measure=>omega
      case rel=>exact⟨j+1,by omega,rfl,by go_num,HN.o⟩
     have hs1:(sg == 0)=false:=(by simpa using hsg);have hs2:(sg != 0)=true:=(by simpa using hsg);obtain⟨x0,x1,x2,-⟩:=HSt.o.2.1.facts;have HA:=bH (by
      have r1:=(HSt.o.1.tab.rows j hjm).1;have r2:=(HSt.o.1.tab.rows i HI.o.1).1;rw[Rw T hji] at r1;rw[Pz] at r2;exact He w4 (V.rb j) (V.rb i) T.n T.n T.n T.n (T.al j) (Cy T i c) _ (T.al j c) (c:Int) (2*s) r1 r2 (HSt.o.1.tab.rr i j HI.o.1 hjm (fun e=>hji e.symm)) (Nat.le_refl _) (by omega) HSt.o.2.2 (hsj.mono (by omega)) (fun l hl=>(HT.o.2.1 j l hjm hl).mono (by omega)) (fun l hl=>HZ.o.2 l hl) (by omega) (by omega))
     go_wp2_with fail;refine HA.o.mono ?_;rintro r5 w5 ⟨rfl,ho⟩;have hab2:ab≠V.rb j:=(by omega);replace HSt:=bH (bI (show FM w2 w5 base tb V (Tr T i c j) ib (BE T i c) ⟨n1,a1,l1,c1,a1',l1',c1'⟩ from HSt.o.1.row hjm ho) (bI (HSt.o.2.1.ext ho.ext (fun e=>hab2 e)) (HSt.o.2.2.past ho.rds)));clear ho HA x0 x1 x2;obtain⟨x0,x1,x2,-⟩:=HSt.o.2.1.facts;obtain⟨y0,y1,y2,-⟩:=HSt.o.1.box.facts;dsimp only at y0 y1 y2;have HM:=bH (DW w5 _ _ (T.al j c) (BE T i c) s (HSt.o.2.2.reads hsj) (HSt.o.1.inv.reads HZ.o.1) (by omega) (by omega));go_wp2_with fail;refine HM.o.mono ?_;rintro r6 w6 ⟨v6,rfl,h6,hx6⟩;replace HSt:=bH (bI (HSt.o.1.keep hx6) (bI (HSt.o.2.1.keep hx6) (HSt.o.2.2.keep hx6)));have HNg:=bH (GT w6 v6 _ (s+s) (h6.reads (hsj.mul HZ.o.1)) (by omega) (by omega));clear HM x0 x1 x2 y0 y1 y2 h6 hx6;go_wp2_with fail;refine HNg.o.mono ?_;rintro r7 w7 ⟨v7,rfl,h7,hx7⟩;obtain⟨n7,a7,l7,k7,a7',l7',k7',rfl⟩:=h7.shape;replace HSt:=bH (bI (HSt.o.1.keep hx7) (bI (HSt.o.2.1.keep hx7) (HSt.o.2.2.keep hx7)));clear HNg hx7;have HR:=bH (show B9 w7 (V.rb j) T.n (QT T i c j) from by
      have:=(HSt.o.1.tab.rows j hjm).1;have e:(Tr T i c j).al j=QT T i c j:=if_pos rfl;rw[e] at this;exact this)
     obtain⟨u1,u2,u3,u4,u5,u6,u7,t0,t1,t2,-⟩:=HR.o.cells c HI.o.2;have fz0:=HR.o.free (c*3);have fz1:=HR.o.free (c*3+1);have fz2:=HR.o.free (c*3+2);go_upto_region 17 with fail;replace HSt:=bH (by
      obtain⟨p1,p2,p3,p4⟩:=HR.o.put HI.o.2 h7;exact bI (show FM w2 _ base tb V (Uh T i c j) ib (BE T i c) ⟨n1,a1,l1,c1,a1',l1',c1'⟩ from HSt.o.1.row hjm ((Bd.refl HR.o).next p1 p2 p3 p4)) (bI (HSt.o.2.1.ext p2 (fun e=>hab2 e)) (HSt.o.2.2.past p3)))
     clear t0 t1 t2 fz0 fz1 fz2 HR h7;generalize ((w7.setCell ⟨V.rb j,c*3,none⟩ (.bool n7)).setCell ⟨V.rb j,c*3+1,none⟩ (.slice a7 l7 k7)).setCell ⟨V.rb j,c*3+2,none⟩ (.slice a7' l7' k7')=w8 at *;have HB:=bH (show B9 w8 gbe T.m (LZ T i c j).be from HSt.o.1.tab.be.cap' HV.o.2.1);have hbox:=HSt.o.1.tab.box;rw[HV.o.1,HV.o.2.1,HV.o.2.2.1,HV.o.2.2.2.1,HV.o.2.2.2.2] at hbox;have b5:=cq (AA hbox 6 rfl);clear hbox;obtain⟨x0,x1,x2,-⟩:=HSt.o.2.1.facts;obtain⟨on,oa,ol,oc,oa2,ol2,oc2,o0,o1,o2,hoq⟩:=HB.o.cells j hjm;obtain⟨pn,pa,pl,pc,pa2,pl2,pc2,p0,p1,p2,hpq⟩:=HB.o.cells i HI.o.1;rw[UQ T hji] at hoq;rw[Ui] at hpq;have hzi:=(HT.o.2.2.1 i HI.o.1).mul HZ.o.1;have hzj:=HT.o.2.2.1 j hjm;have HM:=bH (fun W (hW:XF w8 W)=>DW W _ _ (T.al j c) (T.be i*BE T i c) (s+s) ((HSt.o.2.2.keep hW).reads (hsj.mono (by omega))) ((hpq.keep hW).reads hzi) (by omega) (by omega));have HSb:=bH (fun W u (hW:XF w8 W) (hu:AN W u (T.al j c*(T.be i*BE T i c)))=>Fh W _ u (T.be j) _ (s+(s+s)) ((hoq.keep hW).reads (hzj.mono (by omega))) (hu.reads (hsj.mul hzi)) (by omega) (by omega));clear hoq hpq;replace x0:=cq x0;replace x1:=cq x1;replace x2:=cq x2;replace o0:=cq o0;replace o1:=cq o1;replace o2:=cq o2;replace p0:=cq p0;replace p1:=cq p1;replace p2:=cq p2;refine A4 23 (XF w8) (by kernel_rfl) ((AK.refl _ w8).drew) (fun hHeld=>?_);refine et 0 (h:=(et 1 (h:=(et 2 (h:=(et 3 (h:=(et 4 (h:=(et 5 (h:=(et 6 (h:=(et 7 (h:=(et 8 (h:=(et 9 (h:=(et 10 (h:=(et 11 (h:=(et 12 (h:=(et 13 (h:=(et 14 (h:=(et 15 (h:=(et 16 (h:=(et 17 (h:=(et 18 (h:=(et 19 (h:=?_)))))))))))))))))))))))))))))))))))))));(try go_frame);refine GY 20 (h:=fun K hK=>?_);(go_simp;go_at_call 179;(with_reducible refine (HM.o _ hHeld).mono ?_);rintro q1 w11 ⟨v11,rfl,h11,hx11⟩;have hX1:=hHeld.trans hx11;have hT:=HSb.o w11 _ hX1 h11;obtain⟨n11,a11,l11,k11,a11',l11',k11',rfl⟩:=h11.shape);refine hK.o _ _ (hX1) (fun hHeld=>?_);clear hK K;(try go_frame);refine GY 21 (h:=fun K hK=>?_);(go_simp;go_at_call 161;(with_reducible refine hT.mono ?_);rintro q2 w12 ⟨v12,rfl,h12,hx12⟩;have hX2:=hX1.trans hx12;obtain⟨n12,a12,l12,k12,a12',l12',k12',rfl⟩:=h12.shape);refine hK.o _ _ (hX2) (fun hHeld=>?_);clear hK K;(try go_frame);refine et 22 (h:=?_);(try go_frame);have HT2:=bH (HB.o.keep hX2);have fz0:=HT2.o.free (j*3);have fz1:=HT2.o.free (j*3+1);have fz2:=HT2.o.free (j*3+2);have t0:=o0 _ hX2;have t1:=o1 _ hX2;have t2:=o2 _ hX2;refine BJ rfl (by kernel_rfl) (fun K hK=>?_);go_simp;refine hK.o _ _ ?_;clear hK K;(try go_frame);refine BL (by kernel_rfl) ?_ _;have HN:=bH (by
      obtain⟨q1,q2,q3,q4⟩:=HT2.o.put hjm h12;exact ((HSt.o.1.keep hX2).be HV.o.2.1 ((Bd.refl HT2.o).next q1 q2 q3 q4)).congr (Rs T i c j hji))
     clear t0 t1 t2 fz0 fz1 fz2 HT2 HB HSt x0 x1 x2 o0 o1 o2 p0 p1 p2 b5 h11 hx11 hX1 h12 hx12 hX2 HM HSb hT hHeld;generalize ((w12.setCell ⟨gbe,j*3,none⟩ (.bool n12)).setCell ⟨gbe,j*3+1,none⟩ (.slice a12 l12 k12)).setCell ⟨gbe,j*3+2,none⟩ (.slice a12' l12' k12')=w9 at *;go_wp2;go_roundg (T.m-(j+1));case measure=>omega
     case rel=>exact⟨j+1,by omega,rfl,by go_num,HN.o⟩
    obtain rfl:j=T.m:=(by omega);have hbox:=HS.o.tab.box;rw[HV.o.1,HV.o.2.1,HV.o.2.2.1,HV.o.2.2.2.1,HV.o.2.2.2.2] at hbox;have b8:=AA hbox 8 rfl;clear hbox;have HD:=bH (show B9 wr gd T.n T.d from HS.o.tab.d.cap' HV.o.2.2.1);obtain⟨n3,a3,l3,k3,a3',l3',k3',e0,e1,e2,hq3⟩:=HD.o.cells c HI.o.2;have hgd:gd<wr.heap.size:=HD.o.lt;have hxa:=(AK.refl (fun _=>False) wr).alloc (.cells #[.bool n3,.slice a3 l3 k3,.slice a3' l3' k3'] 34);have hb3:=AO (W:=wr) rfl n3 a3 l3 k3 a3' l3' k3';have HSt:=bH (bI (HS.o.keep hxa) (bI hb3 (hq3.keep hxa)));clear hxa hb3 hq3 HS HD;go_upto_region 20 with fail;generalize wr.alloc (.cells #[.bool n3,.slice a3 l3 k3,.slice a3' l3' k3'] 34)=w3 at *;generalize wr.heap.size=ab at *;clear e0 e1 e2 b8;obtain⟨x0,x1,x2,-⟩:=HSt.o.2.1.facts;have hsj:=HT.o.2.2.2.1 c HI.o.2;have HSg:=bH (Bt w3 _ _ s (HSt.o.2.2.reads hsj) (by omega));go_wp2_with fail;refine HSg.o.mono ?_;rintro r4 w4 ⟨rfl,hx4⟩;replace HSt:=bH (bI (HSt.o.1.keep hx4) (bI (HSt.o.2.1.keep hx4) (HSt.o.2.2.keep hx4)));have Hsz:=bH (By (T.d c));clear hx4 x0 x1 x2 HSg;generalize (T.d c).num.sign=sg at *;by_cases hsg:sg=0;case' pos =>
     have HF:=bH (HSt.o.1.congr (Sy T i c (Hsz.o.1 hsg)));clear HSt Hsz hsj;subst hsg;generalize w4=w5 at *;go_upto_region 23 with fail
    case' neg =>
     have hs1:(sg == 0)=false:=(by simpa using hsg);have hs2:(sg != 0)=true:=(by simpa using hsg);obtain⟨x0,x1,x2,-⟩:=HSt.o.2.1.facts;have hbox:=HSt.o.1.tab.box;rw[HV.o.1,HV.o.2.1,HV.o.2.2.1,HV.o.2.2.2.1,HV.o.2.2.2.2] at hbox;have htg:tb≠gd:=by
      obtain⟨arr,h1⟩:=HSt.o.1.tab.d.typ gd (by rw[HV.o.2.2.1];rfl);exact ES HSt.o.1.tab.box h1 (by decide)
     have hab2:ab≠gd:=(by omega);have b8:=BX (S:=fun k=>k=gd) (AA hbox 8 rfl) htg;clear hbox;have hgi:V.rb i≠gd:=fun e=>HSt.o.1.tab.rd i HI.o.1 (by rw[HV.o.2.2.1,<- e];rfl);have HA:=bH (fun W (hW:XF w4 W)=>by
      have r1:B9 w4 gd T.n T.d:=HSt.o.1.tab.d.cap' HV.o.2.2.1;have r2:=(HSt.o.1.tab.rows i HI.o.1).1;rw[Pz] at r2;exact He W gd (V.rb i) T.n cd T.n T.n T.d (Cy T i c) _ (T.d c) (c:Int) (2*s) (r1.keep hW) (r2.keep hW) hgi (Nat.le_refl _) (by omega) (HSt.o.2.2.keep hW) (hsj.mono (by omega)) (fun l hl=>(HT.o.2.2.2.1 l hl).mono (by omega)) (fun l hl=>HZ.o.2 l hl) (by omega) (by omega))
     replace x0:=BX (S:=fun k=>k=gd) x0 hab2;replace x1:=BX (S:=fun k=>k=gd) x1 hab2;replace x2:=BX (S:=fun k=>k=gd) x2 hab2;go_upto_region 21 with fail;refine wp_region_held_drew (S:=(AK (fun k=>k=gd) w4)) (by kernel_rfl) ((AK.refl _ w4).drew) (fun hHeld=>?_);refine ht 0 (h:=(ht 1 (h:=(ht 2 (h:=(ht 3 (h:=(ht 4 (h:=(ht 5 (h:=(ht 6 (h:=?_)))))))))))));(try go_frame);refine Aa 7 (h:=fun K hK=>?_);(go_simp;go_at_call 218;(with_reducible refine (HA.o _ (AK.refl _ w4).drew).mono ?_);rintro q1 w11 ⟨rfl,ho1⟩;have hX1:=((AK.refl (fun k=>k=gd) w4).drew).trans ho1.ext);refine hK.o _ _ (hX1) (fun hHeld=>?_);clear hK K;(try go_frame);refine wpAnyH_done (by kernel_rfl) ?_ _;replace HSt:=bH (bI (show FM w2 w11 base tb V (Um T i c) ib (BE T i c) ⟨n1,a1,l1,c1,a1',l1',c1'⟩ from (HSt.o.1.keep (AK.refl _ w4).drew).d HV.o.2.2.1 ho1) (bI ((HSt.o.2.1.keep (AK.refl _ w4).drew).ext ho1.ext (fun e=>hab2 e)) ((HSt.o.2.2.keep (AK.refl _ w4).drew).past ho1.rds)));clear ho1 hX1 hHeld HA x0 x1 x2 b8 htg;go_upto_region 22 with fail;generalize w11=w8 at *;have HB:=bH (show B9 w8 gd T.n (Um T i c).d from HSt.o.1.tab.d.cap' HV.o.2.2.1);have hbox:=HSt.o.1.tab.box;rw[HV.o.1,HV.o.2.1,HV.o.2.2.1,HV.o.2.2.2.1,HV.o.2.2.2.2] at hbox;have b8:=cq (AA hbox 8 rfl);clear hbox;obtain⟨x0,x1,x2,-⟩:=HSt.o.2.1.facts;obtain⟨y0,y1,y2,-⟩:=HSt.o.1.box.facts;dsimp only at y0 y1 y2;obtain⟨on,oa,ol,oc,oa2,ol2,oc2,o0,o1,o2,-⟩:=HB.o.cells c HI.o.2;have hiq:AN w8 (.agg #[.bool n1,.slice a1 l1 c1,.slice a1' l1' c1']) (BE T i c):=HSt.o.1.inv;have hzi:=hsj.mul HZ.o.1;have HM:=bH (fun W (hW:XF w8 W)=>DW W _ _ (T.d c) (BE T i c) s ((HSt.o.2.2.keep hW).reads hsj) ((hiq.keep hW).reads HZ.o.1) (by omega) (by omega));have HSb:=bH (fun W u (hW:XF w8 W) (hu:AN W u (T.d c*BE T i c))=>GT W u _ (s+s) (hu.reads hzi) (by omega) (by omega));clear hiq;replace x0:=cq x0;replace x1:=cq x1;replace x2:=cq x2;replace y0:=cq y0;replace y1:=cq y1;replace y2:=cq y2;replace o0:=cq o0;replace o1:=cq o1;replace o2:=cq o2;refine A4 10 (XF w8) (by kernel_rfl) ((AK.refl _ w8).drew) (fun hHeld=>?_);refine et 0 (h:=(et 1 (h:=(et 2 (h:=(et 3 (h:=(et 4 (h:=(et 5 (h:=(et 6 (h:=?_)))))))))))));(try go_frame);refine GY 7 (h:=fun K hK=>?_);(go_simp;go_at_call 179;(with_reducible refine (HM.o _ hHeld).mono ?_);rintro q1 w11 ⟨v11,rfl,h11,hx11⟩;have hX1:=hHeld.trans hx11;have hT:=HSb.o w11 _ hX1 h11;obtain⟨n11,a11,l11,k11,a11',l11',k11',rfl⟩:=h11.shape);refine hK.o _ _ (hX1) (fun hHeld=>?_);clear hK K;(try go_frame);refine GY 8 (h:=fun K hK=>?_);(go_simp;go_at_call 157;(with_reducible refine hT.mono ?_);rintro q2 w12 ⟨v12,rfl,h12,hx12⟩;have hX2:=hX1.trans hx12;obtain⟨n12,a12,l12,k12,a12',l12',k12',rfl⟩:=h12.shape);refine hK.o _ _ (hX2) (fun hHeld=>?_);clear hK K;(try go_frame);refine et 9 (h:=?_);(try go_frame);have HT2:=bH (HB.o.keep hX2);have fz0:=HT2.o.free (c*3);have fz1:=HT2.o.free (c*3+1);have fz2:=HT2.o.free (c*3+2);have t0:=o0 _ hX2;have t1:=o1 _ hX2;have t2:=o2 _ hX2;refine BJ rfl (by kernel_rfl) (fun K hK=>?_);go_simp;refine hK.o _ _ ?_;clear hK K;(try go_frame);refine BL (by kernel_rfl) ?_ _;have HF:=bH (by
      obtain⟨q1,q2,q3,q4⟩:=HT2.o.put HI.o.2 h12;exact ((HSt.o.1.keep hX2).d HV.o.2.2.1 ((Bd.refl HT2.o).next q1 q2 q3 q4)).congr (Tt T i c))
     clear t0 t1 t2 fz0 fz1 fz2 HT2 HB HSt x0 x1 x2 y0 y1 y2 o0 o1 o2 b8 h11 hx11 hX1 h12 hx12 hX2 HM HSb hT hHeld;generalize ((w12.setCell ⟨gd,c*3,none⟩ (.bool n12)).setCell ⟨gd,c*3+1,none⟩ (.slice a12 l12 k12)).setCell ⟨gd,c*3+2,none⟩ (.slice a12' l12' k12')=w5 at *;go_upto_region 23 with fail
    all_goals
     have hbox:=HF.o.tab.box
     rw[HV.o.1,HV.o.2.1,HV.o.2.2.1,HV.o.2.2.2.1,HV.o.2.2.2.2] at hbox
     have b4:=cq (AA hbox 4 rfl)
     have b5:=cq (AA hbox 5 rfl)
     clear hbox
     have s0:=cq (HF.o.tab.ba.cell' HV.o.2.2.2.1 HI.o.1).1
     have s1:=cq (HF.o.tab.fr.cell' HV.o.2.2.2.2 HI.o.2).1
     have hgn:gba≠gfr:=fun e=>HF.o.tab.bf gba (by rw[HV.o.2.2.2.1];rfl) (by rw[HV.o.2.2.2.2,e];rfl)
     have hgn2:gfr≠gba:=fun e=>hgn e.symm
     refine Dq 25 (XF w5) (by kernel_rfl) ((AK.refl _ w5).drew) (fun hHeld=>?_)
     refine mu 0 (h:=(mu 1 (h:=(mu 2 (h:=(mu 3 (h:=(mu 4 (h:=(mu 5 (h:=(mu 6 (h:=(mu 7 (h:=(mu 8 (h:=(mf 9 (h:=(mu 10 (h:=(mu 11 (h:=(mu 12 (h:=(mu 13 (h:=(mu 14 (h:=(mu 15 (h:=(mu 16 (h:=(mu 17 (h:=(mu 18 (h:=(mu 19 (h:=(mu 20 (h:=(mu 21 (h:=(mu 22 (h:=(mu 23 (h:=(mu 24 (h:=?_)))))))))))))))))))))))))))))))))))))))))))))))))
     (try go_frame)
     obtain⟨t0,tf0⟩:=HF.o.tab.ba.cell' HV.o.2.2.2.1 HI.o.1
     obtain⟨t1,tf1⟩:=HF.o.tab.fr.cell' HV.o.2.2.2.2 HI.o.2
     refine ml 25 (h:=fun K hK=>?_)
     go_simp
     refine hK.o _ _ ?_
     clear hK K
     (try go_frame)
     refine ml 26 (h:=fun K hK=>?_)
     go_simp
     refine hK.o _ _ ?_
     clear hK K
     (try go_frame)
     refine ml 27 (h:=fun K hK=>?_)
     go_simp
     refine hK.o _ _ ?_
     clear hK K
     (try go_frame)
     refine Dr (by kernel_rfl) ?_ _
     obtain⟨q1,q2,q3⟩:=HF.o.tab.swap (i:=i) (c:=c) HV.o.2.2.2.1 HV.o.2.2.2.2 ((Ty T i c).fr c) ((Ty T i c).ba i) rfl
     have HQ:=bH (bI (show BG _ base tb V (DS T i c) from q1.keep ((AK.refl _ _).drew)) (bI ((HF.o.ext.trans q2).trans ((AK.refl _ _).drew)) (fun v l k=>(q3 v l (HF.o.rds v l k)).keep ((AK.refl _ _).drew))))
     clear q1 q2 q3
     go_wp2
     exact bodyPost_end (v:=.tuple #[]) (by simp[results,results159,go_sem]) rfl ⟨rfl,by rw[hw2];exact HQ.o⟩
theorem EI.sz{N s:Nat} {T:AX} {D:Tb} (h:EI N T D) (hb:Ut N D s):(∀k j,k<T.m->j<T.n->Sz (T.al k j) s)/\(∀k,k<T.m->Sz (T.be k) s)/\∀j,j<T.n->Sz (T.d j) s :=
 ⟨fun k j hk hj=>by rw[<- h.al k j hk hj];exact hb.M _ _ (h.fr j hj),fun k hk=>by rw[<- h.be k hk];exact hb.b _,fun j hj=>by rw[<- h.d j hj];exact hb.d _ (h.fr j hj)⟩
structure Ud(w w':World) (base tb N:Nat) (V:Bh) (T T':AX) (D D':Tb):Prop where
 tab:BG w' base tb V T'
 n:T'.n=T.n
 m:T'.m=T.m
 rep:EI N T' D'
 equ:F4 N D D'
 ext:AK (V.S T.m) w w'
 rds:∀v l,Ad w v l->Ad w' v l
theorem Ft.costs{N k:Nat} {good:Bool} {D0 D:Tb} {T0 T:AX} (h:Ft N good T0 D0 k T D) (hg:good=true):∀j,j<T.n->0<=T.d j:=fun j hj=>by
 have:=h.short.2.2.2 hg (T.fr j) (h.rep.fr j hj);rwa [h.rep.d j hj] at this
theorem QU(w:World) (base tb tc ic s:Nat) (V:Bh) (T:AX) (i:Nat) (good:Bool) (h:BG w base tb V T) (hi:i<T.m) (htc:w.cell? ⟨tc,0,none⟩=some (.pointer (some ⟨tb,0,none⟩))) (hic:w.cell? ⟨ic,0,none⟩=some (.int .i64 i))
  (hal:∀j,j<T.n->Sz (T.al i j) s) (hd:∀j,j<T.n->Sz (T.d j) s) (hs1:2<=s) (hs2:s<=200000) :
  Calls prog 152 #[V.fr,.func (.func 158) #[] #[.pointer (some ⟨tc,0,none⟩),.pointer (some ⟨ic,0,none⟩)],if good then .func (.func 155) #[] #[.pointer (some ⟨tc,0,none⟩),.pointer (some ⟨ic,0,none⟩)] else .func (.func 154) #[] #[]] w
   (fun r w'=>r=.returned (.int .i64 (DG (FQ good T i)))/\XF w w'):=by
 have hsm:=h.small;have H1:∀W,XF w W->∀k:Nat,k<T.n->Calls prog 158 (#[.int .i64 k]++#[.pointer (some ⟨tc,0,none⟩),.pointer (some ⟨ic,0,none⟩)]) W (Ak W (decide ((T.al i k).num.sign<0))) :=
  fun W hW k hk=>Qk W base tb tc ic V T i k s (h.keep hW) hi hk (AB htc hW) (AB hic hW) (hal k hk) (by omega)
 cases good with
 | false =>
  exact FU w V.fr T.n T.fr 158 154 #[.pointer (some ⟨tc,0,none⟩),.pointer (some ⟨ic,0,none⟩)] #[] (fun k=>decide ((T.al i k).num.sign<0)) (fun _=>0) 1 (h.fr.nrow (by omega)) (by omega)
   (enters_of func158 (by kernel_rfl) rfl) (enters_of func154 (by kernel_rfl) rfl) H1 (fun W hW k hk _=>Kr W k) (fun _ _ _=>Sz.zero) (Nat.le_refl 1) (by decide)
 | true =>
  exact FU w V.fr T.n T.fr 158 155 #[.pointer (some ⟨tc,0,none⟩),.pointer (some ⟨ic,0,none⟩)] #[.pointer (some ⟨tc,0,none⟩),.pointer (some ⟨ic,0,none⟩)] (fun k=>decide ((T.al i k).num.sign<0)) (fun k=>T.d k / -(T.al i k)) (s+s) (h.fr.nrow (by omega)) (by omega)
   (enters_of func158 (by kernel_rfl) rfl) (enters_of func155 (by kernel_rfl) rfl) H1
   (fun W hW k hk ha=>RI W base tb tc ic V T i k s (h.keep hW) hi hk (AB htc hW) (AB hic hW) (hal k hk) (hd k hk) (fun e=>by
    have:=(BV _).1 (of_decide_eq_true ha);rw[e] at this;exact GH this) (by omega) (by omega))
   (fun k hk _=>(hd k hk).div (hal k hk).neg (by omega)) (by omega) (by omega)
def Ir(w:World) (base tb N:Nat) (V:Bh) (T:AX) (D:Tb) (r:Ending) (w':World):Prop :=
 ∃(T':AX) (D':Tb) (good:Bool),good=(!H6 T.n T.d)/\r=.returned (.int .i64 (DG (CK T')))/\Ud w w' base tb N V T T' D D'/\((∀j,j<T.n->0<=T.d j)->∀j,j<T.n->0<=T'.d j)/\Cc (CE good) T T' /\
  ((CK T'=none/\∀k,k<T.m->0<=T'.be k)∨∃i:Nat,CK T'=some i/\i<T.m/\T'.be i<0/\∀c,c<T.n->0<=T'.al i c)
theorem TS(w:World) (base tb N s:Nat) (V:Bh) (T:AX) (D:Tb) (h:BG w base tb V T) (hr:EI N T D) (hB:∀E,Wf N E->F4 N D E->Ut N E s) (hs1:2<=s) (hs2:s<=200000) :
  Calls prog 87 #[.pointer (some ⟨tb,0,none⟩)] w (Ir w base tb N V T D):=by
 have hxa:=(AK.refl (fun _=>False) w).alloc (.cells #[.pointer (some ⟨tb,0,none⟩)] 81);have HG:=bH (fun W (hW:BG W base tb V T)=>PD W base V.d T.n s T.d hW.d (hr.sz (hB D hr.wf (F4.refl N D))).2.2 (by omega) (by omega) (by have:=hW.small;omega));have b8:=AA (h.keep hxa).box 8 rfl;have HT:=bH (bI (h.keep hxa) (bI hr (bI hB hxa)));have HO:∀k,V.S T.m k->k<w.heap.size:=h.old;clear h hr hB hxa;have ht0:(w.alloc (.cells #[.pointer (some ⟨tb,0,none⟩)] 81)).cell? ⟨w.heap.size,0,none⟩=some (.pointer (some ⟨tb,0,none⟩)):=AS (AD _ _) 0;have htn:∀k,V.S T.m k->k<w.heap.size:=HO;have HTC:=bH htn;clear htn HO;go_enter func87,ntmps87;go_upto_region 1 with fail;have hwc:w.heap.size<=w.heap.size:=Nat.le_refl _;generalize w.alloc (.cells #[.pointer (some ⟨tb,0,none⟩)] 81)=w1 at *;obtain⟨tc,htc⟩:=bN w.heap.size;rw[htc] at HTC ht0 ⊢;clear hwc htc;go_wp2_with (go_at_call 149;refine (HG.o w1 HT.o.1).mono ?_;rintro r2 w2 ⟨rfl,hx2⟩);have HN:=bH (KE (m:=T.n) (f:=T.d));generalize hhn:H6 T.n T.d=hn at *;have HH:=bH hhn;clear hhn;obtain⟨B,hBp⟩:=bN (2 ^ N);have HBp:=bH hBp;clear hBp;have HS:=bH (show Ft N (!hn) T D 0 T D/\BG w2 base tb V T/\AK (V.S T.m) w w2/\(∀v l,Ad w v l->Ad w2 v l)/\w2.cell? ⟨tc,0,none⟩=some (.pointer (some ⟨tb,0,none⟩)) from
  ⟨Ft.start HT.o.2.1 (fun e=>HN.o.1 (by simpa using e)),HT.o.1.keep hx2,(HT.o.2.2.2.trans hx2).none,fun v l k=>(k.keep HT.o.2.2.2).keep hx2,AB ht0 hx2⟩)
 clear b8 ht0 hx2;go_loopg [4,5,6] B (fun gg v4 v5 v6 wr=>∃(k:Nat) (T':AX) (D':Tb),gg=B-k/\Ft N (!hn) T D k T' D'/\T'.n=T.n/\T'.m=T.m/\BG wr base tb V T'/\AK (V.S T.m) w wr/\(∀v l,Ad w v l->Ad wr v l)/\wr.cell? ⟨tc,0,none⟩=some (.pointer (some ⟨tb,0,none⟩)));case atStart=>exact⟨0,T,D,rfl,HS.o.1,rfl,rfl,HS.o.2⟩
 case round =>
  clear HS;obtain⟨k,T',D',rfl,hdu,hn',hm',htab,hext,hrds,htc⟩:=hrel;have hsm:=htab.small;have hsz:=hdu.rep.sz (HT.o.2.2.1 D' hdu.short.2.2.1 hdu.short.2.1);have HL:=bH (show Calls prog 152 #[V.ba,.func (.func 153) #[] #[.pointer (some ⟨tc,0,none⟩)],.func (.func 154) #[] #[]] wr (fun r w'=>r=.returned (.int .i64 (DG (CK T')))/\XF wr w') from FU wr V.ba T'.m T'.ba 153 154 #[.pointer (some ⟨tc,0,none⟩)] #[] (fun k=>decide ((T'.be k).num.sign<0)) (fun _=>0) 1 (htab.ba.nrow (by omega)) (by omega)
   (enters_of func153 (by kernel_rfl) rfl) (enters_of func154 (by kernel_rfl) rfl)
   (fun W hW k hk=>RR W base tb tc V T' k s (htab.keep hW) hk (AB htc hW) (hsz.2.1 k hk) (by omega))
   (fun W hW k hk _=>Kr W k) (fun _ _ _=>Sz.zero) (Nat.le_refl 1) (by decide))
  have b4:=AA htab.box 4 rfl;have HR:=bH (bI hdu (bI htab (bI hext (bI hrds hsz))));clear hdu htab hext hrds hsz;go_upto_region 3 with (go_at_call 152;refine HL.o.mono ?_;rintro r3 w3 ⟨rfl,hx3⟩);have hxa:=(AK.refl (fun _=>False) w3).alloc (.cells #[.int .i64 (DG (CK T'))] 3);have hic:(w3.alloc (.cells #[.int .i64 (DG (CK T'))] 3)).cell? ⟨w3.heap.size,0,none⟩=some (.int .i64 (DG (CK T'))):=AS (AD _ _) 0;have HR2:=bH (show Ft N (!hn) T D k T' D'/\BG (w3.alloc (.cells #[.int .i64 (DG (CK T'))] 3)) base tb V T'/\AK (V.S T.m) w (w3.alloc (.cells #[.int .i64 (DG (CK T'))] 3))/\(∀v l,Ad w v l->Ad (w3.alloc (.cells #[.int .i64 (DG (CK T'))] 3)) v l) from
   ⟨HR.o.1,(HR.o.2.1.keep hx3).keep hxa,HR.o.2.2.1.trans (hx3.trans hxa).none,fun v l k=>((HR.o.2.2.2.1 v l k).keep hx3).keep hxa⟩)
  have hszs:=HR.o.2.2.2.2;replace htc:=AB (AB htc hx3) hxa;clear HR HL hxa b4 hx3;generalize w3.alloc (.cells #[.int .i64 (DG (CK T'))] 3)=w4 at *;generalize w3.heap.size=ic at *;cases hI:CK T' with
  | none =>
   rw[hI] at hic;have hic':w4.cell? ⟨ic,0,none⟩=some (.int .i64 (-1)):=hic;clear hic;have HP:=bH (show Ir w base tb N V T D (.returned (.int .i64 (-1))) w4 from⟨T',D',!hn,by rw[HH.o],by rw[hI];rfl,⟨HR2.o.2.1,hn',hm',HR2.o.1.rep,HR2.o.1.short.2.1,HR2.o.2.2.1,HR2.o.2.2.2⟩,fun hd j hj=>HR2.o.1.costs (by rw[HN.o.2 hd];rfl) j (by omega),HR2.o.1.halt1 hI,.inl ⟨hI,fun k hk=>Er hI k (by omega)⟩⟩);go_wp2;exact bodyPost_ret (v:=.int .i64 (-1)) (by simp[results,results87,go_sem]) rfl HP.o
  | some i =>
   rw[hI] at hic;have hic':w4.cell? ⟨ic,0,none⟩=some (.int .i64 (i:Int)):=hic;clear hic;obtain⟨him,hbi⟩:=K4 hI;have i0:¬((i:Int)<0):=(by omega);have HC:=bH (QU w4 base tb tc ic s V T' i (!hn) HR2.o.2.1 him htc hic' (fun j hj=>hszs.1 i j him hj) hszs.2.2 hs1 hs2);have b5:=AA HR2.o.2.1.box 5 rfl;cases hn with
   | false =>
    go_upto_region 9 with (go_at_call 152;refine HC.o.mono ?_;rintro r5 w5 ⟨rfl,hx5⟩);have HR3:=bH (show BG w5 base tb V T'/\AK (V.S T.m) w w5/\(∀v l,Ad w v l->Ad w5 v l) from⟨HR2.o.2.1.keep hx5,HR2.o.2.2.1.trans hx5.none,fun v l k=>(HR2.o.2.2.2 v l k).keep hx5⟩);replace htc:=AB htc hx5;replace hic':=AB hic' hx5;clear b5 hx5 HC;cases hC:FQ true T' i with
    | none =>
     have HP:=bH (show Ir w base tb N V T D (.returned (.int .i64 i)) w5 from⟨T',D',true,by rw[HH.o];rfl,by rw[hI];rfl,⟨HR3.o.1,hn',hm',HR2.o.1.rep,HR2.o.1.short.2.1,HR3.o.2.1,HR3.o.2.2⟩,fun hd j hj=>HR2.o.1.costs (by first|rfl|(have:=HN.o.2 hd;simp at this)) j (by omega),HR2.o.1.halt2 hI hC,.inr ⟨i,hI,by omega,hbi,fun c hc=>IM hC c (by omega)⟩⟩);go_wp2;exact bodyPost_ret (v:=.int .i64 i) (by simp[results,results87,go_sem]) rfl HP.o
    | some c =>
     obtain⟨g1,g2,g3,g4⟩:=HR2.o.1.next hI hC;have HV:=bH (JL w5 base tb V T' i c s HR3.o.1 g1 g2 g3 hs1 hs2 hszs.1 hszs.2.1 hszs.2.2);have c0:¬((c:Int)<0):=(by omega);have hlt:=HR2.o.1.short.1;rw[HBp.o] at hlt;have HG4:=bH g4;clear g4;go_wp2_with (go_at_call 159;refine HV.o.mono ?_;rintro r6 w6 ⟨rfl,ht6,hx6,hr6⟩);go_roundg (B-(k+1));case measure=>omega
     case rel =>
      rw[hm'] at hx6;exact⟨k+1,_,_,rfl,HG4.o,hn',hm',ht6,HR3.o.2.1.trans hx6,fun v l k=>hr6 v l (HR3.o.2.2 v l k),(hx6.cell (p:=⟨tc,0,none⟩) (World.block_lt_of_cell? _ _ htc) (fun e=>by have:=HTC.o tc e;omega)).trans htc⟩
   | true =>
    go_upto_region 9 with (go_at_call 152;refine HC.o.mono ?_;rintro r5 w5 ⟨rfl,hx5⟩);have HR3:=bH (show BG w5 base tb V T'/\AK (V.S T.m) w w5/\(∀v l,Ad w v l->Ad w5 v l) from⟨HR2.o.2.1.keep hx5,HR2.o.2.2.1.trans hx5.none,fun v l k=>(HR2.o.2.2.2 v l k).keep hx5⟩);replace htc:=AB htc hx5;replace hic':=AB hic' hx5;clear b5 hx5 HC;cases hC:FQ false T' i with
    | none =>
     have HP:=bH (show Ir w base tb N V T D (.returned (.int .i64 i)) w5 from⟨T',D',false,by rw[HH.o];rfl,by rw[hI];rfl,⟨HR3.o.1,hn',hm',HR2.o.1.rep,HR2.o.1.short.2.1,HR3.o.2.1,HR3.o.2.2⟩,fun hd j hj=>HR2.o.1.costs (by first|rfl|(have:=HN.o.2 hd;simp at this)) j (by omega),HR2.o.1.halt2 hI hC,.inr ⟨i,hI,by omega,hbi,fun c hc=>IM hC c (by omega)⟩⟩);go_wp2;exact bodyPost_ret (v:=.int .i64 i) (by simp[results,results87,go_sem]) rfl HP.o
    | some c =>
     obtain⟨g1,g2,g3,g4⟩:=HR2.o.1.next hI hC;have HV:=bH (JL w5 base tb V T' i c s HR3.o.1 g1 g2 g3 hs1 hs2 hszs.1 hszs.2.1 hszs.2.2);have c0:¬((c:Int)<0):=(by omega);have hlt:=HR2.o.1.short.1;rw[HBp.o] at hlt;have HG4:=bH g4;clear g4;go_wp2_with (go_at_call 159;refine HV.o.mono ?_;rintro r6 w6 ⟨rfl,ht6,hx6,hr6⟩);go_roundg (B-(k+1));case measure=>omega
     case rel =>
      rw[hm'] at hx6;exact⟨k+1,_,_,rfl,HG4.o,hn',hm',ht6,HR3.o.2.1.trans hx6,fun v l k=>hr6 v l (HR3.o.2.2 v l k),(hx6.cell (p:=⟨tc,0,none⟩) (World.block_lt_of_cell? _ _ htc) (fun e=>by have:=HTC.o tc e;omega)).trans htc⟩
theorem Fq.rhss{N k:Nat} {D0 D:Tb} {T0 T:AX} (h:Fq N T0 D0 k T D):∀i,i<T.m->0<=T.be i:=fun i hi=>by
 have:=h.short.2.2.2 (T.ba i);rwa [h.rep.be i hi] at this
def Kj(w:World) (base tb N:Nat) (V:Bh) (T:AX) (D:Tb) (r:Ending) (w':World):Prop :=
 ∃(T':AX) (D':Tb),r=.returned (.int .i64 (DG (CF T')))/\Ud w w' base tb N V T T' D D'/\(∀k,k<T.m->0<=T'.be k)/\Cc CJ T T' /\
  ((CF T'=none/\∀k,k<T.n->0<=T'.d k)∨∃c:Nat,CF T'=some c/\c<T.n/\T'.d c<0/\∀k,k<T.m->T'.al k c<=0)
theorem O8(w:World) (base tb N s:Nat) (V:Bh) (T:AX) (D:Tb) (h:BG w base tb V T) (hr:EI N T D) (hb:∀k,k<T.m->0<=T.be k) (hB:∀E,Wf N E->F4 N D E->Ut N E s) (hs1:2<=s) (hs2:s<=200000) :
  Calls prog 93 #[.pointer (some ⟨tb,0,none⟩)] w (Kj w base tb N V T D):=by
 have hxa:=(AK.refl (fun _=>False) w).alloc (.cells #[.pointer (some ⟨tb,0,none⟩)] 81);have HT:=bH (bI (h.keep hxa) (bI hr (bI hB hxa)));have HBe:=bH hb;have HO:∀k,V.S T.m k->k<w.heap.size:=h.old;clear h hr hB hxa hb;have ht0:(w.alloc (.cells #[.pointer (some ⟨tb,0,none⟩)] 81)).cell? ⟨w.heap.size,0,none⟩=some (.pointer (some ⟨tb,0,none⟩)):=AS (AD _ _) 0;have HTC:=bH HO;clear HO;go_enter func93,ntmps93;go_wp2_with fail;generalize w.alloc (.cells #[.pointer (some ⟨tb,0,none⟩)] 81)=w2 at *;obtain⟨tc,htc⟩:=bN w.heap.size;rw[htc] at HTC ht0 ⊢;clear htc;obtain⟨B,hBp⟩:=bN (2 ^ N);have HBp:=bH hBp;clear hBp;have HS:=bH (show Fq N T D 0 T D/\BG w2 base tb V T/\AK (V.S T.m) w w2/\(∀v l,Ad w v l->Ad w2 v l)/\w2.cell? ⟨tc,0,none⟩=some (.pointer (some ⟨tb,0,none⟩)) from
  ⟨Fq.start HT.o.2.1 HBe.o,HT.o.1,HT.o.2.2.2.none,fun v l k=>k.keep HT.o.2.2.2,ht0⟩)
 clear ht0;go_loopg [3,4] B (fun gg v3 v4 wr=>∃(k:Nat) (T':AX) (D':Tb),gg=B-k/\Fq N T D k T' D'/\T'.n=T.n/\T'.m=T.m/\BG wr base tb V T'/\AK (V.S T.m) w wr/\(∀v l,Ad w v l->Ad wr v l)/\wr.cell? ⟨tc,0,none⟩=some (.pointer (some ⟨tb,0,none⟩)));case atStart=>exact⟨0,T,D,rfl,HS.o.1,rfl,rfl,HS.o.2⟩
 case round =>
  clear HS;obtain⟨k,T',D',rfl,hdu,hn',hm',htab,hext,hrds,htc⟩:=hrel;have hsm:=htab.small;have hsz:=hdu.rep.sz (HT.o.2.2.1 D' hdu.short.2.2.1 hdu.short.2.1);have HL:=bH (show Calls prog 152 #[V.fr,.func (.func 164) #[] #[.pointer (some ⟨tc,0,none⟩)],.func (.func 154) #[] #[]] wr (fun r w'=>r=.returned (.int .i64 (DG (CF T')))/\XF wr w') from FU wr V.fr T'.n T'.fr 164 154 #[.pointer (some ⟨tc,0,none⟩)] #[] (fun k=>decide ((T'.d k).num.sign<0)) (fun _=>0) 1 (htab.fr.nrow (by omega)) (by omega)
   (enters_of func164 (by kernel_rfl) rfl) (enters_of func154 (by kernel_rfl) rfl)
   (fun W hW k hk=>NT W base tb tc V T' k s (htab.keep hW) hk (AB htc hW) (hsz.2.2 k hk) (by omega))
   (fun W hW k hk _=>Kr W k) (fun _ _ _=>Sz.zero) (Nat.le_refl 1) (by decide))
  have b5:=AA htab.box 5 rfl;have HR:=bH (bI hdu (bI htab (bI hext (bI hrds hsz))));clear hdu htab hext hrds hsz;go_upto_region 2 with (go_at_call 152;refine HL.o.mono ?_;rintro r3 w3 ⟨rfl,hx3⟩);have hxa:=(AK.refl (fun _=>False) w3).alloc (.cells #[.int .i64 (DG (CF T'))] 3);have hic:(w3.alloc (.cells #[.int .i64 (DG (CF T'))] 3)).cell? ⟨w3.heap.size,0,none⟩=some (.int .i64 (DG (CF T'))):=AS (AD _ _) 0;have HR2:=bH (show Fq N T D k T' D'/\BG (w3.alloc (.cells #[.int .i64 (DG (CF T'))] 3)) base tb V T'/\AK (V.S T.m) w (w3.alloc (.cells #[.int .i64 (DG (CF T'))] 3))/\(∀v l,Ad w v l->Ad (w3.alloc (.cells #[.int .i64 (DG (CF T'))] 3)) v l) from
   ⟨HR.o.1,(HR.o.2.1.keep hx3).keep hxa,HR.o.2.2.1.trans (hx3.trans hxa).none,fun v l k=>((HR.o.2.2.2.1 v l k).keep hx3).keep hxa⟩)
  have hszs:=HR.o.2.2.2.2;replace htc:=AB (AB htc hx3) hxa;clear HR HL hxa b5 hx3;generalize w3.alloc (.cells #[.int .i64 (DG (CF T'))] 3)=w4 at *;generalize w3.heap.size=ic at *;cases hI:CF T' with
  | none =>
   rw[hI] at hic;have hic':w4.cell? ⟨ic,0,none⟩=some (.int .i64 (-1)):=hic;clear hic;have HP:=bH (show Kj w base tb N V T D (.returned (.int .i64 (-1))) w4 from⟨T',D',by rw[hI];rfl,⟨HR2.o.2.1,hn',hm',HR2.o.1.rep,HR2.o.1.short.2.1,HR2.o.2.2.1,HR2.o.2.2.2⟩,fun j hj=>HR2.o.1.rhss j (by omega),HR2.o.1.halt1 hI,.inl ⟨hI,fun k hk=>LH hI k (by omega)⟩⟩);go_wp2;exact bodyPost_ret (v:=.int .i64 (-1)) (by simp[results,results93,go_sem]) rfl HP.o
  | some c =>
   rw[hI] at hic;have hic':w4.cell? ⟨ic,0,none⟩=some (.int .i64 (c:Int)):=hic;clear hic;obtain⟨hcn,hdc⟩:=LV hI;have i0:¬((c:Int)<0):=(by omega);have HC:=bH (show Calls prog 152 #[V.ba,.func (.func 165) #[] #[.pointer (some ⟨tc,0,none⟩),.pointer (some ⟨ic,0,none⟩)],.func (.func 166) #[] #[.pointer (some ⟨tc,0,none⟩),.pointer (some ⟨ic,0,none⟩)]] w4 (fun r w'=>r=.returned (.int .i64 (DG (GB T' c)))/\XF w4 w') from
    FU w4 V.ba T'.m T'.ba 165 166 #[.pointer (some ⟨tc,0,none⟩),.pointer (some ⟨ic,0,none⟩)] #[.pointer (some ⟨tc,0,none⟩),.pointer (some ⟨ic,0,none⟩)] (fun k=>decide (0<(T'.al k c).num.sign)) (fun k=>T'.be k/T'.al k c) (s+s) (HR2.o.2.1.ba.nrow (by omega)) (by omega)
    (enters_of func165 (by kernel_rfl) rfl) (enters_of func166 (by kernel_rfl) rfl)
    (fun W hW k hk=>Nn W base tb tc ic V T' k c s (HR2.o.2.1.keep hW) hk hcn (AB htc hW) (AB hic' hW) (hszs.1 k c hk hcn) (by omega))
    (fun W hW k hk ha=>OZ W base tb tc ic V T' k c s (HR2.o.2.1.keep hW) hk hcn (AB htc hW) (AB hic' hW) (hszs.1 k c hk hcn) (hszs.2.1 k hk) (fun e=>by
     have:=(Ea _).1 (of_decide_eq_true ha);rw[e] at this;exact GH this) (by omega) (by omega))
    (fun k hk _=>(hszs.2.1 k hk).div (hszs.1 k c hk hcn) (by omega)) (by omega) (by omega))
   have b4:=AA HR2.o.2.1.box 4 rfl;go_upto_region 5 with (go_at_call 152;refine HC.o.mono ?_;rintro r5 w5 ⟨rfl,hx5⟩);have HR3:=bH (show BG w5 base tb V T'/\AK (V.S T.m) w w5/\(∀v l,Ad w v l->Ad w5 v l) from⟨HR2.o.2.1.keep hx5,HR2.o.2.2.1.trans hx5.none,fun v l k=>(HR2.o.2.2.2 v l k).keep hx5⟩);replace htc:=AB htc hx5;replace hic':=AB hic' hx5;clear b4 hx5 HC;cases hC:GB T' c with
   | none =>
    have HP:=bH (show Kj w base tb N V T D (.returned (.int .i64 c)) w5 from⟨T',D',by rw[hI];rfl,⟨HR3.o.1,hn',hm',HR2.o.1.rep,HR2.o.1.short.2.1,HR3.o.2.1,HR3.o.2.2⟩,fun j hj=>HR2.o.1.rhss j (by omega),HR2.o.1.halt2 hI hC,.inr ⟨c,hI,by omega,hdc,fun k hk=>KJ hC k (by omega)⟩⟩);go_wp2;exact bodyPost_ret (v:=.int .i64 c) (by simp[results,results93,go_sem]) rfl HP.o
   | some i =>
    obtain⟨g1,g2,g3,g4⟩:=HR2.o.1.next hI hC;have HV:=bH (JL w5 base tb V T' i c s HR3.o.1 g1 g2 g3 hs1 hs2 hszs.1 hszs.2.1 hszs.2.2);have c0:¬((i:Int)<0):=(by omega);have hlt:=HR2.o.1.short.1;rw[HBp.o] at hlt;have HG4:=bH g4;clear g4;go_wp2_with (go_at_call 159;refine HV.o.mono ?_;rintro r6 w6 ⟨rfl,ht6,hx6,hr6⟩);go_roundg (B-(k+1));case measure=>omega
    case rel =>
     rw[hm'] at hx6;exact⟨k+1,_,_,rfl,HG4.o,hn',hm',ht6,HR3.o.2.1.trans hx6,fun v l k=>hr6 v l (HR3.o.2.2 v l k),(hx6.cell (p:=⟨tc,0,none⟩) (World.block_lt_of_cell? _ _ htc) (fun e=>by have:=HTC.o tc e;omega)).trans htc⟩
structure Dw where
 T:AX
 us:List AZ
 b:Bool
def Ch(p:AH) (z:List Rat) (dir:Bool) (st:Dw) (l:AZ):Dw:=if !FT st.us l&&decide ((BM p l z dir).num.sign<0) then ⟨JG p st.T st.us l,st.us++[l],true⟩ else st
def Av(p:AH) (z:List Rat) (dir:Bool) (ls:List AZ) (st:Dw):Dw:=ls.foldl (Ch p z dir) st
structure Dx(p:AH) (ls:List AZ) (T:AX) (us:List AZ):Prop where
 rep:∃D,EI (p.vars.length+us.length) T D/\F4 (p.vars.length+us.length) (Cb p us) D
 nd:us.Nodup
 sub:∀l∈us,l∈ls
def DA(p:AH) (ls:List AZ) (s:Nat):Prop:=∀us:List AZ,us.length<=ls.length->EY p us->∀D,Wf (p.vars.length+us.length) D->F4 (p.vars.length+us.length) (Cb p us) D->Ut (p.vars.length+us.length) D s
section
variable {p:AH} {ls us:List AZ} {T:AX} {l:AZ} {s:Nat} {z:List Rat} {dir:Bool}
theorem Qo{us ls:List AZ} (hn:us.Nodup) (hs:∀l∈us,l∈ls):us.length<=ls.length:=by
 refine Classical.byContradiction fun hlt=>?_;have hlt:ls.length<us.length:=by omega
 have hidx:∀i,∃j,i<us.length->j<ls.length/\ls[j]?=us[i]?:=fun i=>by
  by_cases hi:i<us.length
  ·obtain⟨j,hj,e⟩:=List.getElem_of_mem (hs _ (List.getElem_mem hi));exact⟨j,fun _=>⟨hj,by rw[List.getElem?_eq_getElem hj,List.getElem?_eq_getElem hi,e]⟩⟩
  exact⟨0,fun h=>absurd h hi⟩
 obtain⟨i,j,hij,hj,e⟩:=VO ls.length (fun i=>Classical.choose (hidx i)) (fun i hi=>((Classical.choose_spec (hidx i)) (by omega)).1);have h1:=(Classical.choose_spec (hidx i) (by omega)).2;have h2:=(Classical.choose_spec (hidx j) (by omega)).2;have e:Classical.choose (hidx i)=Classical.choose (hidx j):=e;rw[e] at h1;have h3:us[i]?=us[j]?:=h1.symm.trans h2;rw[List.getElem?_eq_getElem (by omega),List.getElem?_eq_getElem (by omega)] at h3;exact (List.pairwise_iff_getElem.1 hn) i j (by omega) (by omega) hij (Option.some.inj h3)
theorem Dx.len(h:Dx p ls T us):us.length<=ls.length:=Qo h.nd h.sub
theorem Dx.use(h:Dx p ls T us) (hv:AU p=true) (hl:BF p l) (hin:l∈ls) (hnew:FT us l=false):Dx p ls (JG p T us l) (us++[l]):=by
 obtain⟨D,hr,he⟩:=h.rep;have hlen:(us++[l]).length=us.length+1:=by simp
 have hni:l∉us:=fun hm=>by rw[LT.2 hm] at hnew;cases hnew
 refine⟨⟨FO (p.vars.length+us.length) D (Cp p l) (Fi p l),?_,?_⟩,?_,fun x hx=>?_⟩
 ·rw[hlen];exact hr.use hv hl
 ·rw[hlen];exact (Ss hv us hl).trans (he.use (F5 p us) hr.wf _ _)
 ·rw[List.nodup_append];exact⟨h.nd,by simp,fun a ha b hb e=>by simp at hb;rw[hb] at e;rw[e] at ha;exact hni ha⟩
 rcases List.mem_append.1 hx with hx|hx
 ·exact h.sub x hx
 simp at hx;rw[hx];exact hin
theorem Dx.sz(h:Dx p ls T us) (hok:EY p us) (hB:DA p ls s):(∀k j,k<T.m->j<T.n->Sz (T.al k j) s)/\(∀k,k<T.m->Sz (T.be k) s)/\∀j,j<T.n->Sz (T.d j) s:=by
 obtain⟨D,hr,he⟩:=h.rep;exact hr.sz (hB us h.len hok D hr.wf he)
theorem Dx.idx(h:Dx p ls T us):∀v,v<p.vars.length->Cj T.fr v T.n=none->∃r,Cj T.ba v T.m=some r:=fun v hv hn=>by
 obtain⟨D,hr,_⟩:=h.rep;exact hr.idx (by omega) hn
theorem Ol(i:Nat) (hi:i<ls.length) (st:Dw):Av p z dir (ls.take (i+1)) st=Ch p z dir (Av p z dir (ls.take i) st) (ls.getD i BB):=by
 unfold Av;rw[List.take_add_one,List.foldl_append,List.getElem?_eq_getElem hi,List.getD_eq_getElem?_getD,List.getElem?_eq_getElem hi];rfl
theorem ID:∀(ls:List AZ) (st:Dw),(∃add,(Av p z dir ls st).us=st.us++add/\((Av p z dir ls st).b=true↔st.b=true∨add≠[])) /\
  ((Av p z dir ls st).us=st.us->(Av p z dir ls st).T=st.T/\∀l∈ls,l∉st.us->0<=BM p l z dir)
 | [],st=>⟨⟨[],by simp[Av],by simp[Av]⟩,fun _=>⟨rfl,fun l hl=>by cases hl⟩⟩
 | l::ls,st=>by
  have hun:Av p z dir (l::ls) st=Av p z dir ls (Ch p z dir st l):=rfl
  obtain⟨⟨add,h1,h2⟩,h3⟩:=ID ls (Ch p z dir st l)
  rw[hun]
  by_cases hc:(!FT st.us l&&decide ((BM p l z dir).num.sign<0))=true
  ·have Aa:Ch p z dir st l=⟨JG p st.T st.us l,st.us++[l],true⟩:=if_pos hc
   rw[Aa] at h1 h2 h3 ⊢
   refine⟨⟨l::add,by rw[h1];simp,by rw[h2];simp⟩,fun he=>?_⟩
   rw[h1] at he
   have:=congrArg List.length he
   simp at this
  ·have Aa:Ch p z dir st l=st:=if_neg hc
   rw[Aa] at h1 h2 h3 ⊢
   refine⟨⟨add,h1,h2⟩,fun he=>⟨(h3 he).1,fun x hx hn=>?_⟩⟩
   rcases List.mem_cons.1 hx with rfl|hx
   ·refine Rat.not_lt.1 fun hlt=>hc ?_
    have hm:FT st.us x=false:=by
     cases hm:FT st.us x with
     | false=>rfl
     | true=>exact absurd (LT.1 hm) hn
    rw[hm,decide_eq_true ((BV _).2 hlt)];rfl
   ·exact (h3 he).2 x hx hn
theorem NM(h:(Av p z dir ls ⟨T,us,false⟩).b=false):(Av p z dir ls ⟨T,us,false⟩).T=T/\(Av p z dir ls ⟨T,us,false⟩).us=us/\∀l∈ls,l∉us->0<=BM p l z dir:=by
 obtain⟨⟨add,h1,h2⟩,h3⟩:=ID (p:=p) (z:=z) (dir:=dir) ls ⟨T,us,false⟩;have ha:add=[]:=Classical.byContradiction fun hne=>by
  have:=h2.2 (.inr hne);rw[h] at this;cases this
 rw[ha,List.append_nil] at h1;exact⟨(h3 h1).1,h1,(h3 h1).2⟩
theorem Sg(h:(Av p z dir ls ⟨T,us,false⟩).b=true):us.length<(Av p z dir ls ⟨T,us,false⟩).us.length:=by
 obtain⟨⟨add,h1,h2⟩,h3⟩:=ID (p:=p) (z:=z) (dir:=dir) ls ⟨T,us,false⟩;have ha:add≠[]:=(h2.1 h).resolve_left (by simp);rw[h1,List.length_append];have:=List.length_pos_iff.2 ha;show us.length<us.length+_;omega
end
theorem Nc{p:AH} {l:AZ} (hv:AU p=true) (hl:BF p l) (i:Nat) (hi:i<(AV p l).length):EX ((AV p l).getD i AW).coef:=by
 have h1:=S0 hv hl i hi;unfold Uc A6 at h1;constructor
 ·split at h1
  ·omega
  split at h1<;>omega
 split at h1
 ·omega
 split at h1<;>omega
theorem Re{p:AH} {l:AZ} (hv:AU p=true) (hl:BF p l):Sz (Cs p l) ((AV p l).length*5+6):=by
 have hcase:l.row<0/\l.var<p.vars.length∨¬l.row<0/\l.row.toNat<p.rows.length:=by
  rcases hl with⟨g1,g2,_⟩|⟨g1,g2,_⟩
  ·exact .inl ⟨by omega,g2⟩
  exact .inr ⟨by omega,g2⟩
 unfold Cs;rcases hcase with⟨g1,g2⟩|⟨g1,g2⟩
 ·obtain⟨⟨q1,q2⟩,⟨q3,q4⟩,-⟩:=Dv (CZ hv g2);rw[if_pos g1];exact (Sz.int ⟨by omega,by omega⟩).mono (by omega)
 have hb:=BR hv g2;unfold Cx at hb;simp only[Bool.and_eq_true] at hb;have hb2:=IX hb.1.1.2;rw[if_neg g1];have hs:Sz (KZ p (AV p l)) (1+(AV p l).length*(2+3)):=Dl (f:=fun k=>((AV p l).getD k AW).coef) (g:=fun k=>((p.v ((AV p l).getD k AW).var.toNat).lo:Rat)) (n:=(AV p l).length) (fun k hk=>Nc hv hl k hk) (fun k hk=>by
  obtain⟨h0,h1⟩:=hl.terms hv k hk;obtain⟨⟨q1,q2⟩,-⟩:=Dv (CZ hv (show ((AV p l).getD k AW).var.toNat<p.vars.length by omega));exact Sz.int ⟨by omega,by omega⟩) _ (Nat.le_refl _)
 exact ((Sz.int (k:=(p.r l.row.toNat).bound) ⟨by omega,by omega⟩).sub hs).mono (by omega)
theorem QO{p:AH} {l:AZ} {z:List Rat} {L:Nat} {dir:Bool} (hv:AU p=true) (hl:BF p l) (h2:2<=L) (hz:∀i:Int,Sz (Am z i) L) (hL:(AV p l).length*(L+8)+L+20<=2000000):Sz (BM p l z dir) 4000000:=by
 have hb:Sz (if dir then 0 else Cs p l) ((AV p l).length*5+6):=by
  cases dir with
  | true=>exact Sz.zero.mono (by omega)
  | false=>exact Re hv hl
 have hsg:Sz (A6 l:Rat) 2:=by
  unfold A6;split
  ·exact Sz.int ⟨by omega,by omega⟩
  split
  ·exact Sz.int ⟨by omega,by omega⟩
  exact Sz.int ⟨by omega,by omega⟩
 have h1:=Nat.mul_add (AV p l).length L 8;have h3:=Nat.mul_add (AV p l).length L 3;unfold BM;exact ((hb.sub (Pi (Nc hv hl) hz)).mul hsg).mono (by omega)
structure FJ(w0 w w':World) (tb:Nat) (V V':Bh) (T:AX) (p:AH) (ls:List AZ) (R:Dw):Prop where
 tab:Di w0 w' tb V' R.T p R.us ls
 good:Dx p ls R.T R.us
 ext:AK (V.Big tb T.m) w w'
 rds:∀u d,Ad w u d->Ad w' u d
 lies:∀k,V'.Big tb R.T.m k->V.Big tb T.m k∨w.heap.size<=k
 l:V'.l=V.l
theorem FJ.keep{w0 w w' w'':World} {tb:Nat} {V V':Bh} {T:AX} {p:AH} {ls:List AZ} {R:Dw} (h:FJ w0 w w' tb V V' T p ls R) (hx:XF w' w''):FJ w0 w w'' tb V V' T p ls R :=
 ⟨h.tab.keep hx,h.good,h.ext.trans hx.none,fun u d k=>(h.rds u d k).keep hx,h.lies,h.l⟩
theorem FJ.use{w0 w w' w'':World} {tb:Nat} {V V' V'':Bh} {T:AX} {p:AH} {ls:List AZ} {R:Dw} {l:AZ} (h:FJ w0 w w' tb V V' T p ls R) (hl:BF p l) (hin:l∈ls) (hnew:FT R.us l=false) (h1:Di w0 w'' tb V'' (JG p R.T R.us l) p (R.us++[l]) ls) (h2:AK (V'.Big tb R.T.m) w' w'') (h3:∀u d,Ad w' u d->Ad w'' u d) (h4:∀k,V''.Big tb (R.T.m+1) k->V'.Big tb R.T.m k∨w'.heap.size<=k) (h5:V''.l=V'.l) :
  FJ w0 w w'' tb V V'' T p ls ⟨JG p R.T R.us l,R.us++[l],true⟩:=by
 refine⟨h1,h.good.use h.tab.valid hl hin hnew,h.ext.trans' h2 (fun k hk e=>?_),fun u d k=>h3 _ _ (h.rds u d k),fun k hk=>?_,h5.trans h.l⟩
 ·rcases h.lies k e with e2|e2
  ·exact e2
  omega
 rcases h4 k hk with e|e
 ·exact h.lies k e
 exact .inr (Nat.le_trans h.ext.size e)
theorem TA(w0 w:World) (tb s zb:Nat) (V:Bh) (T:AX) (p:AH) (us ls:List AZ) (f:Nat->Rat) (dir:Bool) (h:Di w0 w tb V T p us ls) (hg:Dx p ls T us) (hB:DA p ls s) (hz:BT w zb p.vars.length f) (hzn:¬V.Big tb T.m zb) (hfz:∀i,i<p.vars.length->Sz (f i) s) (h2s:2<=s) (hs:s<=200000)
  (hok:∀l∈ls,BF p l) (hls:ls.length<1000) (hT:∀l∈ls,(AV p l).length*(s+8)+s+20<=2000000) :
  Calls prog 91 #[.pointer (some ⟨tb,0,none⟩),.slice (some ⟨zb,0,none⟩) p.vars.length p.vars.length,.bool dir] w (fun r w'=>∃V',r=.returned (.bool (Av p (AP p.vars.length f) dir ls ⟨T,us,false⟩).b)/\FJ w0 w w' tb V V' T p ls (Av p (AP p.vars.length f) dir ls ⟨T,us,false⟩)):=by
 have hsn:=h.small.1;have hnn:=h.hn;have hzl:zb<w.heap.size:=hz.lt;have HL:=bH (bI h.rest.l (bI hok hT));have hbox:=h.box;obtain⟨lo,lc,hlv⟩:=h.rest.l.shape;rw[hlv] at hbox;have c9:=AA hbox 9 rfl;have HLv:=bH hlv;have HZ:=bH (bI hz (bI hzn (bI hfz (show p.vars.length<=maxLen by unfold maxLen;omega))));have HB:=bH hB;have HSt:=bH (show FJ w0 w w tb V V T p ls ⟨T,us,false⟩ from⟨h,hg,AK.refl _ _,fun _ _ k=>k,fun k hk=>.inl hk,rfl⟩);obtain⟨zl,hzl'⟩:=bN (AP p.vars.length f);have HZl:=bH hzl';rw[hzl'];clear h hg hB hz hzn hfz hok hT hbox hlv hzl' hnn;go_enter func91,ntmps91;go_wp2_with fail;go_loopg [15,7,9] ls.length (fun gg v15 v7 v9 wr=>∃(i:Nat) (V':Bh),i<=ls.length/\gg=ls.length-i/\v15=.int .i64 i/\v7=.bool (Av p zl dir (ls.take i) ⟨T,us,false⟩).b/\FJ w0 w wr tb V V' T p ls (Av p zl dir (ls.take i) ⟨T,us,false⟩));case atStart=>exact⟨0,V,Nat.zero_le _,rfl,rfl,rfl,HSt.o⟩
 case round =>
  clear HSt;obtain⟨i,V',hi,rfl,rfl,rfl,hm⟩:=hrel;have HM:=bH hm;clear hm;by_cases hin:i<ls.length
  ·have i0:(i:Int)<(ls.length:Int):=(by omega);have i1:(0:Int)<=(i:Int):=(by omega);have hnx:=Ol (p:=p) (z:=zl) (dir:=dir) i hin ⟨T,us,false⟩;have hlm:ls.getD i BB∈ls:=(by rw[BZ hin];exact List.getElem_mem hin);obtain⟨lg,lcap,hlv',e0,e1,e2⟩:=HM.o.tab.rest.l.at hin;have hlv2:=HLv.o;rw[HM.o.l,hlv2] at hlv';cases hlv';have hlok:=HL.o.2.1 _ hlm;have hlT:=HL.o.2.2 _ hlm;generalize ls.getD i BB=l at *;obtain⟨row,var,tur⟩:=l;have HNx:=bH hnx;have HLi:=bH (bI hlok (bI hlT hlm));clear hnx hlok hlT hlm hlv2;have hxa:=(AK.refl (fun _=>False) wr).alloc (.cells #[.int .i64 row,.int .i64 var,.bool tur] 124);have hb1:=AD wr (.cells #[.int .i64 row,.int .i64 var,.bool tur] 124);have HM5:=bH (HM.o.keep hxa);have l0:=AA hb1 0 rfl;have l1:=AA hb1 1 rfl;have l2:=AA hb1 2 rfl;clear hxa HM;go_upto_region 5 with fail;generalize wr.alloc (.cells #[.int .i64 row,.int .i64 var,.bool tur] 124)=w5 at *;generalize wr.heap.size=lb at *;clear e0 e1 e2 hb1;obtain⟨R,hR⟩:=bN (Av p zl dir (ls.take i) ⟨T,us,false⟩);rw[hR] at HM5 HNx ⊢;clear hR;obtain⟨mb,es,clock,hmp,hmb,hmk,hlmap,Aa⟩:=HM5.o.tab.rest.mp;have hbox:=HM5.o.tab.box;rw[hmp] at hbox;have c3:=cq (AA hbox 3 rfl);have hlk:(Instr.lookup 119 (.map (some mb)) (.agg #[.int .i64 row,.int .i64 var,.bool tur]) false).run prog w5.drew=.ok (.bool (FT R.us ⟨row,var,tur⟩)) w5.drew:=Kn (w:=w5.drew) hmk hlmap ⟨row,var,tur⟩;clear hbox hmp hmb hmk hlmap Aa;have l0':=l0;have l1':=l1;have l2':=l2;replace l0:=cq l0;replace l1:=cq l1;replace l2:=cq l2;obtain⟨mm,hmm⟩:=bN (FT R.us ⟨row,var,tur⟩);have HMm:=bH hmm;rw[hmm] at hlk;clear hmm;cases mm with
   | true =>
    have HNs:=bH (show Av p zl dir (ls.take (i+1)) ⟨T,us,false⟩=R from by
     rw[HNx.o];unfold Ch;rw[HMm.o];exact if_neg (by simp))
    refine wp_region_held_drew (S:=(XF w5)) (by kernel_rfl) ((AK.refl _ w5).drew) (fun hHeld=>?_);refine ht 0 (h:=(ht 1 (h:=(ht 2 (h:=(ht 3 (h:=(ht 4 (h:=?_)))))))));(try go_frame);refine Aa 5 (h:=fun K hK=>?_);go_simp;refine hK.o _ _ (hHeld) (fun hHeld=>?_);clear hK K;(try go_frame);refine ht 6 (h:=(ht 7 (h:=?_)));(try go_frame);refine hk 8 (h:=?_);(try go_frame);refine hk 9 (h:=?_);(try go_frame);refine hk 10 (h:=?_);(try go_frame);refine hk 11 (h:=?_);(try go_frame);refine hk 12 (h:=?_);(try go_frame);refine hk 13 (h:=?_);(try go_frame);refine hk 14 (h:=(ht 15 (h:=?_)));(try go_frame);refine wpAnyH_done (by kernel_rfl) ?_ _;have HP:=bH (HM5.o.keep hHeld);clear HM5 l0 l1 l2 hlk c3 hHeld;go_wp2;go_roundg (ls.length-(i+1));case measure=>omega
    case rel=>exact⟨i+1,V',by omega,rfl,by go_num,by rw[HNs.o],by rw[HNs.o];exact HP.o⟩
   | false =>
    have hzr:BT w5 zb p.vars.length f:=HZ.o.1.past HM5.o.ext HZ.o.2.1 HM5.o.rds;have HSl:=bH (fun W (hW:XF w5 W)=>show Calls prog 162 #[.pointer (some ⟨tb,0,none⟩),.agg #[.int .i64 row,.int .i64 var,.bool tur],.slice (some ⟨zb,0,none⟩) p.vars.length p.vars.length,.bool dir] W (Aw W (BM p ⟨row,var,tur⟩ zl dir)) from by
     have:=Jr W tb p ⟨row,var,tur⟩ (some ⟨zb,0,none⟩) p.vars.length p.vars.length (AP p.vars.length f) s dir (HM5.o.tab.prg.keep hW) HLi.o.1 ((hzr.keep hW).rats HZ.o.2.2.1 (Nat.le_refl _) HZ.o.2.2.2) h2s HLi.o.2.1;rw[HZl.o] at this;exact this)
    clear hzr;have hsz:Sz (BM p ⟨row,var,tur⟩ zl dir) 4000000:=by
     rw[<- HZl.o];exact QO HM5.o.tab.valid HLi.o.1 h2s (Da HZ.o.2.2.1 (by omega)) HLi.o.2.1
    have HSg:=bH (fun W u (hu:AN W u (BM p ⟨row,var,tur⟩ zl dir))=>Bt W u _ 4000000 (hu.reads hsz) (by omega));clear hsz;obtain⟨sg,hsg⟩:=bN ((BM p ⟨row,var,tur⟩ zl dir).num.sign);have HSn:=bH hsg;rw[hsg] at HSg;clear hsg;refine wp_region_held_drew (S:=(XF w5)) (by kernel_rfl) ((AK.refl _ w5).drew) (fun hHeld=>?_);refine ht 0 (h:=(ht 1 (h:=(ht 2 (h:=(ht 3 (h:=(ht 4 (h:=?_)))))))));(try go_frame);refine Aa 5 (h:=fun K hK=>?_);go_simp;refine hK.o _ _ (hHeld) (fun hHeld=>?_);clear hK K;(try go_frame);refine ht 6 (h:=(ht 7 (h:=?_)));(try go_frame);refine ht 8 (h:=?_);(try go_frame);refine ht 9 (h:=?_);(try go_frame);refine ht 10 (h:=?_);(try go_frame);refine ht 11 (h:=?_);(try go_frame);refine Aa 12 (h:=fun K hK=>?_);(go_simp;go_at_call 162;(with_reducible refine (HSl.o _ hHeld).mono ?_);rintro q1 w11 ⟨v11,rfl,h11,hx11⟩;have hX1:=hHeld.trans hx11;have hT:=HSg.o _ _ h11;obtain⟨n11,a11,l11,c11,a11',l11',c11',rfl⟩:=h11.shape);refine hK.o _ _ (hX1) (fun hHeld=>?_);clear hK K;(try go_frame);refine Aa 13 (h:=fun K hK=>?_);(go_simp;go_at_call 151;(with_reducible refine hT.mono ?_);rintro q2 w12 ⟨rfl,hx12⟩;have hX2:=hX1.trans hx12);refine hK.o _ _ (hX2) (fun hHeld=>?_);clear hK K;(try go_frame);refine ht 14 (h:=(ht 15 (h:=?_)));(try go_frame);refine wpAnyH_done (by kernel_rfl) ?_ _;have HM6:=bH (HM5.o.keep hX2);replace l0:=l0 _ hX2;replace l1:=l1 _ hX2;replace l2:=l2 _ hX2;clear hlk c3 HSl HSg hX1 hx11 h11 hx12 hHeld l0' l1' l2';by_cases hneg:sg<0
    ·have HNs:=bH (show Av p zl dir (ls.take (i+1)) ⟨T,us,false⟩=⟨JG p R.T R.us ⟨row,var,tur⟩,R.us++[⟨row,var,tur⟩],true⟩ from by
      rw[HNx.o];unfold Ch;rw[HMm.o,HSn.o,decide_eq_true hneg];rfl)
     obtain⟨z1,z2,-⟩:=HM6.o.good.sz HM6.o.tab.oks HB.o;have hlen:=HM6.o.good.len;have HU:=bH (Tc w0 w12 tb s V' R.T p R.us ls ⟨row,var,tur⟩ HM6.o.tab HLi.o.1 HMm.o z1 z2 h2s hs HLi.o.2.1 HM6.o.good.idx (by rw[HM6.o.tab.hm];omega));clear z1 z2 hlen;go_wp2_with (go_at_call 163;refine HU.o.mono ?_;rintro r7 w7 ⟨V7,rfl,ht7,hx7,hr7,hlies7,hl7⟩);have HP:=bH (HM6.o.use HLi.o.1 HLi.o.2.2 HMm.o ht7 hx7 hr7 hlies7 hl7);clear HM6 HM5 HU ht7 hx7 hr7 hlies7 hl7;go_roundg (ls.length-(i+1));case measure=>omega
     case rel=>exact⟨i+1,V7,by omega,rfl,by go_num,by rw[HNs.o],by rw[HNs.o];exact HP.o⟩
    have HNs:=bH (show Av p zl dir (ls.take (i+1)) ⟨T,us,false⟩=R from by
     rw[HNx.o];unfold Ch;rw[HSn.o,decide_eq_false hneg];exact if_neg (by simp))
    clear HM5;go_wp2;go_roundg (ls.length-(i+1));case measure=>omega
    case rel=>exact⟨i+1,V',by omega,rfl,by go_num,by rw[HNs.o],by rw[HNs.o];exact HM6.o⟩
  obtain rfl:i=ls.length:=(by omega);rw[List.take_length] at HM ⊢;go_wp2;exact bodyPost_ret (v:=.bool (Av p zl dir ls ⟨T,us,false⟩).b) (by simp[results,results91,go_sem]) rfl ⟨V',rfl,HM.o⟩
def Ca(p:AH) (T:AX):List Rat:=AP p.vars.length (BS T.ba T.be T.m)
def Iy(p:AH) (T:AX) (c:Nat):List Rat:=AP p.vars.length (FE T c T.m)
def UM(p:AH) (T:AX):List Rat:=AP p.vars.length fun i=>BS T.ba T.be T.m i+((p.v i).lo:Rat)
def Kq(T:AX) (i k:Nat):Nat:=if k=T.n then T.ba i else T.fr k
def Jw(T:AX) (i k:Nat):Rat:=if k=T.n then 1 else T.al i k
def NB(p:AH) (us:List AZ) (T:AX) (i:Nat):Co:=⟨1,0,[],AP p.rows.length (Cv p us (Kq T i) (Jw T i) (T.n+1)),[]⟩
def Ko(p:AH) (us:List AZ) (T:AX):Co:=⟨0,Al p (UM p T),UM p T,AP p.rows.length (Cv p us T.fr T.d T.n),[]⟩
def Kx(p:AH) (T:AX) (c:Nat):Co:=⟨2,0,UM p T,[],Iy p T c⟩
def Dj(T:AX):Bool:=!H6 T.n T.d
inductive CM (p:AH) (ls:List AZ):AX->List AZ->Co->Prop
 | inf {T T1:AX} {us:List AZ} {i:Nat}:Cc (CE (Dj T)) T T1->CK T1=some i->CM p ls T us (NB p us T1 i)
 | go1 {T T1:AX} {us:List AZ} {R:Dw} {o:Co}:Cc (CE (Dj T)) T T1->CK T1=none->R=Av p (Ca p T1) false ls ⟨T1,us,false⟩->R.b=true->CM p ls R.T R.us o->CM p ls T us o
 | go2 {T T1 T2:AX} {us:List AZ} {R:Dw} {o:Co}:Cc (CE (Dj T)) T T1->CK T1=none->(Av p (Ca p T1) false ls ⟨T1,us,false⟩).b=false->Cc CJ T1 T2->R=Av p (Ca p T2) false ls ⟨T2,us,false⟩->R.b=true->CM p ls R.T R.us o->CM p ls T us o
 | opt {T T1 T2:AX} {us:List AZ}:Cc (CE (Dj T)) T T1->CK T1=none->(Av p (Ca p T1) false ls ⟨T1,us,false⟩).b=false->Cc CJ T1 T2->(Av p (Ca p T2) false ls ⟨T2,us,false⟩).b=false->CF T2=none->CM p ls T us (Ko p us T2)
 | go3 {T T1 T2:AX} {us:List AZ} {R:Dw} {o:Co} {c:Nat}:Cc (CE (Dj T)) T T1->CK T1=none->(Av p (Ca p T1) false ls ⟨T1,us,false⟩).b=false->Cc CJ T1 T2->(Av p (Ca p T2) false ls ⟨T2,us,false⟩).b=false->CF T2=some c->R=Av p (Iy p T2 c) true ls ⟨T2,us,false⟩->R.b=true->CM p ls R.T R.us o->CM p ls T us o
 | unb {T T1 T2:AX} {us:List AZ} {c:Nat}:Cc (CE (Dj T)) T T1->CK T1=none->(Av p (Ca p T1) false ls ⟨T1,us,false⟩).b=false->Cc CJ T1 T2->(Av p (Ca p T2) false ls ⟨T2,us,false⟩).b=false->CF T2=some c->(Av p (Iy p T2 c) true ls ⟨T2,us,false⟩).b=false->CM p ls T us (Kx p T2 c)
end Go.Proofs.YtglepbhkilbbcaaGreat
