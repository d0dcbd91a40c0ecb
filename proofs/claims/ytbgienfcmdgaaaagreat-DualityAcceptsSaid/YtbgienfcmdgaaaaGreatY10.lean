/-
  Texts of the proof, part 10. Conditions: each lemma names its own.
-/
import Derived.Test.YtbgienfcmdgaaaaGreatY6
import Derived.Test.YtbgienfcmdgaaaaGreatY7
import Derived.Test.YtbgienfcmdgaaaaGreatY8
import Derived.Test.YtbgienfcmdgaaaaGreatY9
import Derived.Maps.RangeWalk
set_option linter.unusedVariables false
set_option linter.unusedSimpArgs false
set_option maxRecDepth 100000
set_option maxHeartbeats 16000000
namespace Go.Proofs.YtbgienfcmdgaaaaGreat
open Go.RowKit Go.MapKept
open Go.ChangeMaps (setBlock)
theorem pivot_any (w:World) (base tb:Nat) (V:TabV) (T:TabF) (i c s:Nat) (h:TabAt w base tb V T) (hi:i<T.m) (hc:c<T.n) (hnz:T.al i c≠0) (hs1:2<=s) (hs2:s<=200000)
  (hal:∀ k j,k<T.m->j<T.n->Sz (T.al k j) s) (hbe:∀ k,k<T.m->Sz (T.be k) s) (hd:∀ j,j<T.n->Sz (T.d j) s) :
  Calls Tryz.prog 178 #[.pointer (some ⟨tb,0,none⟩),.int .i64 i,.int .i64 c] w (fun r w'=>r=.returned (.tuple #[])/\TabAt w' base tb V (pivF T i c)/\Ext (V.S T.m) w w'/\∀ v l,Rds w v l->Rds w' v l):=by
 obtain ⟨gal,cal,hval,hal1,hal2,hcal⟩:=h.al.open (by omega)
 obtain ⟨gbe,cbe,hvbe,hbe1,hbe2,-⟩:=h.be.open (by omega)
 obtain ⟨gd,cd,hvd,hd1,hd2,-⟩:=h.d.open (by omega)
 obtain ⟨gba,cba,hvba,hba1,hba2,-,-⟩:=h.ba.open (by omega)
 obtain ⟨gfr,cfr,hvfr,hfr1,hfr2,-,-⟩:=h.fr.open (by omega)
 have HV:=bH (bI hval (bI hvbe (bI hvd (bI hvba hvfr))))
 have hbox:=h.box
 rw [hval,hvbe,hvd,hvba,hvfr] at hbox
 have b6:=cellq hbox 7 rfl
 have a0:=hcal i hi
 obtain ⟨n0,r1,r2,r3,r1',r2',r3',e0,e1,e2,hq0⟩:=(h.rows i hi).1.cells c hc
 have i0:(0:Int)<=(i:Int):=by omega
 have i1:(i:Int)<(T.m:Int):=by omega
 have c0:(0:Int)<=(c:Int):=by omega
 have c1:(c:Int)<(T.n:Int):=by omega
 have HF:=bH (fun W=>rfrom_any W 1 (by decide) (by decide))
 have hz0:=hal i c hi hc
 have HD:=bH (fun W u (hW:XF w W) (hu:IsRat W u ((1:Int):Rat))=>rdiv_any W u _ ((1:Int):Rat) (T.al i c) s (hu.reads ((Sz.int (k:=1) (by constructor <;> decide)).mono hs1)) ((hq0.keep hW).reads hz0) (by omega) (by omega) hnz)
 have HT:=bH (bI h (bI hal (bI hbe (bI hd hnz))))
 have HI:=bH (bI hi hc)
 clear hq0 hz0 hal hbe hd hnz h hcal hbox hvbe hvd hvba hvfr hval
 go_enter Tryz.func178,Tryz.ntmps178
 go_upto_region 1 with fail
 clear b6 a0
 obtain ⟨w2,hw2⟩:∃ w2,w=w2:=⟨_,rfl⟩
 rw [hw2] at e0 e1 e2 HD HT ⊢
 replace e0:=cq e0
 replace e1:=cq e1
 replace e2:=cq e2
 go_cut [7] (fun v7 wx=>∃ ib n12 a12 l12 c12 a12' l12' c12',v7=.pointer (some ⟨ib,0,none⟩)/\BoxR wx ib n12 (.slice a12 l12 c12) (.slice a12' l12' c12')/\IsRat wx (.agg #[.bool n12,.slice a12 l12 c12,.slice a12' l12' c12']) (((1:Int):Rat) / T.al i c)/\w2.heap.size<=ib/\XF w2 wx)
 case first =>
  refine wp_region_held_drew (S:=(XF w2)) (by kernel_rfl) ((Ext.refl _ w2).drew) (fun hHeld=>?_)
  refine ht 1 (h:=(ht 2 (h:=(ht 3 (h:=(ht 4 (h:=?_)))))))
  (try go_frame)
  refine held_two 0 9 rfl rfl (by kernel_rfl) (fun K hK=>?_) (fun K hK=>?_)
  ·go_simp
   go_at_call 66; (with_reducible refine (HF.out _).mono ?_); rintro q1 w11 ⟨v1,rfl,h11,hx1⟩; have hX1:=hHeld.trans hx1
   obtain ⟨n11,a11,l11,c11,a11',l11',c11',rfl⟩:=h11.shape
   refine hK.out _ _ (hX1) (fun hHeld=>?_)
   clear hK K
   (try go_frame)
   refine held_two 5 9 rfl rfl (by kernel_rfl) (fun K hK=>?_) (fun K hK=>?_)
   ·go_simp
    go_at_call 176; (with_reducible refine (HD.out _ _ hX1 h11).mono ?_); rintro q2 w12 ⟨v2,rfl,h12,hx2⟩; have hX2:=hX1.trans hx2
    obtain ⟨n12,a12,l12,c12,a12',l12',c12',rfl⟩:=h12.shape
    refine hK.out _ _ (hX2) (fun hHeld=>?_)
    clear hK K
    (try go_frame)
    refine ht 6 (h:=(ht 7 (h:=(ht 8 (h:=?_)))))
    (try go_frame)
    refine hst 9 (h:=fun K hK=>?_)
    go_simp
    have hBl3:=hX2.size
    have hX3:=hX2.trans ((Ext.refl (fun _=>False) w12).alloc (.cells #[.bool false,.slice none 0 0,.slice none 0 0] 31))
    refine hK.out _ _ (hX3) (fun hHeld=>?_)
    clear hK K
    (try go_frame)
    refine hst 10 (h:=fun K hK=>?_)
    go_simp
    have hxn:=(Ext.refl (fun _=>False) w12).alloc (.cells #[.bool n12,.slice a12 l12 c12,.slice a12' l12' c12'] 31)
    have hXs:=hX2.trans hxn
    have hps:=h12.keep hxn
    have hpb:=boxR_new (W:=w12) rfl n12 a12 l12 c12 a12' l12' c12'
    have hle:=hBl3
    refine hK.out _ _ (hXs) (fun hHeld=>?_)
    clear hK K
    (try go_frame)
    refine ht 11 (h:=?_)
    (try go_frame)
    refine wpAnyH_done (by kernel_rfl) ?_ _
    go_wp2
    go_meet
    exact ⟨_,_,_,_,_,_,_,_,rfl,hpb,hps,hle,hXs⟩
   ·go_simp
    have hxn:=(Ext.refl (fun _=>False) w11).alloc (.cells #[.bool false,.slice none 0 0,.slice none 0 0] 31)
    have hX2:=hX1.trans hxn
    have hB2:=boxR_new (W:=w11) rfl false none 0 0 none 0 0
    have hBl2:=hX1.size
    replace h11:=h11.keep hxn
    refine hK.out _ _ (hX2) (fun hHeld=>?_)
    clear hK K
    (try go_frame)
    refine hst 5 (h:=fun K hK=>?_)
    go_simp
    go_at_call 176; (with_reducible refine (HD.out _ _ hX2 h11).mono ?_); rintro q3 w13 ⟨v3,rfl,h12,hx3⟩; have hX3:=hX2.trans hx3
    have hB3:=hB2.keep hx3
    obtain ⟨n12,a12,l12,c12,a12',l12',c12',rfl⟩:=h12.shape
    refine hK.out _ _ (hX3) (fun hHeld=>?_)
    clear hK K
    (try go_frame)
    refine ht 6 (h:=(ht 7 (h:=(ht 8 (h:=?_)))))
    (try go_frame)
    refine hst 10 (h:=fun K hK=>?_)
    obtain ⟨d0,d1,d2,d3,d4,d5⟩:=hB3.facts
    have hp:=hB3.put (neg:=n12) (no_int a12 l12 c12) (no_int a12' l12' c12')
    have hXs:=hX3.own hp.ext (fun k e=>by have:=hBl2; omega)
    have hps:=hp.rat h12
    have hpb:=hp.box
    have hle:=hBl2
    go_simp
    refine hK.out _ _ (hXs) (fun hHeld=>?_)
    clear hK K
    (try go_frame)
    refine ht 11 (h:=?_)
    (try go_frame)
    refine wpAnyH_done (by kernel_rfl) ?_ _
    go_wp2
    go_meet
    exact ⟨_,_,_,_,_,_,_,_,rfl,hpb,hps,hle,hXs⟩
  ·go_simp
   have hxn:=(Ext.refl (fun _=>False) w2.drew).alloc (.cells #[.bool false,.slice none 0 0,.slice none 0 0] 31)
   have hX1:=hHeld.trans hxn
   have hB1:BoxR (w2.drew.alloc (.cells #[.bool false,.slice none 0 0,.slice none 0 0] 31)) w2.heap.size false (.slice none 0 0) (.slice none 0 0):=boxR_new (W:=w2.drew) rfl false none 0 0 none 0 0
   have hBl1:w2.heap.size<=w2.heap.size:=Nat.le_refl _
   refine hK.out _ _ (hX1) (fun hHeld=>?_)
   clear hK K
   (try go_frame)
   refine hst 0 (h:=fun K hK=>?_)
   go_simp
   go_at_call 66; (with_reducible refine (HF.out _).mono ?_); rintro q2 w12 ⟨v2,rfl,h11,hx2⟩; have hX2:=hX1.trans hx2
   have hB2:=hB1.keep hx2
   obtain ⟨n11,a11,l11,c11,a11',l11',c11',rfl⟩:=h11.shape
   refine hK.out _ _ (hX2) (fun hHeld=>?_)
   clear hK K
   (try go_frame)
   refine hst 5 (h:=fun K hK=>?_)
   go_simp
   go_at_call 176; (with_reducible refine (HD.out _ _ hX2 h11).mono ?_); rintro q3 w13 ⟨v3,rfl,h12,hx3⟩; have hX3:=hX2.trans hx3
   have hB3:=hB2.keep hx3
   obtain ⟨n12,a12,l12,c12,a12',l12',c12',rfl⟩:=h12.shape
   refine hK.out _ _ (hX3) (fun hHeld=>?_)
   clear hK K
   (try go_frame)
   refine ht 6 (h:=(ht 7 (h:=(ht 8 (h:=?_)))))
   (try go_frame)
   refine hst 10 (h:=fun K hK=>?_)
   obtain ⟨d0,d1,d2,d3,d4,d5⟩:=hB3.facts
   have hp:=hB3.put (neg:=n12) (no_int a12 l12 c12) (no_int a12' l12' c12')
   have hXs:=hX3.own hp.ext (fun k e=>by have:=hBl1; omega)
   have hps:=hp.rat h12
   have hpb:=hp.box
   have hle:=hBl1
   go_simp
   refine hK.out _ _ (hXs) (fun hHeld=>?_)
   clear hK K
   (try go_frame)
   refine ht 11 (h:=?_)
   (try go_frame)
   refine wpAnyH_done (by kernel_rfl) ?_ _
   go_wp2
   go_meet
   exact ⟨_,_,_,_,_,_,_,_,rfl,hpb,hps,hle,hXs⟩
 case rest =>
  clear HF HD e0 e1 e2
  obtain ⟨ib,n1,a1,l1,c1,a1',l1',c1',rfl,hbx,hq,hib,hx⟩:=hcut
  obtain ⟨hsm1,hsm2⟩:=HT.out.1.small
  have HZ:=bH (bI (Sz.invF (T:=T) (i:=i) (c:=c) (by omega) (HT.out.2.1 i c HI.out.1 HI.out.2)) (fun l hl=>Sz.row (T:=T) (i:=i) (c:=c) (by omega) (HT.out.2.1 i c HI.out.1 HI.out.2) (HT.out.2.1 i l HI.out.1 hl)))
  have HP:=bH (show PvSt w2 wc base tb V (pv1 T i c 0) ib (invF T i c) ⟨n1,a1,l1,c1,a1',l1',c1'⟩ from ⟨(HT.out.1.keep hx).congr (pv1_zero T i c),hx.none,fun v l k=>k.keep hx,hbx,by
   have e:((1:Int):Rat)=1:=rfl
   rw [e] at hq; exact hq,hib,HT.out.1.old⟩)
  have HO:=bH HT.out.1.old
  clear hbx hq hx
  go_wp2_with fail
  go_loopg [33,9,10] T.n (fun gg v33 v9 v10 wr=>∃ j:Nat,j<=T.n/\gg=T.n - j/\v33=.int .i64 j/\PvSt w2 wr base tb V (pv1 T i c j) ib (invF T i c) ⟨n1,a1,l1,c1,a1',l1',c1'⟩)
  case atStart=>exact ⟨0,Nat.zero_le _,rfl,rfl,HP.out⟩
  case round =>
   clear HP
   obtain ⟨j,hj,rfl,rfl,hp⟩:=hrel
   have HS:=bH hp
   clear hp
   by_cases hjn:j<T.n
   ·have j0:(j:Int)<(T.n:Int):=by omega
    have j1:(0:Int)<=(j:Int):=by omega
    obtain ⟨n3,a3,l3,c3,a3',l3',c3',e0,e1,e2,hq3⟩:=(HS.out.tab.rows i HI.out.1).1.cells j hjn
    rw [pv1_at] at hq3
    have hxa:=(Ext.refl (fun _=>False) wr).alloc (.cells #[.bool n3,.slice a3 l3 c3,.slice a3' l3' c3'] 31)
    have hb3:=boxR_new (W:=wr) rfl n3 a3 l3 c3 a3' l3' c3'
    have HSt:=bH (bI (HS.out.keep hxa) (bI hb3 (hq3.keep hxa)))
    clear hxa hb3 hq3 HS
    go_upto_region 5 with fail
    generalize wr.alloc (.cells #[.bool n3,.slice a3 l3 c3,.slice a3' l3' c3'] 31)=w3 at *
    generalize wr.heap.size=ab at *
    clear e0 e1 e2
    by_cases hjc:j=c
    ·have HN:=bH (HSt.out.1.congr (pv1_skip T i c j (.inl hjc)))
     have hnb:((j:Int) != (c:Int))=false:=by rw [hjc]; simp
     have hnb':((j:Int) == (c:Int))=true:=by rw [hjc]; simp
     go_wp2
     go_roundg (T.n - (j+1))
     case measure=>omega
     case rel=>exact ⟨j+1,by omega,rfl,by go_num,HN.out⟩
    have hjc1:((j:Int) == (c:Int))=false:=by simp; omega
    have hjc2:((j:Int) != (c:Int))=true:=by simp; omega
    obtain ⟨x0,x1,x2,-⟩:=HSt.out.2.1.facts
    have hsj:=HT.out.2.1 i j HI.out.1 hjn
    have HSg:=bH (rsign_any w3 _ _ s (HSt.out.2.2.reads hsj) (by omega))
    go_wp2_with fail
    refine HSg.out.mono ?_
    rintro r4 w4 ⟨rfl,hx4⟩
    replace HSt:=bH (bI (HSt.out.1.keep hx4) (bI (HSt.out.2.1.keep hx4) (HSt.out.2.2.keep hx4)))
    have Hsz:=bH (sign_zero (T.al i j))
    clear hx4 x0 x1 x2 HSg
    generalize (T.al i j).num.sign=sg at *
    by_cases hsg:sg=0
    ·have HN:=bH (HSt.out.1.congr (pv1_skip T i c j (.inr (Hsz.out.1 hsg))))
     subst hsg
     go_wp2
     go_roundg (T.n - (j+1))
     case measure=>omega
     case rel=>exact ⟨j+1,by omega,rfl,by go_num,HN.out⟩
    ·have hs1:(sg == 0)=false:=by simpa using hsg
     have hs2:(sg != 0)=true:=by simpa using hsg
     obtain ⟨x0,x1,x2,-⟩:=HSt.out.2.1.facts
     obtain ⟨y0,y1,y2,-⟩:=HSt.out.1.box.facts
     dsimp only at y0 y1 y2
     have HM:=bH (rmul_any w4 _ _ (T.al i j) (invF T i c) s (HSt.out.2.2.reads hsj) (HSt.out.1.inv.reads HZ.out.1) (by omega) (by omega))
     go_wp2_with fail
     refine HM.out.mono ?_
     rintro r5 w5 ⟨v5,rfl,h5,hx5⟩
     obtain ⟨n5,a5,l5,c5,a5',l5',c5',rfl⟩:=h5.shape
     have HP5:=bH (HSt.out.1.keep hx5)
     clear HM x0 x1 x2 y0 y1 y2 HSt
     have HR:=bH (HP5.out.tab.rows i HI.out.1).1
     obtain ⟨o1,o2,o3,o4,o5,o6,o7,t0,t1,t2,-⟩:=HR.out.cells j hjn
     have fz0:=HR.out.free (j*3)
     have fz1:=HR.out.free (j*3+1)
     have fz2:=HR.out.free (j*3+2)
     go_upto_region 7 with fail
     have HN:=bH (by
      obtain ⟨p1,p2,p3,p4⟩:=HR.out.put (show j<(pv1 T i c j).n from hjn) h5
      exact (HP5.out.row HI.out.1 ((OneRow.refl HR.out).next p1 p2 p3 p4)).congr (pv1_next T i c j hjc))
     clear t0 t1 t2 fz0 fz1 fz2 HP5 HR h5 hx5
     generalize ((w5.setCell ⟨V.rb i,j*3,none⟩ (.bool n5)).setCell ⟨V.rb i,j*3+1,none⟩ (.slice a5 l5 c5)).setCell ⟨V.rb i,j*3+2,none⟩ (.slice a5' l5' c5')=w9 at *
     go_wp2
     go_roundg (T.n - (j+1))
     case measure=>omega
     case rel=>exact ⟨j+1,by omega,rfl,by go_num,HN.out⟩
   ·obtain rfl:j=T.n:=by omega
    have HR:=bH (HS.out.tab.rows i HI.out.1).1
    obtain ⟨o1,o2,o3,o4,o5,o6,o7,t0,t1,t2,-⟩:=HR.out.cells c HI.out.2
    have fz0:=HR.out.free (c*3)
    have fz1:=HR.out.free (c*3+1)
    have fz2:=HR.out.free (c*3+2)
    obtain ⟨y0,y1,y2,-⟩:=HS.out.box.facts
    dsimp only at y0 y1 y2
    go_upto_region 9 with fail
    have HN:=bH (by
     obtain ⟨p1,p2,p3,p4⟩:=HR.out.put (show c<(pv1 T i c T.n).n from HI.out.2) HS.out.inv
     exact (HS.out.row HI.out.1 ((OneRow.refl HR.out).next p1 p2 p3 p4)).congr (pv1_last T i c))
    clear t0 t1 t2 fz0 fz1 fz2 HR y0 y1 y2 HS
    generalize ((wr.setCell ⟨V.rb i,c*3,none⟩ (.bool n1)).setCell ⟨V.rb i,c*3+1,none⟩ (.slice a1 l1 c1)).setCell ⟨V.rb i,c*3+2,none⟩ (.slice a1' l1' c1')=w8 at *
    have HB:=bH (show RCap w8 gbe T.m T.be from HN.out.tab.be.cap' HV.out.2.1)
    have hbox:=HN.out.tab.box
    rw [HV.out.1,HV.out.2.1,HV.out.2.2.1,HV.out.2.2.2.1,HV.out.2.2.2.2] at hbox
    have b5:=cq (cellq hbox 6 rfl)
    clear hbox
    obtain ⟨on,oa,ol,oc,oa2,ol2,oc2,o0,o1,o2,hoq⟩:=HB.out.cells i HI.out.1
    obtain ⟨y0,y1,y2,-⟩:=HN.out.box.facts
    dsimp only at y0 y1 y2
    have hiq:IsRat w8 (.agg #[.bool n1,.slice a1 l1 c1,.slice a1' l1' c1']) (invF T i c):=HN.out.inv
    have HM:=bH (fun W (hW:XF w8 W)=>rmul_any W _ _ (T.be i) (invF T i c) s ((hoq.keep hW).reads (HT.out.2.2.1 i HI.out.1)) ((hiq.keep hW).reads HZ.out.1) (by omega) (by omega))
    clear hoq hiq
    replace o0:=cq o0
    replace o1:=cq o1
    replace o2:=cq o2
    replace y0:=cq y0
    replace y1:=cq y1
    replace y2:=cq y2
    refine ends_begin 15 (XF w8) (by kernel_rfl) ((Ext.refl _ w8).drew) (fun hHeld=>?_)
    refine et 0 (h:=(et 1 (h:=(et 2 (h:=(et 3 (h:=(et 4 (h:=(et 5 (h:=(et 6 (h:=(et 7 (h:=(et 8 (h:=(et 9 (h:=(et 10 (h:=(et 11 (h:=(et 12 (h:=?_)))))))))))))))))))))))))
    (try go_frame)
    refine est 13 (h:=fun K hK=>?_)
    (go_simp; go_at_call 112; (with_reducible refine (HM.out _ hHeld).mono ?_); rintro q1 w11 ⟨v11,rfl,h11,hx11⟩; have hX1:=hHeld.trans hx11; obtain ⟨n11,a11,l11,k11,a11',l11',k11',rfl⟩:=h11.shape)
    refine hK.out _ _ (hX1) (fun hHeld=>?_)
    clear hK K
    (try go_frame)
    refine et 14 (h:=?_)
    (try go_frame)
    have HT2:=bH (HB.out.keep hX1)
    have fz0:=HT2.out.free (i*3)
    have fz1:=HT2.out.free (i*3+1)
    have fz2:=HT2.out.free (i*3+2)
    have t0:=o0 _ hX1
    have t1:=o1 _ hX1
    have t2:=o2 _ hX1
    refine ends_last rfl (by kernel_rfl) (fun K hK=>?_)
    go_simp
    refine hK.out _ _ ?_
    clear hK K
    (try go_frame)
    refine ends_done (by kernel_rfl) ?_ _
    have HN2:=bH (by
     obtain ⟨p1,p2,p3,p4⟩:=HT2.out.put HI.out.1 h11
     exact ((HN.out.keep hX1).be HV.out.2.1 ((OneRow.refl HT2.out).next p1 p2 p3 p4)).congr (pv4_zero T i c))
    clear t0 t1 t2 fz0 fz1 fz2 HT2 HB HN y0 y1 y2 o0 o1 o2 b5 h11 hx11 hX1 HM hHeld
    generalize ((w11.setCell ⟨gbe,i*3,none⟩ (.bool n11)).setCell ⟨gbe,i*3+1,none⟩ (.slice a11 l11 k11)).setCell ⟨gbe,i*3+2,none⟩ (.slice a11' l11' k11')=w9 at *
    have hbox:=HN2.out.tab.box
    rw [HV.out.1,HV.out.2.1,HV.out.2.2.1,HV.out.2.2.2.1,HV.out.2.2.2.2] at hbox
    have b6:=cellq hbox 7 rfl
    clear hbox
    go_wp2_with fail
    clear b6
    go_loopg [77,11,12,13] T.m (fun gg v77 v11 v12 v13 wr=>∃ j:Nat,j<=T.m/\gg=T.m - j/\v77=.int .i64 j/\PvSt w2 wr base tb V (pv4 T i c j) ib (invF T i c) ⟨n1,a1,l1,c1,a1',l1',c1'⟩)
    case atStart=>exact ⟨0,Nat.zero_le _,rfl,rfl,HN2.out⟩
    case round =>
     clear HN2
     obtain ⟨j,hj,rfl,rfl,hp⟩:=hrel
     have HS:=bH hp
     clear hp
     by_cases hjm:j<T.m
     ·have j0:(j:Int)<(T.m:Int):=by omega
      have j1:(0:Int)<=(j:Int):=by omega
      have a0:wr.cell? ⟨gal,j,none⟩=some (.slice (some ⟨V.rb j,0,none⟩) T.n T.n):=HS.out.tab.al.cell' HV.out.1 hjm
      obtain ⟨n3,a3,l3,k3,a3',l3',k3',e0,e1,e2,hq3⟩:=(HS.out.tab.rows j hjm).1.cells c HI.out.2
      have hab:V.rb j<wr.heap.size:=(HS.out.tab.rows j hjm).1.lt
      have hxa:=(Ext.refl (fun _=>False) wr).alloc (.cells #[.bool n3,.slice a3 l3 k3,.slice a3' l3' k3'] 31)
      have hb3:=boxR_new (W:=wr) rfl n3 a3 l3 k3 a3' l3' k3'
      have HSt:=bH (bI (HS.out.keep hxa) (bI hb3 (hq3.keep hxa)))
      clear hxa hb3 hq3 HS
      go_upto_region 14 with fail
      generalize wr.alloc (.cells #[.bool n3,.slice a3 l3 k3,.slice a3' l3' k3'] 31)=w3 at *
      generalize wr.heap.size=ab at *
      clear e0 e1 e2 a0
      by_cases hji:j=i
      ·have HN:=bH (HSt.out.1.congr (pv4_skip T i c j (.inl hji)))
       have hnb:((j:Int) != (i:Int))=false:=by rw [hji]; simp
       have hnb':((j:Int) == (i:Int))=true:=by rw [hji]; simp
       go_wp2
       go_roundg (T.m - (j+1))
       case measure=>omega
       case rel=>exact ⟨j+1,by omega,rfl,by go_num,HN.out⟩
      have hji1:((j:Int) == (i:Int))=false:=by simp; omega
      have hji2:((j:Int) != (i:Int))=true:=by simp; omega
      replace HSt:=bH (bI HSt.out.1 (bI HSt.out.2.1 (show IsRat w3 (.agg #[.bool n3,.slice a3 l3 k3,.slice a3' l3' k3']) (T.al j c) from by have:=HSt.out.2.2; rw [pv4_at T hji] at this; exact this)))
      obtain ⟨x0,x1,x2,-⟩:=HSt.out.2.1.facts
      have hsj:=HT.out.2.1 j c hjm HI.out.2
      have HSg:=bH (rsign_any w3 _ _ s (HSt.out.2.2.reads hsj) (by omega))
      go_wp2_with fail
      refine HSg.out.mono ?_
      rintro r4 w4 ⟨rfl,hx4⟩
      replace HSt:=bH (bI (HSt.out.1.keep hx4) (bI (HSt.out.2.1.keep hx4) (HSt.out.2.2.keep hx4)))
      have Hsz:=bH (sign_zero (T.al j c))
      clear hx4 x0 x1 x2 HSg
      generalize (T.al j c).num.sign=sg at *
      by_cases hsg:sg=0
      ·have HN:=bH (HSt.out.1.congr (pv4_skip T i c j (.inr (Hsz.out.1 hsg))))
       subst hsg
       go_wp2
       go_roundg (T.m - (j+1))
       case measure=>omega
       case rel=>exact ⟨j+1,by omega,rfl,by go_num,HN.out⟩
      have hs1:(sg == 0)=false:=by simpa using hsg
      have hs2:(sg != 0)=true:=by simpa using hsg
      obtain ⟨x0,x1,x2,-⟩:=HSt.out.2.1.facts
      have HA:=bH (by
       have r1:=(HSt.out.1.tab.rows j hjm).1
       have r2:=(HSt.out.1.tab.rows i HI.out.1).1
       rw [pv4_at T hji] at r1
       rw [pv4_row] at r2
       exact addScaled_any w4 (V.rb j) (V.rb i) T.n T.n T.n T.n (T.al j) (rowF T i c) _ (T.al j c) (c:Int) (2*s) r1 r2 (HSt.out.1.tab.rr i j HI.out.1 hjm (fun e=>hji e.symm)) (Nat.le_refl _) (by omega) HSt.out.2.2 (hsj.mono (by omega)) (fun l hl=>(HT.out.2.1 j l hjm hl).mono (by omega)) (fun l hl=>HZ.out.2 l hl) (by omega) (by omega))
      go_wp2_with fail
      refine HA.out.mono ?_
      rintro r5 w5 ⟨rfl,ho⟩
      have hab2:ab≠V.rb j:=by omega
      replace HSt:=bH (bI (show PvSt w2 w5 base tb V (pv4a T i c j) ib (invF T i c) ⟨n1,a1,l1,c1,a1',l1',c1'⟩ from HSt.out.1.row hjm ho) (bI (HSt.out.2.1.ext ho.ext (fun e=>hab2 e)) (HSt.out.2.2.past ho.rds)))
      clear ho HA x0 x1 x2
      obtain ⟨x0,x1,x2,-⟩:=HSt.out.2.1.facts
      obtain ⟨y0,y1,y2,-⟩:=HSt.out.1.box.facts
      dsimp only at y0 y1 y2
      have HM:=bH (rmul_any w5 _ _ (T.al j c) (invF T i c) s (HSt.out.2.2.reads hsj) (HSt.out.1.inv.reads HZ.out.1) (by omega) (by omega))
      go_wp2_with fail
      refine HM.out.mono ?_
      rintro r6 w6 ⟨v6,rfl,h6,hx6⟩
      replace HSt:=bH (bI (HSt.out.1.keep hx6) (bI (HSt.out.2.1.keep hx6) (HSt.out.2.2.keep hx6)))
      have HNg:=bH (rneg_any w6 v6 _ (s+s) (h6.reads (hsj.mul HZ.out.1)) (by omega) (by omega))
      clear HM x0 x1 x2 y0 y1 y2 h6 hx6
      go_wp2_with fail
      refine HNg.out.mono ?_
      rintro r7 w7 ⟨v7,rfl,h7,hx7⟩
      obtain ⟨n7,a7,l7,k7,a7',l7',k7',rfl⟩:=h7.shape
      replace HSt:=bH (bI (HSt.out.1.keep hx7) (bI (HSt.out.2.1.keep hx7) (HSt.out.2.2.keep hx7)))
      clear HNg hx7
      have HR:=bH (show RCap w7 (V.rb j) T.n (rowS T i c j) from by
       have:=(HSt.out.1.tab.rows j hjm).1
       have e:(pv4a T i c j).al j=rowS T i c j:=if_pos rfl
       rw [e] at this; exact this)
      obtain ⟨u1,u2,u3,u4,u5,u6,u7,t0,t1,t2,-⟩:=HR.out.cells c HI.out.2
      have fz0:=HR.out.free (c*3)
      have fz1:=HR.out.free (c*3+1)
      have fz2:=HR.out.free (c*3+2)
      go_upto_region 17 with fail
      replace HSt:=bH (by
       obtain ⟨p1,p2,p3,p4⟩:=HR.out.put HI.out.2 h7
       exact bI (show PvSt w2 _ base tb V (pv4b T i c j) ib (invF T i c) ⟨n1,a1,l1,c1,a1',l1',c1'⟩ from HSt.out.1.row hjm ((OneRow.refl HR.out).next p1 p2 p3 p4)) (bI (HSt.out.2.1.ext p2 (fun e=>hab2 e)) (HSt.out.2.2.past p3)))
      clear t0 t1 t2 fz0 fz1 fz2 HR h7
      generalize ((w7.setCell ⟨V.rb j,c*3,none⟩ (.bool n7)).setCell ⟨V.rb j,c*3+1,none⟩ (.slice a7 l7 k7)).setCell ⟨V.rb j,c*3+2,none⟩ (.slice a7' l7' k7')=w8 at *
      have HB:=bH (show RCap w8 gbe T.m (pv4 T i c j).be from HSt.out.1.tab.be.cap' HV.out.2.1)
      have hbox:=HSt.out.1.tab.box
      rw [HV.out.1,HV.out.2.1,HV.out.2.2.1,HV.out.2.2.2.1,HV.out.2.2.2.2] at hbox
      have b5:=cq (cellq hbox 6 rfl)
      clear hbox
      obtain ⟨x0,x1,x2,-⟩:=HSt.out.2.1.facts
      obtain ⟨on,oa,ol,oc,oa2,ol2,oc2,o0,o1,o2,hoq⟩:=HB.out.cells j hjm
      obtain ⟨pn,pa,pl,pc,pa2,pl2,pc2,p0,p1,p2,hpq⟩:=HB.out.cells i HI.out.1
      rw [pv4_bat T hji] at hoq
      rw [pv4_bi] at hpq
      have hzi:=(HT.out.2.2.1 i HI.out.1).mul HZ.out.1
      have hzj:=HT.out.2.2.1 j hjm
      have HM:=bH (fun W (hW:XF w8 W)=>rmul_any W _ _ (T.al j c) (T.be i*invF T i c) (s+s) ((HSt.out.2.2.keep hW).reads (hsj.mono (by omega))) ((hpq.keep hW).reads hzi) (by omega) (by omega))
      have HSb:=bH (fun W u (hW:XF w8 W) (hu:IsRat W u (T.al j c*(T.be i*invF T i c)))=>rsub_any W _ u (T.be j) _ (s+(s+s)) ((hoq.keep hW).reads (hzj.mono (by omega))) (hu.reads (hsj.mul hzi)) (by omega) (by omega))
      clear hoq hpq
      replace x0:=cq x0
      replace x1:=cq x1
      replace x2:=cq x2
      replace o0:=cq o0
      replace o1:=cq o1
      replace o2:=cq o2
      replace p0:=cq p0
      replace p1:=cq p1
      replace p2:=cq p2
      refine ends_begin 23 (XF w8) (by kernel_rfl) ((Ext.refl _ w8).drew) (fun hHeld=>?_)
      refine et 0 (h:=(et 1 (h:=(et 2 (h:=(et 3 (h:=(et 4 (h:=(et 5 (h:=(et 6 (h:=(et 7 (h:=(et 8 (h:=(et 9 (h:=(et 10 (h:=(et 11 (h:=(et 12 (h:=(et 13 (h:=(et 14 (h:=(et 15 (h:=(et 16 (h:=(et 17 (h:=(et 18 (h:=(et 19 (h:=?_)))))))))))))))))))))))))))))))))))))))
      (try go_frame)
      refine est 20 (h:=fun K hK=>?_)
      (go_simp; go_at_call 112; (with_reducible refine (HM.out _ hHeld).mono ?_); rintro q1 w11 ⟨v11,rfl,h11,hx11⟩; have hX1:=hHeld.trans hx11; have hT:=HSb.out w11 _ hX1 h11; obtain ⟨n11,a11,l11,k11,a11',l11',k11',rfl⟩:=h11.shape)
      refine hK.out _ _ (hX1) (fun hHeld=>?_)
      clear hK K
      (try go_frame)
      refine est 21 (h:=fun K hK=>?_)
      (go_simp; go_at_call 65; (with_reducible refine hT.mono ?_); rintro q2 w12 ⟨v12,rfl,h12,hx12⟩; have hX2:=hX1.trans hx12; obtain ⟨n12,a12,l12,k12,a12',l12',k12',rfl⟩:=h12.shape)
      refine hK.out _ _ (hX2) (fun hHeld=>?_)
      clear hK K
      (try go_frame)
      refine et 22 (h:=?_)
      (try go_frame)
      have HT2:=bH (HB.out.keep hX2)
      have fz0:=HT2.out.free (j*3)
      have fz1:=HT2.out.free (j*3+1)
      have fz2:=HT2.out.free (j*3+2)
      have t0:=o0 _ hX2
      have t1:=o1 _ hX2
      have t2:=o2 _ hX2
      refine ends_last rfl (by kernel_rfl) (fun K hK=>?_)
      go_simp
      refine hK.out _ _ ?_
      clear hK K
      (try go_frame)
      refine ends_done (by kernel_rfl) ?_ _
      have HN:=bH (by
       obtain ⟨q1,q2,q3,q4⟩:=HT2.out.put hjm h12
       exact ((HSt.out.1.keep hX2).be HV.out.2.1 ((OneRow.refl HT2.out).next q1 q2 q3 q4)).congr (pv4_next T i c j hji))
      clear t0 t1 t2 fz0 fz1 fz2 HT2 HB HSt x0 x1 x2 o0 o1 o2 p0 p1 p2 b5 h11 hx11 hX1 h12 hx12 hX2 HM HSb hT hHeld
      generalize ((w12.setCell ⟨gbe,j*3,none⟩ (.bool n12)).setCell ⟨gbe,j*3+1,none⟩ (.slice a12 l12 k12)).setCell ⟨gbe,j*3+2,none⟩ (.slice a12' l12' k12')=w9 at *
      go_wp2
      go_roundg (T.m - (j+1))
      case measure=>omega
      case rel=>exact ⟨j+1,by omega,rfl,by go_num,HN.out⟩
     ·obtain rfl:j=T.m:=by omega
      have hbox:=HS.out.tab.box
      rw [HV.out.1,HV.out.2.1,HV.out.2.2.1,HV.out.2.2.2.1,HV.out.2.2.2.2] at hbox
      have b8:=cellq hbox 8 rfl
      clear hbox
      have HD:=bH (show RCap wr gd T.n T.d from HS.out.tab.d.cap' HV.out.2.2.1)
      obtain ⟨n3,a3,l3,k3,a3',l3',k3',e0,e1,e2,hq3⟩:=HD.out.cells c HI.out.2
      have hgd:gd<wr.heap.size:=HD.out.lt
      have hxa:=(Ext.refl (fun _=>False) wr).alloc (.cells #[.bool n3,.slice a3 l3 k3,.slice a3' l3' k3'] 31)
      have hb3:=boxR_new (W:=wr) rfl n3 a3 l3 k3 a3' l3' k3'
      have HSt:=bH (bI (HS.out.keep hxa) (bI hb3 (hq3.keep hxa)))
      clear hxa hb3 hq3 HS HD
      go_upto_region 20 with fail
      generalize wr.alloc (.cells #[.bool n3,.slice a3 l3 k3,.slice a3' l3' k3'] 31)=w3 at *
      generalize wr.heap.size=ab at *
      clear e0 e1 e2 b8
      obtain ⟨x0,x1,x2,-⟩:=HSt.out.2.1.facts
      have hsj:=HT.out.2.2.2.1 c HI.out.2
      have HSg:=bH (rsign_any w3 _ _ s (HSt.out.2.2.reads hsj) (by omega))
      go_wp2_with fail
      refine HSg.out.mono ?_
      rintro r4 w4 ⟨rfl,hx4⟩
      replace HSt:=bH (bI (HSt.out.1.keep hx4) (bI (HSt.out.2.1.keep hx4) (HSt.out.2.2.keep hx4)))
      have Hsz:=bH (sign_zero (T.d c))
      clear hx4 x0 x1 x2 HSg
      generalize (T.d c).num.sign=sg at *
      by_cases hsg:sg=0
      case' pos =>
       have HF:=bH (HSt.out.1.congr (pv5_zero T i c (Hsz.out.1 hsg)))
       clear HSt Hsz hsj
       subst hsg
       generalize w4=w5 at *
       go_upto_region 23 with fail
      case' neg =>
       have hs1:(sg == 0)=false:=by simpa using hsg
       have hs2:(sg != 0)=true:=by simpa using hsg
       obtain ⟨x0,x1,x2,-⟩:=HSt.out.2.1.facts
       have hbox:=HSt.out.1.tab.box
       rw [HV.out.1,HV.out.2.1,HV.out.2.2.1,HV.out.2.2.2.1,HV.out.2.2.2.2] at hbox
       have htg:tb≠gd:=by
        obtain ⟨arr,h1⟩:=HSt.out.1.tab.d.typ gd (by rw [HV.out.2.2.1]; rfl)
        exact typ_ne HSt.out.1.tab.box h1 (by decide)
       have hab2:ab≠gd:=by omega
       have b8:=cqo (S:=fun k=>k=gd) (cellq hbox 8 rfl) htg
       clear hbox
       have hgi:V.rb i≠gd:=fun e=>HSt.out.1.tab.rd i HI.out.1 (by rw [HV.out.2.2.1,<- e]; rfl)
       have HA:=bH (fun W (hW:XF w4 W)=>by
        have r1:RCap w4 gd T.n T.d:=HSt.out.1.tab.d.cap' HV.out.2.2.1
        have r2:=(HSt.out.1.tab.rows i HI.out.1).1
        rw [pv4_row] at r2
        exact addScaled_any W gd (V.rb i) T.n cd T.n T.n T.d (rowF T i c) _ (T.d c) (c:Int) (2*s) (r1.keep hW) (r2.keep hW) hgi (Nat.le_refl _) (by omega) (HSt.out.2.2.keep hW) (hsj.mono (by omega)) (fun l hl=>(HT.out.2.2.2.1 l hl).mono (by omega)) (fun l hl=>HZ.out.2 l hl) (by omega) (by omega))
       replace x0:=cqo (S:=fun k=>k=gd) x0 hab2
       replace x1:=cqo (S:=fun k=>k=gd) x1 hab2
       replace x2:=cqo (S:=fun k=>k=gd) x2 hab2
       go_upto_region 21 with fail
       refine wp_region_held_drew (S:=(Ext (fun k=>k=gd) w4)) (by kernel_rfl) ((Ext.refl _ w4).drew) (fun hHeld=>?_)
       refine ht 0 (h:=(ht 1 (h:=(ht 2 (h:=(ht 3 (h:=(ht 4 (h:=(ht 5 (h:=(ht 6 (h:=?_)))))))))))))
       (try go_frame)
       refine hst 7 (h:=fun K hK=>?_)
       (go_simp; go_at_call 200; (with_reducible refine (HA.out _ (Ext.refl _ w4).drew).mono ?_); rintro q1 w11 ⟨rfl,ho1⟩; have hX1:=((Ext.refl (fun k=>k=gd) w4).drew).trans ho1.ext)
       refine hK.out _ _ (hX1) (fun hHeld=>?_)
       clear hK K
       (try go_frame)
       refine wpAnyH_done (by kernel_rfl) ?_ _
       replace HSt:=bH (bI (show PvSt w2 w11 base tb V (pv4d T i c) ib (invF T i c) ⟨n1,a1,l1,c1,a1',l1',c1'⟩ from (HSt.out.1.keep (Ext.refl _ w4).drew).d HV.out.2.2.1 ho1) (bI ((HSt.out.2.1.keep (Ext.refl _ w4).drew).ext ho1.ext (fun e=>hab2 e)) ((HSt.out.2.2.keep (Ext.refl _ w4).drew).past ho1.rds)))
       clear ho1 hX1 hHeld HA x0 x1 x2 b8 htg
       go_upto_region 22 with fail
       generalize w11=w8 at *
       have HB:=bH (show RCap w8 gd T.n (pv4d T i c).d from HSt.out.1.tab.d.cap' HV.out.2.2.1)
       have hbox:=HSt.out.1.tab.box
       rw [HV.out.1,HV.out.2.1,HV.out.2.2.1,HV.out.2.2.2.1,HV.out.2.2.2.2] at hbox
       have b8:=cq (cellq hbox 8 rfl)
       clear hbox
       obtain ⟨x0,x1,x2,-⟩:=HSt.out.2.1.facts
       obtain ⟨y0,y1,y2,-⟩:=HSt.out.1.box.facts
       dsimp only at y0 y1 y2
       obtain ⟨on,oa,ol,oc,oa2,ol2,oc2,o0,o1,o2,-⟩:=HB.out.cells c HI.out.2
       have hiq:IsRat w8 (.agg #[.bool n1,.slice a1 l1 c1,.slice a1' l1' c1']) (invF T i c):=HSt.out.1.inv
       have hzi:=hsj.mul HZ.out.1
       have HM:=bH (fun W (hW:XF w8 W)=>rmul_any W _ _ (T.d c) (invF T i c) s ((HSt.out.2.2.keep hW).reads hsj) ((hiq.keep hW).reads HZ.out.1) (by omega) (by omega))
       have HSb:=bH (fun W u (hW:XF w8 W) (hu:IsRat W u (T.d c*invF T i c))=>rneg_any W u _ (s+s) (hu.reads hzi) (by omega) (by omega))
       clear hiq
       replace x0:=cq x0
       replace x1:=cq x1
       replace x2:=cq x2
       replace y0:=cq y0
       replace y1:=cq y1
       replace y2:=cq y2
       replace o0:=cq o0
       replace o1:=cq o1
       replace o2:=cq o2
       refine ends_begin 10 (XF w8) (by kernel_rfl) ((Ext.refl _ w8).drew) (fun hHeld=>?_)
       refine et 0 (h:=(et 1 (h:=(et 2 (h:=(et 3 (h:=(et 4 (h:=(et 5 (h:=(et 6 (h:=?_)))))))))))))
       (try go_frame)
       refine est 7 (h:=fun K hK=>?_)
       (go_simp; go_at_call 112; (with_reducible refine (HM.out _ hHeld).mono ?_); rintro q1 w11 ⟨v11,rfl,h11,hx11⟩; have hX1:=hHeld.trans hx11; have hT:=HSb.out w11 _ hX1 h11; obtain ⟨n11,a11,l11,k11,a11',l11',k11',rfl⟩:=h11.shape)
       refine hK.out _ _ (hX1) (fun hHeld=>?_)
       clear hK K
       (try go_frame)
       refine est 8 (h:=fun K hK=>?_)
       (go_simp; go_at_call 69; (with_reducible refine hT.mono ?_); rintro q2 w12 ⟨v12,rfl,h12,hx12⟩; have hX2:=hX1.trans hx12; obtain ⟨n12,a12,l12,k12,a12',l12',k12',rfl⟩:=h12.shape)
       refine hK.out _ _ (hX2) (fun hHeld=>?_)
       clear hK K
       (try go_frame)
       refine et 9 (h:=?_)
       (try go_frame)
       have HT2:=bH (HB.out.keep hX2)
       have fz0:=HT2.out.free (c*3)
       have fz1:=HT2.out.free (c*3+1)
       have fz2:=HT2.out.free (c*3+2)
       have t0:=o0 _ hX2
       have t1:=o1 _ hX2
       have t2:=o2 _ hX2
       refine ends_last rfl (by kernel_rfl) (fun K hK=>?_)
       go_simp
       refine hK.out _ _ ?_
       clear hK K
       (try go_frame)
       refine ends_done (by kernel_rfl) ?_ _
       have HF:=bH (by
        obtain ⟨q1,q2,q3,q4⟩:=HT2.out.put HI.out.2 h12
        exact ((HSt.out.1.keep hX2).d HV.out.2.2.1 ((OneRow.refl HT2.out).next q1 q2 q3 q4)).congr (pv5_set T i c))
       clear t0 t1 t2 fz0 fz1 fz2 HT2 HB HSt x0 x1 x2 y0 y1 y2 o0 o1 o2 b8 h11 hx11 hX1 h12 hx12 hX2 HM HSb hT hHeld
       generalize ((w12.setCell ⟨gd,c*3,none⟩ (.bool n12)).setCell ⟨gd,c*3+1,none⟩ (.slice a12 l12 k12)).setCell ⟨gd,c*3+2,none⟩ (.slice a12' l12' k12')=w5 at *
       go_upto_region 23 with fail
      all_goals
       have hbox:=HF.out.tab.box
       rw [HV.out.1,HV.out.2.1,HV.out.2.2.1,HV.out.2.2.2.1,HV.out.2.2.2.2] at hbox
       have b4:=cq (cellq hbox 4 rfl)
       have b5:=cq (cellq hbox 5 rfl)
       clear hbox
       have s0:=cq (HF.out.tab.ba.cell' HV.out.2.2.2.1 HI.out.1).1
       have s1:=cq (HF.out.tab.fr.cell' HV.out.2.2.2.2 HI.out.2).1
       have hgn:gba≠gfr:=fun e=>HF.out.tab.bf gba (by rw [HV.out.2.2.2.1]; rfl) (by rw [HV.out.2.2.2.2,e]; rfl)
       have hgn2:gfr≠gba:=fun e=>hgn e.symm
       refine mbegin 25 (XF w5) (by kernel_rfl) ((Ext.refl _ w5).drew) (fun hHeld=>?_)
       refine mu 0 (h:=(mu 1 (h:=(mu 2 (h:=(mu 3 (h:=(mu 4 (h:=(mu 5 (h:=(mu 6 (h:=(mu 7 (h:=(mu 8 (h:=(mf 9 (h:=(mu 10 (h:=(mu 11 (h:=(mu 12 (h:=(mu 13 (h:=(mu 14 (h:=(mu 15 (h:=(mu 16 (h:=(mu 17 (h:=(mu 18 (h:=(mu 19 (h:=(mu 20 (h:=(mu 21 (h:=(mu 22 (h:=(mu 23 (h:=(mu 24 (h:=?_)))))))))))))))))))))))))))))))))))))))))))))))))
       (try go_frame)
       obtain ⟨t0,tf0⟩:=HF.out.tab.ba.cell' HV.out.2.2.2.1 HI.out.1
       obtain ⟨t1,tf1⟩:=HF.out.tab.fr.cell' HV.out.2.2.2.2 HI.out.2
       refine ml 25 (h:=fun K hK=>?_)
       go_simp
       refine hK.out _ _ ?_
       clear hK K
       (try go_frame)
       refine ml 26 (h:=fun K hK=>?_)
       go_simp
       refine hK.out _ _ ?_
       clear hK K
       (try go_frame)
       refine ml 27 (h:=fun K hK=>?_)
       go_simp
       refine hK.out _ _ ?_
       clear hK K
       (try go_frame)
       refine mdone (by kernel_rfl) ?_ _
       obtain ⟨q1,q2,q3⟩:=HF.out.tab.swap (i:=i) (c:=c) HV.out.2.2.2.1 HV.out.2.2.2.2 ((pv5 T i c).fr c) ((pv5 T i c).ba i) rfl
       have HQ:=bH (bI (show TabAt _ base tb V (pivF T i c) from q1.keep ((Ext.refl _ _).drew)) (bI ((HF.out.ext.trans q2).trans ((Ext.refl _ _).drew)) (fun v l k=>(q3 v l (HF.out.rds v l k)).keep ((Ext.refl _ _).drew))))
       clear q1 q2 q3
       go_wp2
       exact bodyPost_end (v:=.tuple #[]) (by simp [results,Tryz.results178,go_sem]) rfl ⟨rfl,by rw [hw2]; exact HQ.out⟩
theorem Rep.sz {N s:Nat} {T:TabF} {D:Tb} (h:Rep N T D) (hb:Bnd N D s):(∀ k j,k<T.m->j<T.n->Sz (T.al k j) s)/\(∀ k,k<T.m->Sz (T.be k) s)/\∀ j,j<T.n->Sz (T.d j) s :=
 ⟨fun k j hk hj=>by rw [<- h.al k j hk hj]; exact hb.M _ _ (h.fr j hj),fun k hk=>by rw [<- h.be k hk]; exact hb.b _,fun j hj=>by rw [<- h.d j hj]; exact hb.d _ (h.fr j hj)⟩
structure Turn (w w':World) (base tb N:Nat) (V:TabV) (T T':TabF) (D D':Tb):Prop where
 tab:TabAt w' base tb V T'
 n:T'.n=T.n
 m:T'.m=T.m
 rep:Rep N T' D'
 equ:Equ N D D'
 ext:Ext (V.S T.m) w w'
 rds:∀ v l,Rds w v l->Rds w' v l
theorem DuSt.costs {N k:Nat} {good:Bool} {D0 D:Tb} {T0 T:TabF} (h:DuSt N good T0 D0 k T D) (hg:good=true):∀ j,j<T.n->0<=T.d j:=fun j hj=>by
 have:=h.short.2.2.2 hg (T.fr j) (h.rep.fr j hj)
 rwa [h.rep.d j hj] at this
theorem dualC_any (w:World) (base tb tc ic s:Nat) (V:TabV) (T:TabF) (i:Nat) (good:Bool) (h:TabAt w base tb V T) (hi:i<T.m) (htc:w.cell? ⟨tc,0,none⟩=some (.pointer (some ⟨tb,0,none⟩))) (hic:w.cell? ⟨ic,0,none⟩=some (.int .i64 i))
  (hal:∀ j,j<T.n->Sz (T.al i j) s) (hd:∀ j,j<T.n->Sz (T.d j) s) (hs1:2<=s) (hs2:s<=200000) :
  Calls Tryz.prog 172 #[V.fr,.func (.func 177) #[] #[.pointer (some ⟨tc,0,none⟩),.pointer (some ⟨ic,0,none⟩)],if good then .func (.func 175) #[] #[.pointer (some ⟨tc,0,none⟩),.pointer (some ⟨ic,0,none⟩)] else .func (.func 174) #[] #[]] w
   (fun r w'=>r=.returned (.int .i64 (optI (dualC good T i)))/\XF w w'):=by
 have hsm:=h.small
 have H1:∀ W,XF w W->∀ k:Nat,k<T.n->Calls Tryz.prog 177 (#[.int .i64 k]++#[.pointer (some ⟨tc,0,none⟩),.pointer (some ⟨ic,0,none⟩)]) W (BoolPost W (decide ((T.al i k).num.sign<0))) :=
  fun W hW k hk=>dual4_any W base tb tc ic V T i k s (h.keep hW) hi hk (cell_keep htc hW) (cell_keep hic hW) (hal k hk) (by omega)
 cases good with
 | false =>
  exact least_any w V.fr T.n T.fr 177 174 #[.pointer (some ⟨tc,0,none⟩),.pointer (some ⟨ic,0,none⟩)] #[] (fun k=>decide ((T.al i k).num.sign<0)) (fun _=>0) 1 (h.fr.nrow (by omega)) (by omega)
   (enters_of Tryz.func177 (by kernel_rfl) rfl) (enters_of Tryz.func174 (by kernel_rfl) rfl) H1 (fun W hW k hk _=>none_any W k) (fun _ _ _=>Sz.zero) (Nat.le_refl 1) (by decide)
 | true =>
  exact least_any w V.fr T.n T.fr 177 175 #[.pointer (some ⟨tc,0,none⟩),.pointer (some ⟨ic,0,none⟩)] #[.pointer (some ⟨tc,0,none⟩),.pointer (some ⟨ic,0,none⟩)] (fun k=>decide ((T.al i k).num.sign<0)) (fun k=>T.d k / -(T.al i k)) (s+s) (h.fr.nrow (by omega)) (by omega)
   (enters_of Tryz.func177 (by kernel_rfl) rfl) (enters_of Tryz.func175 (by kernel_rfl) rfl) H1
   (fun W hW k hk ha=>dual3_any W base tb tc ic V T i k s (h.keep hW) hi hk (cell_keep htc hW) (cell_keep hic hW) (hal k hk) (hd k hk) (fun e=>by
    have:=(sign_lt _).1 (of_decide_eq_true ha)
    rw [e] at this; exact lt_irr this) (by omega) (by omega))
   (fun k hk _=>(hd k hk).div (hal k hk).neg (by omega)) (by omega) (by omega)
def DualPost (w:World) (base tb N:Nat) (V:TabV) (T:TabF) (D:Tb) (r:Ending) (w':World):Prop :=
 ∃ (T':TabF) (D':Tb) (good:Bool),good=(!hasNeg T.n T.d)/\r=.returned (.int .i64 (optI (dualI T')))/\Turn w w' base tb N V T T' D D'/\((∀ j,j<T.n->0<=T.d j)->∀ j,j<T.n->0<=T'.d j)/\Halts (dstepF good) T T' /\
  ((dualI T'=none/\∀ k,k<T.m->0<=T'.be k)∨∃ i:Nat,dualI T'=some i/\i<T.m/\T'.be i<0/\∀ c,c<T.n->0<=T'.al i c)
theorem dual_any (w:World) (base tb N s:Nat) (V:TabV) (T:TabF) (D:Tb) (h:TabAt w base tb V T) (hr:Rep N T D) (hB:∀ E,Wf N E->Equ N D E->Bnd N E s) (hs1:2<=s) (hs2:s<=200000) :
  Calls Tryz.prog 135 #[.pointer (some ⟨tb,0,none⟩)] w (DualPost w base tb N V T D):=by
 have hxa:=(Ext.refl (fun _=>False) w).alloc (.cells #[.pointer (some ⟨tb,0,none⟩)] 102)
 have HG:=bH (fun W (hW:TabAt W base tb V T)=>hasneg_any W base V.d T.n s T.d hW.d (hr.sz (hB D hr.wf (Equ.refl N D))).2.2 (by omega) (by omega) (by have:=hW.small; omega))
 have b8:=cellq (h.keep hxa).box 8 rfl
 have HT:=bH (bI (h.keep hxa) (bI hr (bI hB hxa)))
 have HO:∀ k,V.S T.m k->k<w.heap.size:=h.old
 clear h hr hB hxa
 have ht0:(w.alloc (.cells #[.pointer (some ⟨tb,0,none⟩)] 102)).cell? ⟨w.heap.size,0,none⟩=some (.pointer (some ⟨tb,0,none⟩)):=cell_of_cells (blk_alloc_at _ _) 0
 have htn:∀ k,V.S T.m k->k<w.heap.size:=HO
 have HTC:=bH htn
 clear htn HO
 go_enter Tryz.func135,Tryz.ntmps135
 go_upto_region 1 with fail
 have hwc:w.heap.size<=w.heap.size:=Nat.le_refl _
 generalize w.alloc (.cells #[.pointer (some ⟨tb,0,none⟩)] 102)=w1 at *
 obtain ⟨tc,htc⟩:∃ tc,w.heap.size=tc:=⟨_,rfl⟩
 rw [htc] at HTC ht0 ⊢
 clear hwc htc
 go_wp2_with (go_at_call 170; refine (HG.out w1 HT.out.1).mono ?_; rintro r2 w2 ⟨rfl,hx2⟩)
 have HN:=bH (hasNeg_iff (m:=T.n) (f:=T.d))
 generalize hhn:hasNeg T.n T.d=hn at *
 have HH:=bH hhn
 clear hhn
 obtain ⟨B,hBp⟩:∃ B,2 ^ N=B:=⟨_,rfl⟩
 have HBp:=bH hBp
 clear hBp
 have HS:=bH (show DuSt N (!hn) T D 0 T D/\TabAt w2 base tb V T/\Ext (V.S T.m) w w2/\(∀ v l,Rds w v l->Rds w2 v l)/\w2.cell? ⟨tc,0,none⟩=some (.pointer (some ⟨tb,0,none⟩)) from
  ⟨DuSt.start HT.out.2.1 (fun e=>HN.out.1 (by simpa using e)),HT.out.1.keep hx2,(HT.out.2.2.2.trans hx2).none,fun v l k=>(k.keep HT.out.2.2.2).keep hx2,cell_keep ht0 hx2⟩)
 clear b8 ht0 hx2
 go_loopg [4,5,6] B (fun gg v4 v5 v6 wr=>∃ (k:Nat) (T':TabF) (D':Tb),gg=B - k/\DuSt N (!hn) T D k T' D'/\T'.n=T.n/\T'.m=T.m/\TabAt wr base tb V T'/\Ext (V.S T.m) w wr/\(∀ v l,Rds w v l->Rds wr v l)/\wr.cell? ⟨tc,0,none⟩=some (.pointer (some ⟨tb,0,none⟩)))
 case atStart=>exact ⟨0,T,D,rfl,HS.out.1,rfl,rfl,HS.out.2⟩
 case round =>
  clear HS
  obtain ⟨k,T',D',rfl,hdu,hn',hm',htab,hext,hrds,htc⟩:=hrel
  have hsm:=htab.small
  have hsz:=hdu.rep.sz (HT.out.2.2.1 D' hdu.short.2.2.1 hdu.short.2.1)
  have HL:=bH (show Calls Tryz.prog 172 #[V.ba,.func (.func 173) #[] #[.pointer (some ⟨tc,0,none⟩)],.func (.func 174) #[] #[]] wr (fun r w'=>r=.returned (.int .i64 (optI (dualI T')))/\XF wr w') from least_any wr V.ba T'.m T'.ba 173 174 #[.pointer (some ⟨tc,0,none⟩)] #[] (fun k=>decide ((T'.be k).num.sign<0)) (fun _=>0) 1 (htab.ba.nrow (by omega)) (by omega)
   (enters_of Tryz.func173 (by kernel_rfl) rfl) (enters_of Tryz.func174 (by kernel_rfl) rfl)
   (fun W hW k hk=>dual2_any W base tb tc V T' k s (htab.keep hW) hk (cell_keep htc hW) (hsz.2.1 k hk) (by omega))
   (fun W hW k hk _=>none_any W k) (fun _ _ _=>Sz.zero) (Nat.le_refl 1) (by decide))
  have b4:=cellq htab.box 4 rfl
  have HR:=bH (bI hdu (bI htab (bI hext (bI hrds hsz))))
  clear hdu htab hext hrds hsz
  go_upto_region 3 with (go_at_call 172; refine HL.out.mono ?_; rintro r3 w3 ⟨rfl,hx3⟩)
  have hxa:=(Ext.refl (fun _=>False) w3).alloc (.cells #[.int .i64 (optI (dualI T'))] 3)
  have hic:(w3.alloc (.cells #[.int .i64 (optI (dualI T'))] 3)).cell? ⟨w3.heap.size,0,none⟩=some (.int .i64 (optI (dualI T'))):=cell_of_cells (blk_alloc_at _ _) 0
  have HR2:=bH (show DuSt N (!hn) T D k T' D'/\TabAt (w3.alloc (.cells #[.int .i64 (optI (dualI T'))] 3)) base tb V T'/\Ext (V.S T.m) w (w3.alloc (.cells #[.int .i64 (optI (dualI T'))] 3))/\(∀ v l,Rds w v l->Rds (w3.alloc (.cells #[.int .i64 (optI (dualI T'))] 3)) v l) from
   ⟨HR.out.1,(HR.out.2.1.keep hx3).keep hxa,HR.out.2.2.1.trans (hx3.trans hxa).none,fun v l k=>((HR.out.2.2.2.1 v l k).keep hx3).keep hxa⟩)
  have hszs:=HR.out.2.2.2.2
  replace htc:=cell_keep (cell_keep htc hx3) hxa
  clear HR HL hxa b4 hx3
  generalize w3.alloc (.cells #[.int .i64 (optI (dualI T'))] 3)=w4 at *
  generalize w3.heap.size=ic at *
  cases hI:dualI T' with
  | none =>
   rw [hI] at hic
   have hic':w4.cell? ⟨ic,0,none⟩=some (.int .i64 (-1)):=hic
   clear hic
   have HP:=bH (show DualPost w base tb N V T D (.returned (.int .i64 (-1))) w4 from ⟨T',D',!hn,by rw [HH.out],by rw [hI]; rfl,⟨HR2.out.2.1,hn',hm',HR2.out.1.rep,HR2.out.1.short.2.1,HR2.out.2.2.1,HR2.out.2.2.2⟩,fun hd j hj=>HR2.out.1.costs (by rw [HN.out.2 hd]; rfl) j (by omega),HR2.out.1.halt1 hI,.inl ⟨hI,fun k hk=>dualI_none hI k (by omega)⟩⟩)
   go_wp2
   exact bodyPost_ret (v:=.int .i64 (-1)) (by simp [results,Tryz.results135,go_sem]) rfl HP.out
  | some i =>
   rw [hI] at hic
   have hic':w4.cell? ⟨ic,0,none⟩=some (.int .i64 (i:Int)):=hic
   clear hic
   obtain ⟨him,hbi⟩:=dualI_some hI
   have i0:¬ ((i:Int)<0):=by omega
   have HC:=bH (dualC_any w4 base tb tc ic s V T' i (!hn) HR2.out.2.1 him htc hic' (fun j hj=>hszs.1 i j him hj) hszs.2.2 hs1 hs2)
   have b5:=cellq HR2.out.2.1.box 5 rfl
   cases hn with
   | false =>
    go_upto_region 9 with (go_at_call 172; refine HC.out.mono ?_; rintro r5 w5 ⟨rfl,hx5⟩)
    have HR3:=bH (show TabAt w5 base tb V T'/\Ext (V.S T.m) w w5/\(∀ v l,Rds w v l->Rds w5 v l) from ⟨HR2.out.2.1.keep hx5,HR2.out.2.2.1.trans hx5.none,fun v l k=>(HR2.out.2.2.2 v l k).keep hx5⟩)
    replace htc:=cell_keep htc hx5
    replace hic':=cell_keep hic' hx5
    clear b5 hx5 HC
    cases hC:dualC true T' i with
    | none =>
     have HP:=bH (show DualPost w base tb N V T D (.returned (.int .i64 i)) w5 from ⟨T',D',true,by rw [HH.out]; rfl,by rw [hI]; rfl,⟨HR3.out.1,hn',hm',HR2.out.1.rep,HR2.out.1.short.2.1,HR3.out.2.1,HR3.out.2.2⟩,fun hd j hj=>HR2.out.1.costs (by first | rfl | (have:=HN.out.2 hd; simp at this)) j (by omega),HR2.out.1.halt2 hI hC,.inr ⟨i,hI,by omega,hbi,fun c hc=>dualC_none hC c (by omega)⟩⟩)
     go_wp2
     exact bodyPost_ret (v:=.int .i64 i) (by simp [results,Tryz.results135,go_sem]) rfl HP.out
    | some c =>
     obtain ⟨g1,g2,g3,g4⟩:=HR2.out.1.next hI hC
     have HV:=bH (pivot_any w5 base tb V T' i c s HR3.out.1 g1 g2 g3 hs1 hs2 hszs.1 hszs.2.1 hszs.2.2)
     have c0:¬ ((c:Int)<0):=by omega
     have hlt:=HR2.out.1.short.1
     rw [HBp.out] at hlt
     have HG4:=bH g4
     clear g4
     go_wp2_with (go_at_call 178; refine HV.out.mono ?_; rintro r6 w6 ⟨rfl,ht6,hx6,hr6⟩)
     go_roundg (B - (k+1))
     case measure=>omega
     case rel =>
      rw [hm'] at hx6
      exact ⟨k+1,_,_,rfl,HG4.out,hn',hm',ht6,HR3.out.2.1.trans hx6,fun v l k=>hr6 v l (HR3.out.2.2 v l k),(hx6.cell (p:=⟨tc,0,none⟩) (World.block_lt_of_cell? _ _ htc) (fun e=>by have:=HTC.out tc e; omega)).trans htc⟩
   | true =>
    go_upto_region 9 with (go_at_call 172; refine HC.out.mono ?_; rintro r5 w5 ⟨rfl,hx5⟩)
    have HR3:=bH (show TabAt w5 base tb V T'/\Ext (V.S T.m) w w5/\(∀ v l,Rds w v l->Rds w5 v l) from ⟨HR2.out.2.1.keep hx5,HR2.out.2.2.1.trans hx5.none,fun v l k=>(HR2.out.2.2.2 v l k).keep hx5⟩)
    replace htc:=cell_keep htc hx5
    replace hic':=cell_keep hic' hx5
    clear b5 hx5 HC
    cases hC:dualC false T' i with
    | none =>
     have HP:=bH (show DualPost w base tb N V T D (.returned (.int .i64 i)) w5 from ⟨T',D',false,by rw [HH.out]; rfl,by rw [hI]; rfl,⟨HR3.out.1,hn',hm',HR2.out.1.rep,HR2.out.1.short.2.1,HR3.out.2.1,HR3.out.2.2⟩,fun hd j hj=>HR2.out.1.costs (by first | rfl | (have:=HN.out.2 hd; simp at this)) j (by omega),HR2.out.1.halt2 hI hC,.inr ⟨i,hI,by omega,hbi,fun c hc=>dualC_none hC c (by omega)⟩⟩)
     go_wp2
     exact bodyPost_ret (v:=.int .i64 i) (by simp [results,Tryz.results135,go_sem]) rfl HP.out
    | some c =>
     obtain ⟨g1,g2,g3,g4⟩:=HR2.out.1.next hI hC
     have HV:=bH (pivot_any w5 base tb V T' i c s HR3.out.1 g1 g2 g3 hs1 hs2 hszs.1 hszs.2.1 hszs.2.2)
     have c0:¬ ((c:Int)<0):=by omega
     have hlt:=HR2.out.1.short.1
     rw [HBp.out] at hlt
     have HG4:=bH g4
     clear g4
     go_wp2_with (go_at_call 178; refine HV.out.mono ?_; rintro r6 w6 ⟨rfl,ht6,hx6,hr6⟩)
     go_roundg (B - (k+1))
     case measure=>omega
     case rel =>
      rw [hm'] at hx6
      exact ⟨k+1,_,_,rfl,HG4.out,hn',hm',ht6,HR3.out.2.1.trans hx6,fun v l k=>hr6 v l (HR3.out.2.2 v l k),(hx6.cell (p:=⟨tc,0,none⟩) (World.block_lt_of_cell? _ _ htc) (fun e=>by have:=HTC.out tc e; omega)).trans htc⟩
theorem PrSt.rhss {N k:Nat} {D0 D:Tb} {T0 T:TabF} (h:PrSt N T0 D0 k T D):∀ i,i<T.m->0<=T.be i:=fun i hi=>by
 have:=h.short.2.2.2 (T.ba i)
 rwa [h.rep.be i hi] at this
def PrimPost (w:World) (base tb N:Nat) (V:TabV) (T:TabF) (D:Tb) (r:Ending) (w':World):Prop :=
 ∃ (T':TabF) (D':Tb),r=.returned (.int .i64 (optI (primC T')))/\Turn w w' base tb N V T T' D D'/\(∀ k,k<T.m->0<=T'.be k)/\Halts pstepF T T' /\
  ((primC T'=none/\∀ k,k<T.n->0<=T'.d k)∨∃ c:Nat,primC T'=some c/\c<T.n/\T'.d c<0/\∀ k,k<T.m->T'.al k c<=0)
theorem primal_any (w:World) (base tb N s:Nat) (V:TabV) (T:TabF) (D:Tb) (h:TabAt w base tb V T) (hr:Rep N T D) (hb:∀ k,k<T.m->0<=T.be k) (hB:∀ E,Wf N E->Equ N D E->Bnd N E s) (hs1:2<=s) (hs2:s<=200000) :
  Calls Tryz.prog 141 #[.pointer (some ⟨tb,0,none⟩)] w (PrimPost w base tb N V T D):=by
 have hxa:=(Ext.refl (fun _=>False) w).alloc (.cells #[.pointer (some ⟨tb,0,none⟩)] 102)
 have HT:=bH (bI (h.keep hxa) (bI hr (bI hB hxa)))
 have HBe:=bH hb
 have HO:∀ k,V.S T.m k->k<w.heap.size:=h.old
 clear h hr hB hxa hb
 have ht0:(w.alloc (.cells #[.pointer (some ⟨tb,0,none⟩)] 102)).cell? ⟨w.heap.size,0,none⟩=some (.pointer (some ⟨tb,0,none⟩)):=cell_of_cells (blk_alloc_at _ _) 0
 have HTC:=bH HO
 clear HO
 go_enter Tryz.func141,Tryz.ntmps141
 go_wp2_with fail
 generalize w.alloc (.cells #[.pointer (some ⟨tb,0,none⟩)] 102)=w2 at *
 obtain ⟨tc,htc⟩:∃ tc,w.heap.size=tc:=⟨_,rfl⟩
 rw [htc] at HTC ht0 ⊢
 clear htc
 obtain ⟨B,hBp⟩:∃ B,2 ^ N=B:=⟨_,rfl⟩
 have HBp:=bH hBp
 clear hBp
 have HS:=bH (show PrSt N T D 0 T D/\TabAt w2 base tb V T/\Ext (V.S T.m) w w2/\(∀ v l,Rds w v l->Rds w2 v l)/\w2.cell? ⟨tc,0,none⟩=some (.pointer (some ⟨tb,0,none⟩)) from
  ⟨PrSt.start HT.out.2.1 HBe.out,HT.out.1,HT.out.2.2.2.none,fun v l k=>k.keep HT.out.2.2.2,ht0⟩)
 clear ht0
 go_loopg [3,4] B (fun gg v3 v4 wr=>∃ (k:Nat) (T':TabF) (D':Tb),gg=B - k/\PrSt N T D k T' D'/\T'.n=T.n/\T'.m=T.m/\TabAt wr base tb V T'/\Ext (V.S T.m) w wr/\(∀ v l,Rds w v l->Rds wr v l)/\wr.cell? ⟨tc,0,none⟩=some (.pointer (some ⟨tb,0,none⟩)))
 case atStart=>exact ⟨0,T,D,rfl,HS.out.1,rfl,rfl,HS.out.2⟩
 case round =>
  clear HS
  obtain ⟨k,T',D',rfl,hdu,hn',hm',htab,hext,hrds,htc⟩:=hrel
  have hsm:=htab.small
  have hsz:=hdu.rep.sz (HT.out.2.2.1 D' hdu.short.2.2.1 hdu.short.2.1)
  have HL:=bH (show Calls Tryz.prog 172 #[V.fr,.func (.func 181) #[] #[.pointer (some ⟨tc,0,none⟩)],.func (.func 174) #[] #[]] wr (fun r w'=>r=.returned (.int .i64 (optI (primC T')))/\XF wr w') from least_any wr V.fr T'.n T'.fr 181 174 #[.pointer (some ⟨tc,0,none⟩)] #[] (fun k=>decide ((T'.d k).num.sign<0)) (fun _=>0) 1 (htab.fr.nrow (by omega)) (by omega)
   (enters_of Tryz.func181 (by kernel_rfl) rfl) (enters_of Tryz.func174 (by kernel_rfl) rfl)
   (fun W hW k hk=>primal1_any W base tb tc V T' k s (htab.keep hW) hk (cell_keep htc hW) (hsz.2.2 k hk) (by omega))
   (fun W hW k hk _=>none_any W k) (fun _ _ _=>Sz.zero) (Nat.le_refl 1) (by decide))
  have b5:=cellq htab.box 5 rfl
  have HR:=bH (bI hdu (bI htab (bI hext (bI hrds hsz))))
  clear hdu htab hext hrds hsz
  go_upto_region 2 with (go_at_call 172; refine HL.out.mono ?_; rintro r3 w3 ⟨rfl,hx3⟩)
  have hxa:=(Ext.refl (fun _=>False) w3).alloc (.cells #[.int .i64 (optI (primC T'))] 3)
  have hic:(w3.alloc (.cells #[.int .i64 (optI (primC T'))] 3)).cell? ⟨w3.heap.size,0,none⟩=some (.int .i64 (optI (primC T'))):=cell_of_cells (blk_alloc_at _ _) 0
  have HR2:=bH (show PrSt N T D k T' D'/\TabAt (w3.alloc (.cells #[.int .i64 (optI (primC T'))] 3)) base tb V T'/\Ext (V.S T.m) w (w3.alloc (.cells #[.int .i64 (optI (primC T'))] 3))/\(∀ v l,Rds w v l->Rds (w3.alloc (.cells #[.int .i64 (optI (primC T'))] 3)) v l) from
   ⟨HR.out.1,(HR.out.2.1.keep hx3).keep hxa,HR.out.2.2.1.trans (hx3.trans hxa).none,fun v l k=>((HR.out.2.2.2.1 v l k).keep hx3).keep hxa⟩)
  have hszs:=HR.out.2.2.2.2
  replace htc:=cell_keep (cell_keep htc hx3) hxa
  clear HR HL hxa b5 hx3
  generalize w3.alloc (.cells #[.int .i64 (optI (primC T'))] 3)=w4 at *
  generalize w3.heap.size=ic at *
  cases hI:primC T' with
  | none =>
   rw [hI] at hic
   have hic':w4.cell? ⟨ic,0,none⟩=some (.int .i64 (-1)):=hic
   clear hic
   have HP:=bH (show PrimPost w base tb N V T D (.returned (.int .i64 (-1))) w4 from ⟨T',D',by rw [hI]; rfl,⟨HR2.out.2.1,hn',hm',HR2.out.1.rep,HR2.out.1.short.2.1,HR2.out.2.2.1,HR2.out.2.2.2⟩,fun j hj=>HR2.out.1.rhss j (by omega),HR2.out.1.halt1 hI,.inl ⟨hI,fun k hk=>primC_none hI k (by omega)⟩⟩)
   go_wp2
   exact bodyPost_ret (v:=.int .i64 (-1)) (by simp [results,Tryz.results141,go_sem]) rfl HP.out
  | some c =>
   rw [hI] at hic
   have hic':w4.cell? ⟨ic,0,none⟩=some (.int .i64 (c:Int)):=hic
   clear hic
   obtain ⟨hcn,hdc⟩:=primC_some hI
   have i0:¬ ((c:Int)<0):=by omega
   have HC:=bH (show Calls Tryz.prog 172 #[V.ba,.func (.func 182) #[] #[.pointer (some ⟨tc,0,none⟩),.pointer (some ⟨ic,0,none⟩)],.func (.func 183) #[] #[.pointer (some ⟨tc,0,none⟩),.pointer (some ⟨ic,0,none⟩)]] w4 (fun r w'=>r=.returned (.int .i64 (optI (primI T' c)))/\XF w4 w') from
    least_any w4 V.ba T'.m T'.ba 182 183 #[.pointer (some ⟨tc,0,none⟩),.pointer (some ⟨ic,0,none⟩)] #[.pointer (some ⟨tc,0,none⟩),.pointer (some ⟨ic,0,none⟩)] (fun k=>decide (0<(T'.al k c).num.sign)) (fun k=>T'.be k / T'.al k c) (s+s) (HR2.out.2.1.ba.nrow (by omega)) (by omega)
    (enters_of Tryz.func182 (by kernel_rfl) rfl) (enters_of Tryz.func183 (by kernel_rfl) rfl)
    (fun W hW k hk=>primal2_any W base tb tc ic V T' k c s (HR2.out.2.1.keep hW) hk hcn (cell_keep htc hW) (cell_keep hic' hW) (hszs.1 k c hk hcn) (by omega))
    (fun W hW k hk ha=>primal3_any W base tb tc ic V T' k c s (HR2.out.2.1.keep hW) hk hcn (cell_keep htc hW) (cell_keep hic' hW) (hszs.1 k c hk hcn) (hszs.2.1 k hk) (fun e=>by
     have:=(sign_gt _).1 (of_decide_eq_true ha)
     rw [e] at this; exact lt_irr this) (by omega) (by omega))
    (fun k hk _=>(hszs.2.1 k hk).div (hszs.1 k c hk hcn) (by omega)) (by omega) (by omega))
   have b4:=cellq HR2.out.2.1.box 4 rfl
   go_upto_region 5 with (go_at_call 172; refine HC.out.mono ?_; rintro r5 w5 ⟨rfl,hx5⟩)
   have HR3:=bH (show TabAt w5 base tb V T'/\Ext (V.S T.m) w w5/\(∀ v l,Rds w v l->Rds w5 v l) from ⟨HR2.out.2.1.keep hx5,HR2.out.2.2.1.trans hx5.none,fun v l k=>(HR2.out.2.2.2 v l k).keep hx5⟩)
   replace htc:=cell_keep htc hx5
   replace hic':=cell_keep hic' hx5
   clear b4 hx5 HC
   cases hC:primI T' c with
   | none =>
    have HP:=bH (show PrimPost w base tb N V T D (.returned (.int .i64 c)) w5 from ⟨T',D',by rw [hI]; rfl,⟨HR3.out.1,hn',hm',HR2.out.1.rep,HR2.out.1.short.2.1,HR3.out.2.1,HR3.out.2.2⟩,fun j hj=>HR2.out.1.rhss j (by omega),HR2.out.1.halt2 hI hC,.inr ⟨c,hI,by omega,hdc,fun k hk=>primI_none hC k (by omega)⟩⟩)
    go_wp2
    exact bodyPost_ret (v:=.int .i64 c) (by simp [results,Tryz.results141,go_sem]) rfl HP.out
   | some i =>
    obtain ⟨g1,g2,g3,g4⟩:=HR2.out.1.next hI hC
    have HV:=bH (pivot_any w5 base tb V T' i c s HR3.out.1 g1 g2 g3 hs1 hs2 hszs.1 hszs.2.1 hszs.2.2)
    have c0:¬ ((i:Int)<0):=by omega
    have hlt:=HR2.out.1.short.1
    rw [HBp.out] at hlt
    have HG4:=bH g4
    clear g4
    go_wp2_with (go_at_call 178; refine HV.out.mono ?_; rintro r6 w6 ⟨rfl,ht6,hx6,hr6⟩)
    go_roundg (B - (k+1))
    case measure=>omega
    case rel =>
     rw [hm'] at hx6
     exact ⟨k+1,_,_,rfl,HG4.out,hn',hm',ht6,HR3.out.2.1.trans hx6,fun v l k=>hr6 v l (HR3.out.2.2 v l k),(hx6.cell (p:=⟨tc,0,none⟩) (World.block_lt_of_cell? _ _ htc) (fun e=>by have:=HTC.out tc e; omega)).trans htc⟩
structure MoreV where
 T:TabF
 us:List LimV
 b:Bool
def moreStep (p:ProgV) (z:List Rat) (dir:Bool) (st:MoreV) (l:LimV):MoreV:=if !memL st.us l && decide ((slackQ p l z dir).num.sign<0) then ⟨useF p st.T st.us l,st.us++[l],true⟩ else st
def moreR (p:ProgV) (z:List Rat) (dir:Bool) (ls:List LimV) (st:MoreV):MoreV:=ls.foldl (moreStep p z dir) st
structure Good (p:ProgV) (ls:List LimV) (T:TabF) (us:List LimV):Prop where
 rep:∃ D,Rep (p.vars.length+us.length) T D/\Equ (p.vars.length+us.length) (baseT p us) D
 nd:us.Nodup
 sub:∀ l ∈ us,l ∈ ls
def BndAll (p:ProgV) (ls:List LimV) (s:Nat):Prop:=∀ us:List LimV,us.length<=ls.length->AllOk p us->∀ D,Wf (p.vars.length+us.length) D->Equ (p.vars.length+us.length) (baseT p us) D->Bnd (p.vars.length+us.length) D s
section
variable {p:ProgV} {ls us:List LimV} {T:TabF} {l:LimV} {s:Nat} {z:List Rat} {dir:Bool}
theorem nodup_len {us ls:List LimV} (hn:us.Nodup) (hs:∀ l ∈ us,l ∈ ls):us.length<=ls.length:=by
 refine Classical.byContradiction fun hlt=>?_
 have hlt:ls.length<us.length:=by omega
 have hidx:∀ i,∃ j,i<us.length->j<ls.length/\ls[j]?=us[i]?:=fun i=>by
  by_cases hi:i<us.length
  ·obtain ⟨j,hj,e⟩:=List.getElem_of_mem (hs _ (List.getElem_mem hi))
   exact ⟨j,fun _=>⟨hj,by rw [List.getElem?_eq_getElem hj,List.getElem?_eq_getElem hi,e]⟩⟩
  ·exact ⟨0,fun h=>absurd h hi⟩
 obtain ⟨i,j,hij,hj,e⟩:=pig ls.length (fun i=>Classical.choose (hidx i)) (fun i hi=>((Classical.choose_spec (hidx i)) (by omega)).1)
 have h1:=(Classical.choose_spec (hidx i) (by omega)).2
 have h2:=(Classical.choose_spec (hidx j) (by omega)).2
 have e:Classical.choose (hidx i)=Classical.choose (hidx j):=e
 rw [e] at h1
 have h3:us[i]?=us[j]?:=h1.symm.trans h2
 rw [List.getElem?_eq_getElem (by omega),List.getElem?_eq_getElem (by omega)] at h3
 exact (List.pairwise_iff_getElem.1 hn) i j (by omega) (by omega) hij (Option.some.inj h3)
theorem Good.len (h:Good p ls T us):us.length<=ls.length:=nodup_len h.nd h.sub
theorem Good.use (h:Good p ls T us) (hv:validB p=true) (hl:LimOk p l) (hin:l ∈ ls) (hnew:memL us l=false):Good p ls (useF p T us l) (us++[l]):=by
 obtain ⟨D,hr,he⟩:=h.rep
 have hlen:(us++[l]).length=us.length+1:=by simp
 have hni:l ∉ us:=fun hm=>by rw [memL_iff.2 hm] at hnew; cases hnew
 refine ⟨⟨useT (p.vars.length+us.length) D (limA p l) (limR p l),?_,?_⟩,?_,fun x hx=>?_⟩
 ·rw [hlen]; exact hr.use hv hl
 ·rw [hlen]
  exact (base_use hv us hl).trans (he.use (base_wf p us) hr.wf _ _)
 ·rw [List.nodup_append]
  exact ⟨h.nd,by simp,fun a ha b hb e=>by simp at hb; rw [hb] at e; rw [e] at ha; exact hni ha⟩
 ·rcases List.mem_append.1 hx with hx | hx
  ·exact h.sub x hx
  ·simp at hx; rw [hx]; exact hin
theorem Good.sz (h:Good p ls T us) (hok:AllOk p us) (hB:BndAll p ls s):(∀ k j,k<T.m->j<T.n->Sz (T.al k j) s)/\(∀ k,k<T.m->Sz (T.be k) s)/\∀ j,j<T.n->Sz (T.d j) s:=by
 obtain ⟨D,hr,he⟩:=h.rep
 exact hr.sz (hB us h.len hok D hr.wf he)
theorem Good.idx (h:Good p ls T us):∀ v,v<p.vars.length->idxN T.fr v T.n=none->∃ r,idxN T.ba v T.m=some r:=fun v hv hn=>by
 obtain ⟨D,hr,_⟩:=h.rep
 exact hr.idx (by omega) hn
theorem moreR_next (i:Nat) (hi:i<ls.length) (st:MoreV):moreR p z dir (ls.take (i+1)) st=moreStep p z dir (moreR p z dir (ls.take i) st) (ls.getD i lim0):=by
 unfold moreR
 rw [List.take_add_one,List.foldl_append,List.getElem?_eq_getElem hi,List.getD_eq_getElem?_getD,List.getElem?_eq_getElem hi]
 rfl
theorem more_facts:∀ (ls:List LimV) (st:MoreV),(∃ add,(moreR p z dir ls st).us=st.us++add/\((moreR p z dir ls st).b=true↔st.b=true∨add≠[])) /\
  ((moreR p z dir ls st).us=st.us->(moreR p z dir ls st).T=st.T/\∀ l ∈ ls,l ∉ st.us->0<=slackQ p l z dir)
 | [],st=>⟨⟨[],by simp [moreR],by simp [moreR]⟩,fun _=>⟨rfl,fun l hl=>by cases hl⟩⟩
 | l :: ls,st=>by
  have hun:moreR p z dir (l :: ls) st=moreR p z dir ls (moreStep p z dir st l):=rfl
  obtain ⟨⟨add,h1,h2⟩,h3⟩:=more_facts ls (moreStep p z dir st l)
  rw [hun]
  by_cases hc:(!memL st.us l && decide ((slackQ p l z dir).num.sign<0))=true
  ·have hst:moreStep p z dir st l=⟨useF p st.T st.us l,st.us++[l],true⟩:=if_pos hc
   rw [hst] at h1 h2 h3 ⊢
   refine ⟨⟨l :: add,by rw [h1]; simp,by rw [h2]; simp⟩,fun he=>?_⟩
   rw [h1] at he
   have:=congrArg List.length he
   simp at this
  ·have hst:moreStep p z dir st l=st:=if_neg hc
   rw [hst] at h1 h2 h3 ⊢
   refine ⟨⟨add,h1,h2⟩,fun he=>⟨(h3 he).1,fun x hx hn=>?_⟩⟩
   rcases List.mem_cons.1 hx with rfl | hx
   ·refine Rat.not_lt.1 fun hlt=>hc ?_
    have hm:memL st.us x=false:=by
     cases hm:memL st.us x with
     | false=>rfl
     | true=>exact absurd (memL_iff.1 hm) hn
    rw [hm,decide_eq_true ((sign_lt _).2 hlt)]; rfl
   ·exact (h3 he).2 x hx hn
theorem more_no (h:(moreR p z dir ls ⟨T,us,false⟩).b=false):(moreR p z dir ls ⟨T,us,false⟩).T=T/\(moreR p z dir ls ⟨T,us,false⟩).us=us/\∀ l ∈ ls,l ∉ us->0<=slackQ p l z dir:=by
 obtain ⟨⟨add,h1,h2⟩,h3⟩:=more_facts (p:=p) (z:=z) (dir:=dir) ls ⟨T,us,false⟩
 have ha:add=[]:=Classical.byContradiction fun hne=>by
  have:=h2.2 (.inr hne)
  rw [h] at this; cases this
 rw [ha,List.append_nil] at h1
 exact ⟨(h3 h1).1,h1,(h3 h1).2⟩
theorem more_yes (h:(moreR p z dir ls ⟨T,us,false⟩).b=true):us.length<(moreR p z dir ls ⟨T,us,false⟩).us.length:=by
 obtain ⟨⟨add,h1,h2⟩,h3⟩:=more_facts (p:=p) (z:=z) (dir:=dir) ls ⟨T,us,false⟩
 have ha:add≠[]:=(h2.1 h).resolve_left (by simp)
 rw [h1,List.length_append]
 have:=List.length_pos_iff.2 ha
 show us.length<us.length+_
 omega
end
theorem lim_coef {p:ProgV} {l:LimV} (hv:validB p=true) (hl:LimOk p l) (i:Nat) (hi:i<(limTs p l).length):InR ((limTs p l).getD i term0).coef:=by
 have h1:=kco_in hv hl i hi
 unfold kco limSg at h1
 constructor
 ·split at h1
  ·omega
  ·split at h1 <;> omega
 ·split at h1
  ·omega
  ·split at h1 <;> omega
theorem limBd_sz {p:ProgV} {l:LimV} (hv:validB p=true) (hl:LimOk p l):Sz (limBd p l) ((limTs p l).length*5+6):=by
 have hcase:l.row<0/\l.var<p.vars.length∨¬ l.row<0/\l.row.toNat<p.rows.length:=by
  rcases hl with ⟨g1,g2,_⟩ | ⟨g1,g2,_⟩
  ·exact .inl ⟨by omega,g2⟩
  ·exact .inr ⟨by omega,g2⟩
 unfold limBd
 rcases hcase with ⟨g1,g2⟩ | ⟨g1,g2⟩
 ·obtain ⟨⟨q1,q2⟩,⟨q3,q4⟩,-⟩:=var_lims (valid_var hv g2)
  rw [if_pos g1]
  exact (Sz.int ⟨by omega,by omega⟩).mono (by omega)
 ·have hb:=valid_row hv g2
  unfold rowB at hb
  simp only [Bool.and_eq_true] at hb
  have hb2:=limB_in hb.1.1.2
  rw [if_neg g1]
  have hs:Sz (loSum p (limTs p l)) (1+(limTs p l).length*(2+3)):=sum_size (f:=fun k=>((limTs p l).getD k term0).coef) (g:=fun k=>((p.v ((limTs p l).getD k term0).var.toNat).lo:Rat)) (n:=(limTs p l).length) (fun k hk=>lim_coef hv hl k hk) (fun k hk=>by
   obtain ⟨h0,h1⟩:=hl.terms hv k hk
   obtain ⟨⟨q1,q2⟩,-⟩:=var_lims (valid_var hv (show ((limTs p l).getD k term0).var.toNat<p.vars.length by omega))
   exact Sz.int ⟨by omega,by omega⟩) _ (Nat.le_refl _)
  exact ((Sz.int (k:=(p.r l.row.toNat).bound) ⟨by omega,by omega⟩).sub hs).mono (by omega)
theorem slackQ_sz {p:ProgV} {l:LimV} {z:List Rat} {L:Nat} {dir:Bool} (hv:validB p=true) (hl:LimOk p l) (h2:2<=L) (hz:∀ i:Int,Sz (atQ z i) L) (hL:(limTs p l).length*(L+8)+L+20<=2000000):Sz (slackQ p l z dir) 4000000:=by
 have hb:Sz (if dir then 0 else limBd p l) ((limTs p l).length*5+6):=by
  cases dir with
  | true=>exact Sz.zero.mono (by omega)
  | false=>exact limBd_sz hv hl
 have hsg:Sz (limSg l:Rat) 2:=by
  unfold limSg
  split
  ·exact Sz.int ⟨by omega,by omega⟩
  ·split
   ·exact Sz.int ⟨by omega,by omega⟩
   ·exact Sz.int ⟨by omega,by omega⟩
 have h1:=Nat.mul_add (limTs p l).length L 8
 have h3:=Nat.mul_add (limTs p l).length L 3
 unfold slackQ
 exact ((hb.sub (dotQ_sz (lim_coef hv hl) hz)).mul hsg).mono (by omega)
structure MoreAt (w0 w w':World) (tb:Nat) (V V':TabV) (T:TabF) (p:ProgV) (ls:List LimV) (R:MoreV):Prop where
 tab:TabS w0 w' tb V' R.T p R.us ls
 good:Good p ls R.T R.us
 ext:Ext (V.Big tb T.m) w w'
 rds:∀ u d,Rds w u d->Rds w' u d
 lies:∀ k,V'.Big tb R.T.m k->V.Big tb T.m k∨w.heap.size<=k
 l:V'.l=V.l
theorem MoreAt.keep {w0 w w' w'':World} {tb:Nat} {V V':TabV} {T:TabF} {p:ProgV} {ls:List LimV} {R:MoreV} (h:MoreAt w0 w w' tb V V' T p ls R) (hx:XF w' w''):MoreAt w0 w w'' tb V V' T p ls R :=
 ⟨h.tab.keep hx,h.good,h.ext.trans hx.none,fun u d k=>(h.rds u d k).keep hx,h.lies,h.l⟩
theorem MoreAt.use {w0 w w' w'':World} {tb:Nat} {V V' V'':TabV} {T:TabF} {p:ProgV} {ls:List LimV} {R:MoreV} {l:LimV} (h:MoreAt w0 w w' tb V V' T p ls R) (hl:LimOk p l) (hin:l ∈ ls) (hnew:memL R.us l=false) (h1:TabS w0 w'' tb V'' (useF p R.T R.us l) p (R.us++[l]) ls) (h2:Ext (V'.Big tb R.T.m) w' w'') (h3:∀ u d,Rds w' u d->Rds w'' u d) (h4:∀ k,V''.Big tb (R.T.m+1) k->V'.Big tb R.T.m k∨w'.heap.size<=k) (h5:V''.l=V'.l) :
  MoreAt w0 w w'' tb V V'' T p ls ⟨useF p R.T R.us l,R.us++[l],true⟩:=by
 refine ⟨h1,h.good.use h.tab.valid hl hin hnew,h.ext.trans' h2 (fun k hk e=>?_),fun u d k=>h3 _ _ (h.rds u d k),fun k hk=>?_,h5.trans h.l⟩
 ·rcases h.lies k e with e2 | e2
  ·exact e2
  ·omega
 ·rcases h4 k hk with e | e
  ·exact h.lies k e
  ·exact .inr (Nat.le_trans h.ext.size e)
theorem more_any (w0 w:World) (tb s zb:Nat) (V:TabV) (T:TabF) (p:ProgV) (us ls:List LimV) (f:Nat->Rat) (dir:Bool) (h:TabS w0 w tb V T p us ls) (hg:Good p ls T us) (hB:BndAll p ls s) (hz:RArr w zb p.vars.length f) (hzn:¬ V.Big tb T.m zb) (hfz:∀ i,i<p.vars.length->Sz (f i) s) (h2s:2<=s) (hs:s<=200000)
  (hok:∀ l ∈ ls,LimOk p l) (hls:ls.length<1000) (hT:∀ l ∈ ls,(limTs p l).length*(s+8)+s+20<=2000000) :
  Calls Tryz.prog 139 #[.pointer (some ⟨tb,0,none⟩),.slice (some ⟨zb,0,none⟩) p.vars.length p.vars.length,.bool dir] w (fun r w'=>∃ V',r=.returned (.bool (moreR p (listTo p.vars.length f) dir ls ⟨T,us,false⟩).b)/\MoreAt w0 w w' tb V V' T p ls (moreR p (listTo p.vars.length f) dir ls ⟨T,us,false⟩)):=by
 have hsn:=h.small.1
 have hnn:=h.hn
 have hzl:zb<w.heap.size:=hz.lt
 have HL:=bH (bI h.rest.l (bI hok hT))
 have hbox:=h.box
 obtain ⟨lo,lc,hlv⟩:=h.rest.l.shape
 rw [hlv] at hbox
 have c9:=cellq hbox 9 rfl
 have HLv:=bH hlv
 have HZ:=bH (bI hz (bI hzn (bI hfz (show p.vars.length<=maxLen by unfold maxLen; omega))))
 have HB:=bH hB
 have HSt:=bH (show MoreAt w0 w w tb V V T p ls ⟨T,us,false⟩ from ⟨h,hg,Ext.refl _ _,fun _ _ k=>k,fun k hk=>.inl hk,rfl⟩)
 obtain ⟨zl,hzl'⟩:∃ zl,listTo p.vars.length f=zl:=⟨_,rfl⟩
 have HZl:=bH hzl'
 rw [hzl']
 clear h hg hB hz hzn hfz hok hT hbox hlv hzl' hnn
 go_enter Tryz.func139,Tryz.ntmps139
 go_wp2_with fail
 go_loopg [15,7,9] ls.length (fun gg v15 v7 v9 wr=>∃ (i:Nat) (V':TabV),i<=ls.length/\gg=ls.length - i/\v15=.int .i64 i/\v7=.bool (moreR p zl dir (ls.take i) ⟨T,us,false⟩).b/\MoreAt w0 w wr tb V V' T p ls (moreR p zl dir (ls.take i) ⟨T,us,false⟩))
 case atStart=>exact ⟨0,V,Nat.zero_le _,rfl,rfl,rfl,HSt.out⟩
 case round =>
  clear HSt
  obtain ⟨i,V',hi,rfl,rfl,rfl,hm⟩:=hrel
  have HM:=bH hm
  clear hm
  by_cases hin:i<ls.length
  ·have i0:(i:Int)<(ls.length:Int):=by omega
   have i1:(0:Int)<=(i:Int):=by omega
   have hnx:=moreR_next (p:=p) (z:=zl) (dir:=dir) i hin ⟨T,us,false⟩
   have hlm:ls.getD i lim0 ∈ ls:=by rw [getD_lt hin]; exact List.getElem_mem hin
   obtain ⟨lg,lcap,hlv',e0,e1,e2⟩:=HM.out.tab.rest.l.at hin
   have hlv2:=HLv.out
   rw [HM.out.l,hlv2] at hlv'
   cases hlv'
   have hlok:=HL.out.2.1 _ hlm
   have hlT:=HL.out.2.2 _ hlm
   generalize ls.getD i lim0=l at *
   obtain ⟨row,var,tur⟩:=l
   have HNx:=bH hnx
   have HLi:=bH (bI hlok (bI hlT hlm))
   clear hnx hlok hlT hlm hlv2
   have hxa:=(Ext.refl (fun _=>False) wr).alloc (.cells #[.int .i64 row,.int .i64 var,.bool tur] 142)
   have hb1:=blk_alloc_at wr (.cells #[.int .i64 row,.int .i64 var,.bool tur] 142)
   have HM5:=bH (HM.out.keep hxa)
   have l0:=cellq hb1 0 rfl
   have l1:=cellq hb1 1 rfl
   have l2:=cellq hb1 2 rfl
   clear hxa HM
   go_upto_region 5 with fail
   generalize wr.alloc (.cells #[.int .i64 row,.int .i64 var,.bool tur] 142)=w5 at *
   generalize wr.heap.size=lb at *
   clear e0 e1 e2 hb1
   obtain ⟨R,hR⟩:∃ R,moreR p zl dir (ls.take i) ⟨T,us,false⟩=R:=⟨_,rfl⟩
   rw [hR] at HM5 HNx ⊢
   clear hR
   obtain ⟨mb,es,clock,hmp,hmb,hmk,hlmap,hst⟩:=HM5.out.tab.rest.mp
   have hbox:=HM5.out.tab.box
   rw [hmp] at hbox
   have c3:=cq (cellq hbox 3 rfl)
   have hlk:(Instr.lookup 137 (.map (some mb)) (.agg #[.int .i64 row,.int .i64 var,.bool tur]) false).run Tryz.prog w5.drew=.ok (.bool (memL R.us ⟨row,var,tur⟩)) w5.drew:=run_lookup_lim (w:=w5.drew) hmk hlmap ⟨row,var,tur⟩
   clear hbox hmp hmb hmk hlmap hst
   have l0':=l0
   have l1':=l1
   have l2':=l2
   replace l0:=cq l0
   replace l1:=cq l1
   replace l2:=cq l2
   obtain ⟨mm,hmm⟩:∃ mm,memL R.us ⟨row,var,tur⟩=mm:=⟨_,rfl⟩
   have HMm:=bH hmm
   rw [hmm] at hlk
   clear hmm
   cases mm with
   | true =>
    have HNs:=bH (show moreR p zl dir (ls.take (i+1)) ⟨T,us,false⟩=R from by
     rw [HNx.out]; unfold moreStep; rw [HMm.out]; exact if_neg (by simp))
    refine wp_region_held_drew (S:=(XF w5)) (by kernel_rfl) ((Ext.refl _ w5).drew) (fun hHeld=>?_)
    refine ht 0 (h:=(ht 1 (h:=(ht 2 (h:=(ht 3 (h:=(ht 4 (h:=?_)))))))))
    (try go_frame)
    refine hst 5 (h:=fun K hK=>?_)
    go_simp
    refine hK.out _ _ (hHeld) (fun hHeld=>?_)
    clear hK K
    (try go_frame)
    refine ht 6 (h:=(ht 7 (h:=?_)))
    (try go_frame)
    refine hk 8 (h:=?_)
    (try go_frame)
    refine hk 9 (h:=?_)
    (try go_frame)
    refine hk 10 (h:=?_)
    (try go_frame)
    refine hk 11 (h:=?_)
    (try go_frame)
    refine hk 12 (h:=?_)
    (try go_frame)
    refine hk 13 (h:=?_)
    (try go_frame)
    refine hk 14 (h:=(ht 15 (h:=?_)))
    (try go_frame)
    refine wpAnyH_done (by kernel_rfl) ?_ _
    have HP:=bH (HM5.out.keep hHeld)
    clear HM5 l0 l1 l2 hlk c3 hHeld
    go_wp2
    go_roundg (ls.length - (i+1))
    case measure=>omega
    case rel=>exact ⟨i+1,V',by omega,rfl,by go_num,by rw [HNs.out],by rw [HNs.out]; exact HP.out⟩
   | false =>
    have hzr:RArr w5 zb p.vars.length f:=HZ.out.1.past HM5.out.ext HZ.out.2.1 HM5.out.rds
    have HSl:=bH (fun W (hW:XF w5 W)=>show Calls Tryz.prog 179 #[.pointer (some ⟨tb,0,none⟩),.agg #[.int .i64 row,.int .i64 var,.bool tur],.slice (some ⟨zb,0,none⟩) p.vars.length p.vars.length,.bool dir] W (RatPost W (slackQ p ⟨row,var,tur⟩ zl dir)) from by
     have:=slackAt_any W tb p ⟨row,var,tur⟩ (some ⟨zb,0,none⟩) p.vars.length p.vars.length (listTo p.vars.length f) s dir (HM5.out.tab.prg.keep hW) HLi.out.1 ((hzr.keep hW).rats HZ.out.2.2.1 (Nat.le_refl _) HZ.out.2.2.2) h2s HLi.out.2.1
     rw [HZl.out] at this; exact this)
    clear hzr
    have hsz:Sz (slackQ p ⟨row,var,tur⟩ zl dir) 4000000:=by
     rw [<- HZl.out]
     exact slackQ_sz HM5.out.tab.valid HLi.out.1 h2s (atQ_listTo_sz HZ.out.2.2.1 (by omega)) HLi.out.2.1
    have HSg:=bH (fun W u (hu:IsRat W u (slackQ p ⟨row,var,tur⟩ zl dir))=>rsign_any W u _ 4000000 (hu.reads hsz) (by omega))
    clear hsz
    obtain ⟨sg,hsg⟩:∃ sg,(slackQ p ⟨row,var,tur⟩ zl dir).num.sign=sg:=⟨_,rfl⟩
    have HSn:=bH hsg
    rw [hsg] at HSg
    clear hsg
    refine wp_region_held_drew (S:=(XF w5)) (by kernel_rfl) ((Ext.refl _ w5).drew) (fun hHeld=>?_)
    refine ht 0 (h:=(ht 1 (h:=(ht 2 (h:=(ht 3 (h:=(ht 4 (h:=?_)))))))))
    (try go_frame)
    refine hst 5 (h:=fun K hK=>?_)
    go_simp
    refine hK.out _ _ (hHeld) (fun hHeld=>?_)
    clear hK K
    (try go_frame)
    refine ht 6 (h:=(ht 7 (h:=?_)))
    (try go_frame)
    refine ht 8 (h:=?_)
    (try go_frame)
    refine ht 9 (h:=?_)
    (try go_frame)
    refine ht 10 (h:=?_)
    (try go_frame)
    refine ht 11 (h:=?_)
    (try go_frame)
    refine hst 12 (h:=fun K hK=>?_)
    (go_simp; go_at_call 179; (with_reducible refine (HSl.out _ hHeld).mono ?_); rintro q1 w11 ⟨v11,rfl,h11,hx11⟩; have hX1:=hHeld.trans hx11; have hT:=HSg.out _ _ h11; obtain ⟨n11,a11,l11,c11,a11',l11',c11',rfl⟩:=h11.shape)
    refine hK.out _ _ (hX1) (fun hHeld=>?_)
    clear hK K
    (try go_frame)
    refine hst 13 (h:=fun K hK=>?_)
    (go_simp; go_at_call 51; (with_reducible refine hT.mono ?_); rintro q2 w12 ⟨rfl,hx12⟩; have hX2:=hX1.trans hx12)
    refine hK.out _ _ (hX2) (fun hHeld=>?_)
    clear hK K
    (try go_frame)
    refine ht 14 (h:=(ht 15 (h:=?_)))
    (try go_frame)
    refine wpAnyH_done (by kernel_rfl) ?_ _
    have HM6:=bH (HM5.out.keep hX2)
    replace l0:=l0 _ hX2
    replace l1:=l1 _ hX2
    replace l2:=l2 _ hX2
    clear hlk c3 HSl HSg hX1 hx11 h11 hx12 hHeld l0' l1' l2'
    by_cases hneg:sg<0
    ·have HNs:=bH (show moreR p zl dir (ls.take (i+1)) ⟨T,us,false⟩=⟨useF p R.T R.us ⟨row,var,tur⟩,R.us++[⟨row,var,tur⟩],true⟩ from by
      rw [HNx.out]; unfold moreStep; rw [HMm.out,HSn.out,decide_eq_true hneg]; rfl)
     obtain ⟨z1,z2,-⟩:=HM6.out.good.sz HM6.out.tab.oks HB.out
     have hlen:=HM6.out.good.len
     have HU:=bH (use_any w0 w12 tb s V' R.T p R.us ls ⟨row,var,tur⟩ HM6.out.tab HLi.out.1 HMm.out z1 z2 h2s hs HLi.out.2.1 HM6.out.good.idx (by rw [HM6.out.tab.hm]; omega))
     clear z1 z2 hlen
     go_wp2_with (go_at_call 180; refine HU.out.mono ?_; rintro r7 w7 ⟨V7,rfl,ht7,hx7,hr7,hlies7,hl7⟩)
     have HP:=bH (HM6.out.use HLi.out.1 HLi.out.2.2 HMm.out ht7 hx7 hr7 hlies7 hl7)
     clear HM6 HM5 HU ht7 hx7 hr7 hlies7 hl7
     go_roundg (ls.length - (i+1))
     case measure=>omega
     case rel=>exact ⟨i+1,V7,by omega,rfl,by go_num,by rw [HNs.out],by rw [HNs.out]; exact HP.out⟩
    ·have HNs:=bH (show moreR p zl dir (ls.take (i+1)) ⟨T,us,false⟩=R from by
      rw [HNx.out]; unfold moreStep; rw [HSn.out,decide_eq_false hneg]; exact if_neg (by simp))
     clear HM5
     go_wp2
     go_roundg (ls.length - (i+1))
     case measure=>omega
     case rel=>exact ⟨i+1,V',by omega,rfl,by go_num,by rw [HNs.out],by rw [HNs.out]; exact HM6.out⟩
  ·obtain rfl:i=ls.length:=by omega
   rw [List.take_length] at HM ⊢
   go_wp2
   exact bodyPost_ret (v:=.bool (moreR p zl dir ls ⟨T,us,false⟩).b) (by simp [results,Tryz.results139,go_sem]) rfl ⟨V',rfl,HM.out⟩
def distF (p:ProgV) (T:TabF):List Rat:=listTo p.vars.length (distN T.ba T.be T.m)
def rayF (p:ProgV) (T:TabF) (c:Nat):List Rat:=listTo p.vars.length (rayN T c T.m)
def ptF (p:ProgV) (T:TabF):List Rat:=listTo p.vars.length fun i=>distN T.ba T.be T.m i+((p.v i).lo:Rat)
def infV (T:TabF) (i k:Nat):Nat:=if k=T.n then T.ba i else T.fr k
def infW (T:TabF) (i k:Nat):Rat:=if k=T.n then 1 else T.al i k
def outInf (p:ProgV) (us:List LimV) (T:TabF) (i:Nat):OutV:=⟨1,0,[],listTo p.rows.length (multN p us (infV T i) (infW T i) (T.n+1)),[]⟩
def outOpt (p:ProgV) (us:List LimV) (T:TabF):OutV:=⟨0,costQ p (ptF p T),ptF p T,listTo p.rows.length (multN p us T.fr T.d T.n),[]⟩
def outUnb (p:ProgV) (T:TabF) (c:Nat):OutV:=⟨2,0,ptF p T,[],rayF p T c⟩
def goodF (T:TabF):Bool:=!hasNeg T.n T.d
inductive SolveR (p:ProgV) (ls:List LimV):TabF->List LimV->OutV->Prop
 | inf {T T1:TabF} {us:List LimV} {i:Nat}:Halts (dstepF (goodF T)) T T1->dualI T1=some i->SolveR p ls T us (outInf p us T1 i)
 | go1 {T T1:TabF} {us:List LimV} {R:MoreV} {o:OutV}:Halts (dstepF (goodF T)) T T1->dualI T1=none->R=moreR p (distF p T1) false ls ⟨T1,us,false⟩->R.b=true->SolveR p ls R.T R.us o->SolveR p ls T us o
 | go2 {T T1 T2:TabF} {us:List LimV} {R:MoreV} {o:OutV}:Halts (dstepF (goodF T)) T T1->dualI T1=none->(moreR p (distF p T1) false ls ⟨T1,us,false⟩).b=false->Halts pstepF T1 T2->R=moreR p (distF p T2) false ls ⟨T2,us,false⟩->R.b=true->SolveR p ls R.T R.us o->SolveR p ls T us o
 | opt {T T1 T2:TabF} {us:List LimV}:Halts (dstepF (goodF T)) T T1->dualI T1=none->(moreR p (distF p T1) false ls ⟨T1,us,false⟩).b=false->Halts pstepF T1 T2->(moreR p (distF p T2) false ls ⟨T2,us,false⟩).b=false->primC T2=none->SolveR p ls T us (outOpt p us T2)
 | go3 {T T1 T2:TabF} {us:List LimV} {R:MoreV} {o:OutV} {c:Nat}:Halts (dstepF (goodF T)) T T1->dualI T1=none->(moreR p (distF p T1) false ls ⟨T1,us,false⟩).b=false->Halts pstepF T1 T2->(moreR p (distF p T2) false ls ⟨T2,us,false⟩).b=false->primC T2=some c->R=moreR p (rayF p T2 c) true ls ⟨T2,us,false⟩->R.b=true->SolveR p ls R.T R.us o->SolveR p ls T us o
 | unb {T T1 T2:TabF} {us:List LimV} {c:Nat}:Halts (dstepF (goodF T)) T T1->dualI T1=none->(moreR p (distF p T1) false ls ⟨T1,us,false⟩).b=false->Halts pstepF T1 T2->(moreR p (distF p T2) false ls ⟨T2,us,false⟩).b=false->primC T2=some c->(moreR p (rayF p T2 c) true ls ⟨T2,us,false⟩).b=false->SolveR p ls T us (outUnb p T2 c)
theorem RArr.crats {w:World} {b n:Nat} {f:Nat->Rat} (h:RArr w b n f) {L:Nat} (hs:∀ i,i<n->Sz (f i) L) (hm:n<=maxLen):CRats w (.slice (some ⟨b,0,none⟩) n n) (listTo n f) L:=by
 have hex:∀ i:Fin n,∃ c:RatC,w.cell? ⟨b,i*3,none⟩=some (.bool c.ng)/\w.cell? ⟨b,i*3+1,none⟩=some (.slice c.a1 c.m1 c.c1)/\w.cell? ⟨b,i*3+2,none⟩=some (.slice c.a2 c.m2 c.c2)/\IsRat w c.v (f i):=fun i=>by
  obtain ⟨neg,a1,m1,c1,a2,m2,c2,h1⟩:=h.cells i i.2
  exact ⟨⟨neg,a1,m1,c1,a2,m2,c2⟩,h1⟩
 have hget:∀ (i:Nat) (hi:i<n),(List.ofFn fun i:Fin n=>Classical.choose (hex i))[i]?=some (Classical.choose (hex ⟨i,hi⟩)):=fun i hi=>by rw [List.getElem?_ofFn,dif_pos hi]
 refine ⟨List.ofFn fun i:Fin n=>Classical.choose (hex i),by rw [List.length_ofFn,listTo_length],⟨some ⟨b,0,none⟩,n,by rw [List.length_map,List.length_ofFn],by rw [List.length_map,List.length_ofFn]; exact Nat.le_refl _,hm,(fun e=>by cases e),fun hp=>⟨b,0,rfl,h.lt,fun i r hi j u hu=>?_⟩⟩,fun i c q hc hq=>?_⟩
 ·rw [List.getElem?_map] at hi
  obtain ⟨x,hx,rfl⟩:=Option.map_eq_some_iff.1 hi
  have hin:i<n:=by have:=(List.getElem?_eq_some_iff.1 hx).1; rwa [List.length_ofFn] at this
  rw [hget i hin] at hx
  cases hx
  obtain ⟨e0,e1,e2,_⟩:=Classical.choose_spec (hex ⟨i,hin⟩)
  rw [Nat.zero_add]
  match j,hu with
  | 0,hu=>cases hu; exact e0
  | 1,hu=>cases hu; exact e1
  | 2,hu=>cases hu; exact e2
  | j+3,hu=>simp [RatC.cells] at hu
 ·have hin:i<n:=by have:=(List.getElem?_eq_some_iff.1 hc).1; rwa [List.length_ofFn] at this
  rw [hget i hin] at hc
  cases hc
  have:f i=q:=by
   simp [listTo,hin] at hq; exact hq
  rw [<- this]
  exact ⟨(Classical.choose_spec (hex ⟨i,hin⟩)).2.2.2,hs i hin⟩
theorem TabS.neBig {w0 w:World} {tb:Nat} {V:TabV} {T:TabF} {p:ProgV} {us ls:List LimV} (h:TabS w0 w tb V T p us ls) {b:Nat} {U:TypeId} (hb:TyB w b U) (h1:U≠3) (h2:U≠31) (h3:U≠32) (h4:U≠142) (h5:U≠140):¬ V.Big tb T.m b:=fun e=>by
 rcases e with e | e
 ·exact TyB.ne hb ⟨_,h.box⟩ h5 e
 ·exact h.rest.ne hb h1 h2 h3 h4 e rfl
theorem outBox_put {w:World} {ob:Nat} {a0 a1 a2 a3 a4 a5 a6:Value} (h:blk w ob=some (.cells #[a0,a1,a2,a3,a4,a5,a6] 34 (0,0))) (x0 x1 x2 x3 x4 x5 x6:Value) :
  blk (((((((w.setCell ⟨ob,0,none⟩ x0).setCell ⟨ob,1,none⟩ x1).setCell ⟨ob,2,none⟩ x2).setCell ⟨ob,3,none⟩ x3).setCell ⟨ob,4,none⟩ x4).setCell ⟨ob,5,none⟩ x5).setCell ⟨ob,6,none⟩ x6) ob=some (.cells #[x0,x1,x2,x3,x4,x5,x6] 34 (0,0)) /\
  Ext (fun k=>k=ob) w (((((((w.setCell ⟨ob,0,none⟩ x0).setCell ⟨ob,1,none⟩ x1).setCell ⟨ob,2,none⟩ x2).setCell ⟨ob,3,none⟩ x3).setCell ⟨ob,4,none⟩ x4).setCell ⟨ob,5,none⟩ x5).setCell ⟨ob,6,none⟩ x6):=by
 refine ⟨?_,(((((((Ext.refl (fun k=>k=ob) w).setCell (p:=⟨ob,0,none⟩) _ (fun _=>rfl)).setCell (p:=⟨ob,1,none⟩) _ (fun _=>rfl)).setCell (p:=⟨ob,2,none⟩) _ (fun _=>rfl)).setCell (p:=⟨ob,3,none⟩) _ (fun _=>rfl)).setCell (p:=⟨ob,4,none⟩) _ (fun _=>rfl)).setCell (p:=⟨ob,5,none⟩) _ (fun _=>rfl)).setCell (p:=⟨ob,6,none⟩) _ (fun _=>rfl)⟩
 have h1:=blk_setCell_same h 0 x0
 have h2:=blk_setCell_same h1 1 x1
 have h3:=blk_setCell_same h2 2 x2
 have h4:=blk_setCell_same h3 3 x3
 have h5:=blk_setCell_same h4 4 x4
 have h6:=blk_setCell_same h5 5 x5
 have h7:=blk_setCell_same h6 6 x6
 simpa using h7
theorem outBox_noDig {w:World} {ob:Nat} (h:blk w ob=some (.cells #[.int .i64 0,.bool false,.slice none 0 0,.slice none 0 0,.slice none 0 0,.slice none 0 0,.slice none 0 0] 34 (0,0))):NoDig w ob:=noDig_cells h (fun u hu d e=>by
 simp only [List.mem_cons,List.not_mem_nil,or_false] at hu
 rcases hu with rfl | rfl | rfl | rfl | rfl | rfl | rfl <;> cases e)
structure SolveSt (w0 w:World) (tb ob:Nat) (V:TabV) (T:TabF) (p:ProgV) (us ls:List LimV):Prop where
 tab:TabS w0 w tb V T p us ls
 good:Good p ls T us
 obx:blk w ob=some (.cells #[.int .i64 0,.bool false,.slice none 0 0,.slice none 0 0,.slice none 0 0,.slice none 0 0,.slice none 0 0] 34 (0,0))
 obl:w0.heap.size<=ob
section
variable {w0 w w':World} {tb ob s:Nat} {V:TabV} {T:TabF} {p:ProgV} {us ls:List LimV}
theorem SolveSt.keep (h:SolveSt w0 w tb ob V T p us ls) (hx:XF w w'):SolveSt w0 w' tb ob V T p us ls:=⟨h.tab.keep hx,h.good,blk_keep h.obx hx,h.obl⟩
theorem SolveSt.nob (h:SolveSt w0 w tb ob V T p us ls):¬ V.Big tb T.m ob:=h.tab.neBig ⟨_,h.obx⟩ (by decide) (by decide) (by decide) (by decide) (by decide)
theorem SolveSt.turn (h:SolveSt w0 w tb ob V T p us ls) {T':TabF} {D D':Tb} (he:Equ (p.vars.length+us.length) (baseT p us) D) (ht:Turn w w' w0.heap.size tb (p.vars.length+us.length) V T T' D D'):SolveSt w0 w' tb ob V T' p us ls :=
 ⟨h.tab.turn ht.tab ht.n ht.m ht.ext,⟨⟨D',ht.rep,he.trans ht.equ⟩,h.good.nd,h.good.sub⟩,(ht.ext.blk (blk_lt h.obx) (fun e=>h.nob (.inr (TabV.S_all e)))).trans h.obx,h.obl⟩
theorem SolveSt.more (h:SolveSt w0 w tb ob V T p us ls) {V':TabV} {R:MoreV} (hm:MoreAt w0 w w' tb V V' T p ls R):SolveSt w0 w' tb ob V' R.T p R.us ls :=
 ⟨hm.tab,hm.good,(hm.ext.blk (blk_lt h.obx) h.nob).trans h.obx,h.obl⟩
theorem SolveSt.dual (h:SolveSt w0 w tb ob V T p us ls) (hB:BndAll p ls s) (h2s:2<=s) (hs:s<=200000):Calls Tryz.prog 135 #[.pointer (some ⟨tb,0,none⟩)] w (fun r w'=>∃ T',r=.returned (.int .i64 (optI (dualI T')))/\SolveSt w0 w' tb ob V T' p us ls/\Halts (dstepF (goodF T)) T T'/\((dualI T'=none/\∀ k,k<T'.m->0<=T'.be k)∨∃ i,dualI T'=some i/\i<T'.m/\T'.be i<0/\∀ c,c<T'.n->0<=T'.al i c)):=by
 obtain ⟨D,hr,he⟩:=h.good.rep
 refine (dual_any w w0.heap.size tb _ s V T D h.tab.at hr (fun E hw he2=>hB us h.good.len h.tab.oks E hw (he.trans he2)) h2s hs).mono ?_
 rintro r w' ⟨T',D',good,hgd,rfl,ht,_,hh,hend⟩
 refine ⟨T',rfl,h.turn he ht,by rw [show goodF T=good from hgd.symm]; exact hh,?_⟩
 rw [ht.n,ht.m]; exact hend
theorem SolveSt.primal (h:SolveSt w0 w tb ob V T p us ls) (hb:∀ k,k<T.m->0<=T.be k) (hB:BndAll p ls s) (h2s:2<=s) (hs:s<=200000):Calls Tryz.prog 141 #[.pointer (some ⟨tb,0,none⟩)] w (fun r w'=>∃ T',r=.returned (.int .i64 (optI (primC T')))/\SolveSt w0 w' tb ob V T' p us ls/\Halts pstepF T T'/\((primC T'=none)∨∃ c,primC T'=some c/\c<T'.n)):=by
 obtain ⟨D,hr,he⟩:=h.good.rep
 refine (primal_any w w0.heap.size tb _ s V T D h.tab.at hr hb (fun E hw he2=>hB us h.good.len h.tab.oks E hw (he.trans he2)) h2s hs).mono ?_
 rintro r w' ⟨T',D',rfl,ht,_,hh,hend⟩
 refine ⟨T',rfl,h.turn he ht,hh,?_⟩
 rw [ht.n]
 rcases hend with ⟨e,_⟩ | ⟨c,e,hc,_⟩
 ·exact .inl e
 ·exact .inr ⟨c,e,hc⟩
theorem SolveSt.dist (h:SolveSt w0 w tb ob V T p us ls) (hn:p.vars.length<=1000):Calls Tryz.prog 140 #[.pointer (some ⟨tb,0,none⟩)] w (RowPost w p.vars.length (distN T.ba T.be T.m)):=distances_any w w0.heap.size tb V T p h.tab.at h.tab.prg (by omega)
theorem SolveSt.moreC (h:SolveSt w0 w tb ob V T p us ls) (hB:BndAll p ls s) (h2s:2<=s) (hs:s<=200000) (hok:∀ l ∈ ls,LimOk p l) (hls:ls.length<1000) (hT:∀ l ∈ ls,(limTs p l).length*(s+8)+s+20<=2000000) (f:Nat->Rat) (dir:Bool) (hf:∀ i,i<p.vars.length->Sz (f i) s) (zb:Nat) (hzn:¬ V.Big tb T.m zb) (hz:RArr w zb p.vars.length f) :
  Calls Tryz.prog 139 #[.pointer (some ⟨tb,0,none⟩),.slice (some ⟨zb,0,none⟩) p.vars.length p.vars.length,.bool dir] w (fun r w'=>∃ V',r=.returned (.bool (moreR p (listTo p.vars.length f) dir ls ⟨T,us,false⟩).b)/\SolveSt w0 w' tb ob V' (moreR p (listTo p.vars.length f) dir ls ⟨T,us,false⟩).T p (moreR p (listTo p.vars.length f) dir ls ⟨T,us,false⟩).us ls/\RArr w' zb p.vars.length f):=by
 refine (more_any w0 w tb s zb V T p us ls f dir h.tab h.good hB hz hzn hf h2s hs hok hls hT).mono ?_
 rintro r w' ⟨V',rfl,hm⟩
 exact ⟨V',rfl,h.more hm,hz.past hm.ext hzn hm.rds⟩
theorem SolveSt.dsz (h:SolveSt w0 w tb ob V T p us ls) (hB:BndAll p ls s) (h2s:2<=s):∀ i,i<p.vars.length->Sz (distN T.ba T.be T.m i) s:=fun i _=>distN_sz (by omega) (h.good.sz h.tab.oks hB).2.1 i
theorem SolveSt.nw (h:SolveSt w0 w tb ob V T p us ls) {k:Nat} (hk:w.heap.size<=k):¬ V.Big tb T.m k:=fun e=>by have:=h.tab.lt e; omega
theorem rayN_sz {c:Nat} (h1:2<=s):∀ {m:Nat},(∀ k,k<m->Sz (T.al k c) s)->∀ v,Sz (rayN T c m v) s
 | 0,_,v=>by
  unfold rayN
  split
  ·exact (Sz.int (k:=1) ⟨by omega,by omega⟩).mono h1
  ·exact Sz.zero.mono (by omega)
 | m+1,h,v=>by
  unfold rayN
  split
  ·exact (h m (by omega)).neg
  ·exact rayN_sz h1 (fun k hk=>h k (by omega)) v
end
def OutFar (w0 w:World) (v:Value) (o:OutV) (L:Nat):Prop:=∀ (S:Nat->Prop) (W:World),Ext S w W->(∀ k,S k->k<w0.heap.size)->(∀ u d,Rds w u d->Rds W u d)->IsOutC W v o L
theorem OutFar.now {w0 w:World} {v:Value} {o:OutV} {L:Nat} (h:OutFar w0 w v o L):IsOutC w v o L:=h (fun _=>False) w (Ext.refl _ _) (fun _ e=>e.elim) (fun _ _ k=>k)
theorem RArr.far {w0 w W:World} {b n:Nat} {f:Nat->Rat} {S:Nat->Prop} (h:RArr w b n f) (hb:w0.heap.size<=b) (hX:Ext S w W) (hS:∀ k,S k->k<w0.heap.size) (hR:∀ u d,Rds w u d->Rds W u d):RArr W b n f:=h.past hX (fun e=>by have:=hS _ e; omega) hR
def SolveP (w0:World) (p:ProgV) (ls:List LimV) (T0:TabF) (us0:List LimV) (L:Nat) (r:Ending) (w':World):Prop:=∃ v o,r=.returned v/\SolveR p ls T0 us0 o/\OutFar w0 w' v o L/\XF w0 w'
theorem ob_past {w w':World} {ob Y n:Nat} {f:Nat->Rat} (hb:blk w ob=some (.cells #[.int .i64 0,.bool false,.slice none 0 0,.slice none 0 0,.slice none 0 0,.slice none 0 0,.slice none 0 0] 34 (0,0))) (hx:Ext (fun k=>k=ob) w w') (hY:RArr w Y n f):RArr w' Y n f:=by
 have hne:¬ Y=ob:=fun e=>by
  subst e
  obtain ⟨arr,h1,_⟩:=hY.row
  rw [hb] at h1
  cases h1
 exact hY.past hx hne (fun v l k=>k.past hx (fun k _ e=>by have e':k=ob:=e; subst e'; exact outBox_noDig hb))
theorem wpList_appRat {w:World} {ops:Array Oper} {rest:List Oper} {o:Oper} {a:Act} {Q:Exit->Act->World->Prop}
  (hgd:o.guard=none) (s x:Operand) (ho:o.op=.call { callee:=.builtin .append,args:=#[s,x],argTypes:=#[32,32] }) (base:Nat) (v:Value) (n:Nat) (f:Nat->Rat) (hs:a.eval s=v) (hq:RatAt w base v n f) (ad:Addr) (c:Nat) (r:RatC) (q:Rat) (hr:IsRat w r.v q) (hx:a.eval x=.slice (some ad) 1 c) (hsrc:∀ j u,r.cells[j]?=some u->w.cell? (ad.add j)=some u) (hn:n<=100000) (hbase:base<=w.heap.size)
  (h:∀ v' w',RatAt w' base v' (n+1) (fun i=>if i=n then q else f i)->Ext (fun k=>v.ownBlock=some k) w w'->wpList Tryz.prog ops Q rest (a.put o.dst v') w'):wpList Tryz.prog ops Q (o :: rest) a w:=by
 obtain ⟨xs,k1,k2,k3,k4⟩:=hq.own
 exact wpList_app hgd s x ho Tryz.underlying32 Tryz.infoRat rfl (ratC_noD ⟨false,none,0,0,none,0,0⟩) (by decide) (by decide) base v n xs hs k1 k2 k3 ad c r.cells hx rfl hsrc (ratC_one _) (ratC_noD _) hn hbase (fun v' w' ha=>h v' w' (RatAt.app ha k4 k1.1 hr) ha.ext)
section
variable {w0 w w':World} {tb ob s L:Nat} {V:TabV} {T T1 T2 T0:TabF} {p:ProgV} {us us0 ls:List LimV}
theorem infV_lt (h:SolveSt w0 w tb ob V T p us ls) {i:Nat} (hi:i<T.m):∀ k,k<T.n+1->infV T i k<p.vars.length+us.length:=fun k hk=>by
 obtain ⟨D,hr,_⟩:=h.good.rep
 unfold infV
 split
 ·exact hr.wf.dom _ (hr.ba i hi)
 ·exact hr.fr k (by omega)
theorem infW_sz (h:SolveSt w0 w tb ob V T p us ls) (hB:BndAll p ls s) (h2s:2<=s) {i:Nat} (hi:i<T.m):∀ k,k<T.n+1->Sz (infW T i k) s:=fun k hk=>by
 unfold infW
 split
 ·exact (Sz.int (k:=1) ⟨by omega,by omega⟩).mono h2s
 ·exact (h.good.sz h.tab.oks hB).1 i k hi (by omega)
theorem SolveSt.mult (h:SolveSt w0 w tb ob V T p us ls) {W:World} {v wv:Value} {m:Nat} {f:Nat->Nat} {g:Nat->Rat} (hW:XF w W) (hv:NRow W v m f) (hw:QRow w wv m g) (hf:∀ k,k<m->f k<p.vars.length+us.length) (hg:∀ k,k<m->Sz (g k) s) (h2s:2<=s) (hm:m*(s+1)+s+10<=4000000) (hrn:p.rows.length<=100000) :
  Calls Tryz.prog 137 #[.pointer (some ⟨tb,0,none⟩),v,wv] W (RowPost W p.rows.length (multN p us f g m)):=by
 have hk:=h.tab.keep hW
 have hs:=h.tab.small.2
 have hmu:=h.tab.hm
 exact multipliers_any W w0.heap.size tb m s V.u v wv p us f g hk.prg (cellq hk.box 2 rfl) hk.rest.u h.tab.oks hv (hw.keep hW) hf hg (by omega) hm (by omega) (by omega)
theorem inf_post (h:SolveSt w0 w tb ob V T1 p us ls) (hB:BndAll p ls s) (h2s:2<=s) {i:Nat} (hi:i<T1.m) (hL1:1+(p.vars.length+1)*(s+1)<=L) (hrn:p.rows.length<=100000) (hh:Halts (dstepF (goodF T)) T T1) (hI:dualI T1=some i) (hgo:∀ o,SolveR p ls T us o->SolveR p ls T0 us0 o)
  {w16 w17:World} {Y:Nat} (hYb:w0.heap.size<=Y) (hx:XF w w16) (hY:RArr w16 Y p.rows.length (multN p us (infV T1 i) (infW T1 i) (T1.n+1))) (hP:blk w17 ob=some (.cells #[.int .i64 1,.bool false,.slice none 0 0,.slice none 0 0,.slice none 0 0,.slice (some ⟨Y,0,none⟩) p.rows.length p.rows.length,.slice none 0 0] 34 (0,0))/\Ext (fun k=>k=ob) w16 w17) :
  SolveP w0 p ls T0 us0 L (.returned (.agg #[.int .i64 1,.bool false,.slice none 0 0,.slice none 0 0,.slice none 0 0,.slice (some ⟨Y,0,none⟩) p.rows.length p.rows.length,.slice none 0 0])) w17:=by
 have hn:=h.tab.hn
 refine ⟨_,outInf p us T1 i,rfl,hgo _ (.inf hh hI),fun S W hX hS hR=>⟨false,none,0,0,none,0,0,_,_,_,rfl,⟨IsRat.zero _,Sz.zero.mono (by omega)⟩,CRats.nil _ _,?_,CRats.nil _ _,(show InR (1:Int) from ⟨by decide,by decide⟩)⟩,?_⟩
 ·refine ((ob_past (blk_keep h.obx hx) hP.2 hY).far hYb hX hS hR).crats (fun r _=>(multN_sz (by omega) r (infW_sz h hB h2s hi)).mono ?_) (by unfold maxLen; omega)
  rw [hn]; exact hL1
 ·exact (h.tab.old.trans hx).own hP.2 (fun k e=>by have e':k=ob:=e; rw [e']; exact h.obl)
theorem SolveSt.moreYes (h:SolveSt w0 w tb ob V T p us ls) (hB:BndAll p ls s) (h2s:2<=s) (hs:s<=200000) (hok:∀ l ∈ ls,LimOk p l) (hls:ls.length<1000) (hT:∀ l ∈ ls,(limTs p l).length*(s+8)+s+20<=2000000) (f:Nat->Rat) (dir:Bool) (hf:∀ i,i<p.vars.length->Sz (f i) s) (zb:Nat) (hzn:¬ V.Big tb T.m zb) (hz:RArr w zb p.vars.length f) {R:MoreV} (hR:moreR p (listTo p.vars.length f) dir ls ⟨T,us,false⟩=R) (hb:R.b=true) :
  Calls Tryz.prog 139 #[.pointer (some ⟨tb,0,none⟩),.slice (some ⟨zb,0,none⟩) p.vars.length p.vars.length,.bool dir] w (fun r w'=>∃ V',r=.returned (.bool true)/\SolveSt w0 w' tb ob V' R.T p R.us ls/\us.length<R.us.length/\R.us.length<=ls.length):=by
 subst hR
 refine (h.moreC hB h2s hs hok hls hT f dir hf zb hzn hz).mono ?_
 rintro r w' ⟨V',rfl,h1,_⟩
 exact ⟨V',by rw [hb],h1,more_yes hb,h1.good.len⟩
theorem SolveSt.moreNo (h:SolveSt w0 w tb ob V T p us ls) (hB:BndAll p ls s) (h2s:2<=s) (hs:s<=200000) (hok:∀ l ∈ ls,LimOk p l) (hls:ls.length<1000) (hT:∀ l ∈ ls,(limTs p l).length*(s+8)+s+20<=2000000) (f:Nat->Rat) (dir:Bool) (hf:∀ i,i<p.vars.length->Sz (f i) s) (zb:Nat) (hzn:¬ V.Big tb T.m zb) (hz:RArr w zb p.vars.length f) {R:MoreV} (hR:moreR p (listTo p.vars.length f) dir ls ⟨T,us,false⟩=R) (hb:R.b=false) :
  Calls Tryz.prog 139 #[.pointer (some ⟨tb,0,none⟩),.slice (some ⟨zb,0,none⟩) p.vars.length p.vars.length,.bool dir] w (fun r w'=>∃ V',r=.returned (.bool false)/\SolveSt w0 w' tb ob V' T p us ls/\RArr w' zb p.vars.length f):=by
 subst hR
 refine (h.moreC hB h2s hs hok hls hT f dir hf zb hzn hz).mono ?_
 rintro r w' ⟨V',rfl,h1,h2⟩
 obtain ⟨e1,e2,_⟩:=more_no hb
 rw [e1,e2] at h1
 exact ⟨V',by rw [hb],h1,h2⟩
theorem ptF_sz (h:SolveSt w0 w tb ob V T p us ls) (hB:BndAll p ls s) (h2s:2<=s):∀ i,i<p.vars.length->Sz (distN T.ba T.be T.m i+((p.v i).lo:Rat)) (s+3):=fun i hi =>
 ((h.dsz hB h2s i hi).add (Sz.int (h.tab.vars.ok i hi).lo)).mono (by omega)
theorem opt_post (h:SolveSt w0 w tb ob V T2 p us ls) (hB:BndAll p ls s) (h2s:2<=s) (hL1:1+(p.vars.length+1)*(s+1)<=L) (hL2:s+3<=L) (hL3:1+p.vars.length*(s+6)<=L) (hrn:p.rows.length<=100000) (hgo:SolveR p ls T0 us0 (outOpt p us T2))
  {w16 w17:World} {X Y:Nat} {n5:Bool} {a5 a5':Option Addr} {m5 c5 m5' c5':Nat} (hXb:w0.heap.size<=X) (hYb:w0.heap.size<=Y) (hx:XF w w16) (hX:RArr w X p.vars.length (fun i=>distN T2.ba T2.be T2.m i+((p.v i).lo:Rat))) (h5:IsRat w16 (.agg #[.bool n5,.slice a5 m5 c5,.slice a5' m5' c5']) (costQ p (ptF p T2))) (hY:RArr w16 Y p.rows.length (multN p us T2.fr T2.d T2.n)) (hP:blk w17 ob=some (.cells #[.int .i64 0,.bool n5,.slice a5 m5 c5,.slice a5' m5' c5',.slice (some ⟨X,0,none⟩) p.vars.length p.vars.length,.slice (some ⟨Y,0,none⟩) p.rows.length p.rows.length,.slice none 0 0] 34 (0,0))/\Ext (fun k=>k=ob) w16 w17) :
  SolveP w0 p ls T0 us0 L (.returned (.agg #[.int .i64 0,.bool n5,.slice a5 m5 c5,.slice a5' m5' c5',.slice (some ⟨X,0,none⟩) p.vars.length p.vars.length,.slice (some ⟨Y,0,none⟩) p.rows.length p.rows.length,.slice none 0 0])) w17:=by
 have hn:=h.tab.hn
 have hsm:=h.tab.small.1
 have ho:=blk_keep h.obx hx
 refine ⟨_,outOpt p us T2,rfl,hgo,fun S W hXe hS hR=>⟨n5,a5,m5,c5,a5',m5',c5',_,_,_,rfl,⟨h5.past (fun v l k=>hR _ _ (k.past hP.2 (fun k _ e=>by have e':k=ob:=e; subst e'; exact outBox_noDig ho))),?_⟩,?_,?_,CRats.nil _ _,(show InR (0:Int) from ⟨by decide,by decide⟩)⟩,?_⟩
 ·exact (costQ_sz h.tab.vars (atQ_listTo_sz (ptF_sz h hB h2s) (by omega))).mono (by rw [show s+3+3=s+6 by omega]; exact hL3)
 ·exact ((ob_past ho hP.2 (hX.keep hx)).far hXb hXe hS hR).crats (fun i hi=>(ptF_sz h hB h2s i hi).mono hL2) (by unfold maxLen; omega)
 ·refine ((ob_past ho hP.2 hY).far hYb hXe hS hR).crats (fun r _=>(multN_sz (by omega) r (h.good.sz h.tab.oks hB).2.2).mono ?_) (by unfold maxLen; omega)
  rw [hn]; rw [Nat.add_mul] at hL1; omega
 ·exact (h.tab.old.trans hx).own hP.2 (fun k e=>by have e':k=ob:=e; rw [e']; exact h.obl)
theorem unb_post (h:SolveSt w0 w tb ob V T2 p us ls) (hB:BndAll p ls s) (h2s:2<=s) {c:Nat} (hc:c<T2.n) (hL2:s+3<=L) (hgo:SolveR p ls T0 us0 (outUnb p T2 c))
  {w17:World} {X Y:Nat} (hXb:w0.heap.size<=X) (hYb:w0.heap.size<=Y) (hX:RArr w X p.vars.length (fun i=>distN T2.ba T2.be T2.m i+((p.v i).lo:Rat))) (hY:RArr w Y p.vars.length (rayN T2 c T2.m)) (hP:blk w17 ob=some (.cells #[.int .i64 2,.bool false,.slice none 0 0,.slice none 0 0,.slice (some ⟨X,0,none⟩) p.vars.length p.vars.length,.slice none 0 0,.slice (some ⟨Y,0,none⟩) p.vars.length p.vars.length] 34 (0,0))/\Ext (fun k=>k=ob) w w17) :
  SolveP w0 p ls T0 us0 L (.returned (.agg #[.int .i64 2,.bool false,.slice none 0 0,.slice none 0 0,.slice (some ⟨X,0,none⟩) p.vars.length p.vars.length,.slice none 0 0,.slice (some ⟨Y,0,none⟩) p.vars.length p.vars.length])) w17:=by
 have hn:=h.tab.hn
 have hsm:=h.tab.small.1
 refine ⟨_,outUnb p T2 c,rfl,hgo,fun S W hXe hS hR=>⟨false,none,0,0,none,0,0,_,_,_,rfl,⟨IsRat.zero _,Sz.zero.mono (by omega)⟩,?_,CRats.nil _ _,?_,(show InR (2:Int) from ⟨by decide,by decide⟩)⟩,?_⟩
 ·exact ((ob_past h.obx hP.2 hX).far hXb hXe hS hR).crats (fun i hi=>(ptF_sz h hB h2s i hi).mono hL2) (by unfold maxLen; omega)
 ·exact ((ob_past h.obx hP.2 hY).far hYb hXe hS hR).crats (fun i _=>(rayN_sz h2s (fun k hk=>(h.good.sz h.tab.oks hB).1 k c hk hc) i).mono (by omega)) (by unfold maxLen; omega)
 ·exact h.tab.old.own hP.2 (fun k e=>by have e':k=ob:=e; rw [e']; exact h.obl)
end
theorem solve_any (w0 w:World) (tb s L:Nat) (V:TabV) (T0:TabF) (p:ProgV) (us0 ls:List LimV) (h:TabS w0 w tb V T0 p us0 ls) (hg:Good p ls T0 us0) (hB:BndAll p ls s) (h2s:2<=s) (hs:s<=200000)
  (hok:∀ l ∈ ls,LimOk p l) (hls:ls.length<1000) (hT:∀ l ∈ ls,(limTs p l).length*(s+8)+s+20<=2000000) (hrn:p.rows.length<=100000) (hL1:1+(p.vars.length+1)*(s+1)<=L) (hL2:s+3<=L) (hL3:1+p.vars.length*(s+6)<=L) (hL4:(p.vars.length+1)*(s+6)+s+20<=3000000) :
  Calls Tryz.prog 86 #[.pointer (some ⟨tb,0,none⟩)] w (SolveP w0 p ls T0 us0 L):=by
 have hnn:=h.hn
 have hsn:=h.small.1
 have hnv:p.vars.length<=1000:=by omega
 have hxa:=(Ext.refl (fun _=>False) w).alloc (.cells #[.int .i64 0,.bool false,.slice none 0 0,.slice none 0 0,.slice none 0 0,.slice none 0 0,.slice none 0 0] 34)
 have HS0:=bH (show SolveSt w0 (w.alloc (.cells #[.int .i64 0,.bool false,.slice none 0 0,.slice none 0 0,.slice none 0 0,.slice none 0 0,.slice none 0 0] 34)) tb w.heap.size V T0 p us0 ls from
  ⟨h.keep hxa,hg,blk_alloc_at _ _,h.old.size⟩)
 have HB:=bH (bI hB (bI hok hT))
 have HL:=bH (bI hL1 (bI hL2 (bI hL3 hL4)))
 clear h hg hB hok hT hL1 hL2 hL3 hL4 hxa hnn hsn
 go_enter Tryz.func86,Tryz.ntmps86
 go_upto_block 0 with fail
 generalize w.alloc (.cells #[.int .i64 0,.bool false,.slice none 0 0,.slice none 0 0,.slice none 0 0,.slice none 0 0,.slice none 0 0] 34)=wA at *
 generalize w.heap.size=ob at *
 go_wp2; go_step3; go_wp2; go_step3; go_wp2
 go_loopg [3,4,5,6] (ls.length - us0.length) (fun gg v3 v4 v5 v6 wr=>∃ (T:TabF) (us:List LimV) (V':TabV),gg=ls.length - us.length/\SolveSt w0 wr tb ob V' T p us ls/\∀ o,SolveR p ls T us o->SolveR p ls T0 us0 o)
 case atStart=>exact ⟨T0,us0,V,(by omega),HS0.out,fun _ k=>k⟩
 case round =>
  clear HS0
  obtain ⟨T,us,V',rfl,hss,hgo⟩:=hrel
  have HSR:=bH hgo
  have HD:=bH (hss.dual HB.out.1 h2s hs)
  clear hgo hss
  go_upto_region 2 with (go_at_call 135; refine HD.out.mono ?_; rintro r1 w1 ⟨T1,rfl,hs1,hh1,hd1⟩)
  clear HD
  obtain ⟨oi,hoi⟩:∃ oi,optI (dualI T1)=oi:=⟨_,rfl⟩
  rw [hoi]
  have HS1:=bH hs1
  have HH1:=bH hh1
  have HOI:=bH hoi
  clear hs1 hh1 hoi
  rcases hd1 with ⟨hI,hbe⟩ | ⟨i,hI,him,hbi,hal⟩
  ·obtain rfl:oi = -1:=by rw [<- HOI.out,hI]; rfl
   have HI:=bH (bI hI hbe)
   clear hI hbe HOI
   have HDi:=bH (HS1.out.dist hnv)
   have HG1:=bH (fun (R:MoreV) (hR:moreR p (distF p T1) false ls ⟨T1,us,false⟩=R) (hb:R.b=true) (o:OutV) (k:SolveR p ls R.T R.us o)=>HSR.out o (.go1 HH1.out HI.out.1 hR.symm hb k))
   have HG2:=bH (fun (hb:(moreR p (distF p T1) false ls ⟨T1,us,false⟩).b=false) (T2:TabF) (hh:Halts pstepF T1 T2) (R:MoreV) (hR:moreR p (distF p T2) false ls ⟨T2,us,false⟩=R) (hb2:R.b=true) (o:OutV) (k:SolveR p ls R.T R.us o)=>HSR.out o (.go2 HH1.out HI.out.1 hb hh hR.symm hb2 k))
   have HGo:=bH (fun (hb:(moreR p (distF p T1) false ls ⟨T1,us,false⟩).b=false) (T2:TabF) (hh:Halts pstepF T1 T2) (hb2:(moreR p (distF p T2) false ls ⟨T2,us,false⟩).b=false) (hc:primC T2=none)=>HSR.out _ (.opt HH1.out HI.out.1 hb hh hb2 hc))
   have HG3:=bH (fun (hb:(moreR p (distF p T1) false ls ⟨T1,us,false⟩).b=false) (T2:TabF) (hh:Halts pstepF T1 T2) (hb2:(moreR p (distF p T2) false ls ⟨T2,us,false⟩).b=false) (c:Nat) (hc:primC T2=some c) (R:MoreV) (hR:moreR p (rayF p T2 c) true ls ⟨T2,us,false⟩=R) (hb3:R.b=true) (o:OutV) (k:SolveR p ls R.T R.us o)=>HSR.out o (.go3 HH1.out HI.out.1 hb hh hb2 hc hR.symm hb3 k))
   have HGu:=bH (fun (hb:(moreR p (distF p T1) false ls ⟨T1,us,false⟩).b=false) (T2:TabF) (hh:Halts pstepF T1 T2) (hb2:(moreR p (distF p T2) false ls ⟨T2,us,false⟩).b=false) (c:Nat) (hc:primC T2=some c) (hb3:(moreR p (rayF p T2 c) true ls ⟨T2,us,false⟩).b=false)=>HSR.out _ (.unb HH1.out HI.out.1 hb hh hb2 hc hb3))
   clear HSR HH1
   obtain ⟨R1,hR1⟩:∃ R,moreR p (distF p T1) false ls ⟨T1,us,false⟩=R:=⟨_,rfl⟩
   cases hb1:R1.b with
   | true =>
    have HR1:=bH (bI hR1 hb1)
    clear hR1 hb1
    go_wp2_with (go_loud (first | (go_at_call 140; refine HDi.out.mono ?_; rintro r2 w2 ⟨zb,rfl,hzb,hz,hx2⟩; have HS2:=bH (HS1.out.keep hx2); have HZ:=bH (bI (HS1.out.nw hzb) hz); clear hzb hz hx2) | (go_at_call 139; refine (HS2.out.moreYes HB.out.1 h2s hs HB.out.2.1 hls HB.out.2.2 (distN T1.ba T1.be T1.m) false (HS2.out.dsz HB.out.1 h2s) zb HZ.out.1 HZ.out.2 HR1.out.1 HR1.out.2).mono ?_; rintro r3 w3 ⟨V3,rfl,hs3,hl3,hl4⟩)))
    go_roundg (ls.length - R1.us.length)
    case measure=>omega
    case rel=>exact ⟨R1.T,R1.us,V3,rfl,hs3,HG1.out R1 HR1.out.1 HR1.out.2⟩
   | false =>
    have HR1:=bH (bI hR1 hb1)
    have HB1:=bH (show (moreR p (distF p T1) false ls ⟨T1,us,false⟩).b=false from by rw [hR1]; exact hb1)
    clear hR1 hb1
    go_upto_region 6 with (go_loud (first | (go_at_call 140; refine HDi.out.mono ?_; rintro r2 w2 ⟨zb,rfl,hzb,hz,hx2⟩; have HS2:=bH (HS1.out.keep hx2); have HZ:=bH (bI (HS1.out.nw hzb) hz); clear hzb hz hx2) | (go_at_call 139; refine (HS2.out.moreNo HB.out.1 h2s hs HB.out.2.1 hls HB.out.2.2 (distN T1.ba T1.be T1.m) false (HS2.out.dsz HB.out.1 h2s) zb HZ.out.1 HZ.out.2 HR1.out.1 HR1.out.2).mono ?_; rintro r3 w3 ⟨V3,rfl,hs3,-⟩; have HS3:=bH hs3; clear hs3)))
    clear HDi HS1 HS2 HZ HR1 HG1
    have HP:=bH (HS3.out.primal HI.out.2 HB.out.1 h2s hs)
    go_upto_region 7 with (go_at_call 141; refine HP.out.mono ?_; rintro r4 w4 ⟨T2,rfl,hs4,hh4,hd4⟩)
    clear HP HS3
    obtain ⟨oc,hoc⟩:∃ oc,optI (primC T2)=oc:=⟨_,rfl⟩
    rw [hoc]
    have HS4:=bH hs4
    have HH4:=bH hh4
    have HOC:=bH (bI hoc hd4)
    clear hs4 hh4 hoc hd4
    have HDi:=bH (HS4.out.dist hnv)
    obtain ⟨R2,hR2⟩:∃ R,moreR p (distF p T2) false ls ⟨T2,us,false⟩=R:=⟨_,rfl⟩
    cases hb2:R2.b with
    | true =>
     have HR2:=bH (bI hR2 hb2)
     clear hR2 hb2
     go_wp2_with (go_loud (first | (go_at_call 140; refine HDi.out.mono ?_; rintro r5 w5 ⟨zb2,rfl,hzb,hz,hx5⟩; have HS5:=bH (HS4.out.keep hx5); have HZ2:=bH (bI (HS4.out.nw hzb) hz); clear hzb hz hx5) | (go_at_call 139; refine (HS5.out.moreYes HB.out.1 h2s hs HB.out.2.1 hls HB.out.2.2 (distN T2.ba T2.be T2.m) false (HS5.out.dsz HB.out.1 h2s) zb2 HZ2.out.1 HZ2.out.2 HR2.out.1 HR2.out.2).mono ?_; rintro r6 w6 ⟨V6,rfl,hs6,hl6,hl7⟩)))
     go_roundg (ls.length - R2.us.length)
     case measure=>omega
     case rel=>exact ⟨R2.T,R2.us,V6,rfl,hs6,HG2.out HB1.out T2 HH4.out R2 HR2.out.1 HR2.out.2⟩
    | false =>
     have HR2:=bH (bI hR2 hb2)
     have HB2:=bH (show (moreR p (distF p T2) false ls ⟨T2,us,false⟩).b=false from by rw [hR2]; exact hb2)
     clear hR2 hb2
     go_upto_region 8 with (go_loud (first | (go_at_call 140; refine HDi.out.mono ?_; rintro r5 w5 ⟨zb2,rfl,hzb,hz,hx5⟩; have HS5:=bH (HS4.out.keep hx5); have HZ2:=bH (bI (HS4.out.nw hzb) hz); clear hzb hz hx5) | (go_at_call 139; refine (HS5.out.moreNo HB.out.1 h2s hs HB.out.2.1 hls HB.out.2.2 (distN T2.ba T2.be T2.m) false (HS5.out.dsz HB.out.1 h2s) zb2 HZ2.out.1 HZ2.out.2 HR2.out.1 HR2.out.2).mono ?_; rintro r6 w6 ⟨V6,rfl,hs6,-⟩; have HS6:=bH hs6; clear hs6)))
     clear HDi HS4 HS5 HZ2 HR2 HG2
     rcases HOC.out.2 with hC | ⟨c,hC,hc⟩
     ·obtain rfl:oc = -1:=by rw [<- HOC.out.1,hC]; rfl
      have HC:=bH hC
      clear hC HOC
      have HPt:=bH (point_any w6 w0.heap.size tb s V6 T2 p HS6.out.tab.at HS6.out.tab.prg (by omega) (HS6.out.good.sz HS6.out.tab.oks HB.out.1).2.1 h2s (by omega))
      go_upto_region 13 with (go_at_call 143; refine HPt.out.mono ?_; rintro r7 w7 ⟨X,rfl,hXb,hX,hx7⟩)
      have HS7:=bH (HS6.out.keep hx7)
      have HX:=bH hX
      have HXb:=bH (Nat.le_trans HS6.out.tab.old.size hXb)
      clear HPt HS6 hXb hX hx7
      have hsm:=HS7.out.tab.small.1
      have hnn:=HS7.out.tab.hn
      have HCo:=bH (fun W (hW:XF w7 W)=>Cost_any W (.agg #[V6.pv,V6.pr]) (.slice (some ⟨X,0,none⟩) p.vars.length p.vars.length) p (ptF p T2) (s+3) ⟨V6.pv,V6.pr,rfl,HS7.out.tab.vars.keep (HS7.out.tab.old.trans hW),HS7.out.tab.rows.keep (HS7.out.tab.old.trans hW)⟩ ((HX.out.keep hW).rats (ptF_sz HS7.out HB.out.1 h2s) (Nat.le_refl _) (by unfold maxLen; omega)) (by omega) (by have:=HL.out.2.2.2; rw [Nat.add_mul] at this; rw [show s+3+3=s+6 by omega]; omega))
      have HMu:=bH (fun W (hW:XF w7 W)=>HS7.out.mult hW ((HS7.out.tab.keep hW).rest.fr.nrow (by omega)) (HS7.out.tab.rest.d.qrow (by omega)) (fun k hk=>by obtain ⟨D,hr,_⟩:=HS7.out.good.rep; exact hr.fr k hk) (HS7.out.good.sz HS7.out.tab.oks HB.out.1).2.2 h2s (by have:=HL.out.2.2.2; rw [hnn]; rw [Nat.add_mul] at this; rw [Nat.mul_add] at this ⊢; omega) hrn)
      have HOb:=bH HS7.out.obx
      have HInf:=bH (fun n5 a5 m5 c5 a5' m5' c5' w16 w17 Y (hYb:w7.heap.size<=Y) (hx:XF w7 w16) h5 hY hP=>opt_post (w17:=w17) (X:=X) (Y:=Y) (n5:=n5) (a5:=a5) (m5:=m5) (c5:=c5) (a5':=a5') (m5':=m5') (c5':=c5') HS7.out HB.out.1 h2s HL.out.1 HL.out.2.1 HL.out.2.2.1 hrn (HGo.out HB1.out T2 HH4.out HB2.out HC.out) HXb.out (Nat.le_trans HS7.out.tab.old.size hYb) hx HX.out h5 hY hP)
      have c0:=cqo (S:=fun _=>False) (show w7.cell? ⟨tb,0,none⟩=some V6.pv from cellq HS7.out.tab.box 0 rfl) id
      have c1:=cqo (S:=fun _=>False) (show w7.cell? ⟨tb,1,none⟩=some V6.pr from cellq HS7.out.tab.box 1 rfl) id
      have c5:=cqo (S:=fun _=>False) (show w7.cell? ⟨tb,5,none⟩=some V6.fr from cellq HS7.out.tab.box 5 rfl) id
      have c8:=cqo (S:=fun _=>False) (show w7.cell? ⟨tb,8,none⟩=some V6.d from cellq HS7.out.tab.box 8 rfl) id
      clear hnn
      refine mbegin 18 (XF w7) (by kernel_rfl) ((Ext.refl _ w7).drew) (fun hHeld=>?_)
      refine mu 0 (h:=(mu 1 (h:=(mu 2 (h:=(mu 3 (h:=(mu 4 (h:=(mu 6 (h:=(mu 7 (h:=(mu 8 (h:=(mu 9 (h:=(mu 10 (h:=(mu 11 (h:=(mu 12 (h:=(mu 13 (h:=(mu 14 (h:=(mu 15 (h:=?_)))))))))))))))))))))))))))))
      (try go_frame)
      refine mst 5 (h:=fun K hK=>?_)
      go_simp
      go_at_call 54; (with_reducible refine (HCo.out _ hHeld).mono ?_); rintro q5 w15 ⟨v5,rfl,h5,hx5⟩; obtain ⟨n5,a5,m5,d5,a5',m5',d5',rfl⟩:=h5.shape
      refine hK.out _ _ (hHeld.trans hx5) (fun hHeld=>?_)
      clear hK K
      (try go_frame)
      refine mst 16 (h:=fun K hK=>?_)
      go_simp
      go_at_call 137; (with_reducible refine (HMu.out _ hHeld).mono ?_); rintro q6 w16 ⟨Y,rfl,hYb,hY,hx16⟩; replace h5:=h5.keep hx16
      have hYl:=Nat.le_trans hHeld.size hYb
      refine hK.out _ _ (hHeld.trans hx16) (fun hHeld=>?_)
      clear hK K
      (try go_frame)
      refine mu 17 (h:=?_)
      (try go_frame)
      have hbo:=blk_keep HOb.out hHeld
      have t0:=cellq hbo 0 rfl
      have t1:=cellq hbo 1 rfl
      have t2:=cellq hbo 2 rfl
      have t3:=cellq hbo 3 rfl
      have t4:=cellq hbo 4 rfl
      have t5:=cellq hbo 5 rfl
      have t6:=cellq hbo 6 rfl
      have f0:=free_of_cells hbo 0
      have f1:=free_of_cells hbo 1
      have f2:=free_of_cells hbo 2
      have f3:=free_of_cells hbo 3
      have f4:=free_of_cells hbo 4
      have f5:=free_of_cells hbo 5
      have f6:=free_of_cells hbo 6
      refine ml 18 (h:=fun K hK=>?_)
      go_simp
      refine hK.out _ _ ?_
      clear hK K
      (try go_frame)
      refine mdone (by kernel_rfl) ?_ _
      have HPo:=bH (outBox_put hbo (.int .i64 0) (.bool n5) (.slice a5 m5 d5) (.slice a5' m5' d5') (.slice (some ⟨X,0,none⟩) p.vars.length p.vars.length) (.slice (some ⟨Y,0,none⟩) p.rows.length p.rows.length) (.slice none 0 0))
      have HF:=bH (HInf.out _ _ _ _ _ _ _ _ _ _ hYl hHeld h5 hY HPo.out)
      clear t0 f0 t1 f1 t2 f2 t3 f3 t4 f4 t5 f5 t6 f6
      generalize ((((((w16.setCell ⟨ob,0,none⟩ (.int .i64 0)).setCell ⟨ob,1,none⟩ (.bool n5)).setCell ⟨ob,2,none⟩ (.slice a5 m5 d5)).setCell ⟨ob,3,none⟩ (.slice a5' m5' d5')).setCell ⟨ob,4,none⟩ (.slice (some ⟨X,0,none⟩) p.vars.length p.vars.length)).setCell ⟨ob,5,none⟩ (.slice (some ⟨Y,0,none⟩) p.rows.length p.rows.length)).setCell ⟨ob,6,none⟩ (.slice none 0 0)=w17 at *
      have g0:=cellq HPo.out.1 0 rfl
      have g1:=cellq HPo.out.1 1 rfl
      have g2:=cellq HPo.out.1 2 rfl
      have g3:=cellq HPo.out.1 3 rfl
      have g4:=cellq HPo.out.1 4 rfl
      have g5:=cellq HPo.out.1 5 rfl
      have g6:=cellq HPo.out.1 6 rfl
      go_wp2
      exact bodyPost_ret (v:=.agg #[.int .i64 0,.bool n5,.slice a5 m5 d5,.slice a5' m5' d5',.slice (some ⟨X,0,none⟩) p.vars.length p.vars.length,.slice (some ⟨Y,0,none⟩) p.rows.length p.rows.length,.slice none 0 0]) (by simp [results,Tryz.results86,go_sem,g0,g1,g2,g3,g4,g5,g6]) rfl HF.out
     ·obtain rfl:oc=(c:Int):=by rw [<- HOC.out.1,hC]; rfl
      have HC:=bH (bI hC hc)
      clear hC hc HOC
      have c0:(0:Int)<=(c:Int):=by omega
      have c1:¬ ((c:Int)<0):=by omega
      have HRa:=bH (ray_any w6 w0.heap.size tb s c V6 T2 p HS6.out.tab.at HS6.out.tab.prg (by omega) HC.out.2 (fun k hk=>(HS6.out.good.sz HS6.out.tab.oks HB.out.1).1 k c hk HC.out.2) (by omega) (by omega))
      go_upto_region 10 with (go_at_call 142; refine HRa.out.mono ?_; rintro r7 w7 ⟨Z,rfl,hZb,hZ,hx7⟩)
      have HS7:=bH (HS6.out.keep hx7)
      have HZ:=bH (bI (HS6.out.nw hZb) hZ)
      have HZb:=bH (Nat.le_trans HS6.out.tab.old.size hZb)
      have HSz:=bH (show ∀ i,i<p.vars.length->Sz (rayN T2 c T2.m i) s from fun i _=>rayN_sz h2s (fun k hk=>(HS6.out.good.sz HS6.out.tab.oks HB.out.1).1 k c hk HC.out.2) i)
      clear HRa HS6 hZb hZ hx7
      obtain ⟨R3,hR3⟩:∃ R,moreR p (rayF p T2 c) true ls ⟨T2,us,false⟩=R:=⟨_,rfl⟩
      cases hb3:R3.b with
      | true =>
       have HR3:=bH (bI hR3 hb3)
       clear hR3 hb3
       go_wp2_with (go_at_call 139; refine (HS7.out.moreYes HB.out.1 h2s hs HB.out.2.1 hls HB.out.2.2 (rayN T2 c T2.m) true HSz.out Z HZ.out.1 HZ.out.2 HR3.out.1 HR3.out.2).mono ?_; rintro r8 w8 ⟨V8,rfl,hs8,hl8,hl9⟩)
       go_roundg (ls.length - R3.us.length)
       case measure=>omega
       case rel=>exact ⟨R3.T,R3.us,V8,rfl,hs8,HG3.out HB1.out T2 HH4.out HB2.out c HC.out.1 R3 HR3.out.1 HR3.out.2⟩
      | false =>
       have HR3:=bH (bI hR3 hb3)
       have HB3:=bH (show (moreR p (rayF p T2 c) true ls ⟨T2,us,false⟩).b=false from by rw [hR3]; exact hb3)
       clear hR3 hb3
       go_upto_region 11 with (go_at_call 139; refine (HS7.out.moreNo HB.out.1 h2s hs HB.out.2.1 hls HB.out.2.2 (rayN T2 c T2.m) true HSz.out Z HZ.out.1 HZ.out.2 HR3.out.1 HR3.out.2).mono ?_; rintro r8 w8 ⟨V8,rfl,hs8,hZ8⟩)
       have HS8:=bH hs8
       have HZ8:=bH hZ8
       clear hs8 hZ8 HS7 HZ HR3
       have HPt:=bH (point_any w8 w0.heap.size tb s V8 T2 p HS8.out.tab.at HS8.out.tab.prg (by omega) (HS8.out.good.sz HS8.out.tab.oks HB.out.1).2.1 h2s (by omega))
       go_wp2_with (go_at_call 143; refine HPt.out.mono ?_; rintro r9 w9 ⟨X,rfl,hXb,hX,hx9⟩; have HS9:=bH (HS8.out.keep hx9); have HX9:=bH hX; have HZ9:=bH (HZ8.out.keep hx9); have HXb:=bH (Nat.le_trans HS8.out.tab.old.size hXb); clear hXb hX hx9; have t0:=cellq HS9.out.obx 0 rfl; have t1:=cellq HS9.out.obx 1 rfl; have t2:=cellq HS9.out.obx 2 rfl; have t3:=cellq HS9.out.obx 3 rfl; have t4:=cellq HS9.out.obx 4 rfl; have t5:=cellq HS9.out.obx 5 rfl; have t6:=cellq HS9.out.obx 6 rfl; have f0:=free_of_cells HS9.out.obx 0; have f1:=free_of_cells HS9.out.obx 1; have f2:=free_of_cells HS9.out.obx 2; have f3:=free_of_cells HS9.out.obx 3; have f4:=free_of_cells HS9.out.obx 4; have f5:=free_of_cells HS9.out.obx 5; have f6:=free_of_cells HS9.out.obx 6)
       have HPo:=bH (outBox_put HS9.out.obx (.int .i64 2) (.bool false) (.slice none 0 0) (.slice none 0 0) (.slice (some ⟨X,0,none⟩) p.vars.length p.vars.length) (.slice none 0 0) (.slice (some ⟨Z,0,none⟩) p.vars.length p.vars.length))
       have HF:=bH (unb_post HS9.out HB.out.1 h2s HC.out.2 HL.out.2.1 (HGu.out HB1.out T2 HH4.out HB2.out c HC.out.1 HB3.out) HXb.out HZb.out HX9.out HZ9.out HPo.out)
       clear t0 t1 t2 t3 t4 t5 t6 f0 f1 f2 f3 f4 f5 f6
       generalize ((((((w9.setCell ⟨ob,0,none⟩ (.int .i64 2)).setCell ⟨ob,1,none⟩ (.bool false)).setCell ⟨ob,2,none⟩ (.slice none 0 0)).setCell ⟨ob,3,none⟩ (.slice none 0 0)).setCell ⟨ob,4,none⟩ (.slice (some ⟨X,0,none⟩) p.vars.length p.vars.length)).setCell ⟨ob,5,none⟩ (.slice none 0 0)).setCell ⟨ob,6,none⟩ (.slice (some ⟨Z,0,none⟩) p.vars.length p.vars.length)=w17 at *
       have g0:=cellq HPo.out.1 0 rfl
       have g1:=cellq HPo.out.1 1 rfl
       have g2:=cellq HPo.out.1 2 rfl
       have g3:=cellq HPo.out.1 3 rfl
       have g4:=cellq HPo.out.1 4 rfl
       have g5:=cellq HPo.out.1 5 rfl
       have g6:=cellq HPo.out.1 6 rfl
       exact bodyPost_ret (v:=.agg #[.int .i64 2,.bool false,.slice none 0 0,.slice none 0 0,.slice (some ⟨X,0,none⟩) p.vars.length p.vars.length,.slice none 0 0,.slice (some ⟨Z,0,none⟩) p.vars.length p.vars.length]) (by simp [results,Tryz.results86,go_sem,g0,g1,g2,g3,g4,g5,g6]) rfl HF.out
  ·obtain rfl:oi=(i:Int):=by rw [<- HOI.out,hI]; rfl
   have HI:=bH hI
   have hT1:=HS1.out.tab.small
   have HA:=bH HS1.out.tab.at
   obtain ⟨gb,cb,eb,hcb,-,hbc,-⟩:=HA.out.ba.open (show 0<T1.m by omega)
   obtain ⟨ga,ca,ea,hca,-,hac⟩:=HA.out.al.open (show 0<T1.m by omega)
   have b4:w1.cell? ⟨tb,4,none⟩=some V'.ba:=cellq HA.out.box 4 rfl
   have b5:w1.cell? ⟨tb,5,none⟩=some V'.fr:=cellq HA.out.box 5 rfl
   have b7:w1.cell? ⟨tb,7,none⟩=some V'.al:=cellq HA.out.box 7 rfl
   rw [eb] at b4
   rw [ea] at b7
   have a7:=hac i him
   have a4:=hbc i him
   have HAi:=bH (bI hbc hac)
   clear hbc hac eb ea hI HOI hal hbi
   have i0:(0:Int)<=(i:Int):=by omega
   have i1:(i:Int)<(T1.m:Int):=by omega
   have HCl:=bH (fun W (hW:XF w1 W)=>cloneR_any W (V'.rb i) T1.n T1.n (T1.al i) ((HA.out.rows i him).1.keep hW) (by omega))
   have HF:=bH (fun W=>show Calls Tryz.prog 66 #[.int .i64 1] W (RatPost W (((1:Int):Rat))) from rfrom_any W 1 (by decide) (by decide))
   go_upto_region 4 with (go_loud (first | (go_at_call 136; refine (HCl.out _ (Ext.refl _ _)).mono ?_; rintro r2 w2 ⟨v2,rfl,hq2,hx2⟩) | (go_at_call 66; refine (HF.out _).mono ?_; rintro r3 w3 ⟨v3,rfl,h3,hx3⟩; obtain ⟨n3,a3,m3,c3,a3',m3',c3',rfl⟩:=h3.shape) | (at_builtin; refine wpList_appRat rfl (.tmp 19) (.tmp 21) rfl w1.heap.size v2 T1.n (T1.al i) rfl ((hq2.past hx3 (fun _ _=>id) (fun u l k=>k.keep hx3)).past ((Ext.refl (fun _=>False) w3).alloc _) (fun _ _=>id) (fun u l k=>k.keep ((Ext.refl (fun _=>False) w3).alloc _))) ⟨w3.heap.size,0,none⟩ 1 ⟨n3,a3,m3,c3,a3',m3',c3'⟩ _ (h3.keep ((Ext.refl (fun _=>False) w3).alloc _)) rfl (alloc_src0 _ _ _) (by omega) (Nat.le_trans hx2.size (Nat.le_trans hx3.size (by simp))) ?_; intro v6 w6 hq6 hx6)))
   have HW:=bH (show SolveSt w0 w6 tb ob V' T1 p us ls/\XF w1 w6 from by
    have hx:=((hx2.trans hx3).alloc _).own hx6 (fun k e=>hq2.low k e)
    exact ⟨HS1.out.keep hx,hx⟩)
   replace b4:=cell_keep b4 HW.out.2
   replace b5:=cell_keep b5 HW.out.2
   replace a4:=cell_keep a4 HW.out.2
   have HQ:=bH (show RatAt w6 w1.heap.size v6 (T1.n+1) (infW T1 i) from by
    have e:infW T1 i=(fun k=>if k=T1.n then (((1:Int):Rat)) else T1.al i k):=by funext k; rfl
    rw [e]; exact hq6)
   clear b7 a7 hq6 hx6 h3 hx3 hx2 hq2 HCl HF HA HAi
   have HCi:=bH (fun W (hW:XF w6 W)=>cloneI_any W V'.fr w0.heap.size T1.n T1.fr (HW.out.1.tab.keep hW).rest.fr (by omega))
   have HOb:=bH HW.out.1.obx
   have HMu:=bH (fun W (v:Value) (hW:XF w6 W) (hI:NRow W v (T1.n+1) (infV T1 i))=>HW.out.1.mult hW hI (HQ.out.qrow (by omega)) (infV_lt HW.out.1 him) (infW_sz HW.out.1 HB.out.1 h2s him) h2s (by have:=HL.out.2.2.2; have e:=HW.out.1.tab.hn; rw [e]; rw [Nat.mul_add] at this ⊢; omega) hrn)
   have HInf:=bH (fun w16 w17 Y (hYb:w6.heap.size<=Y) (hx:XF w6 w16) hY hP=>inf_post (w17:=w17) (Y:=Y) HW.out.1 HB.out.1 h2s him HL.out.1 hrn HH1.out HI.out HSR.out (Nat.le_trans HW.out.1.tab.old.size hYb) hx hY hP)
   clear hcb hca hT1
   have hT1n:T1.n<=1000:=HW.out.1.tab.small.1
   have c4:=cqo (S:=fun _=>False) b4 id
   have c5:=cqo (S:=fun _=>False) b5 id
   have ca:=cqo (S:=fun _=>False) a4 id
   clear b4 b5 a4
   refine mbegin 18 (XF w6) (by kernel_rfl) ((Ext.refl _ w6).drew) (fun hHeld=>?_)
   refine mu 0 (h:=(mu 1 (h:=(mu 2 (h:=(mu 3 (h:=(mu 4 (h:=(mu 6 (h:=(mu 7 (h:=(mu 8 (h:=(mu 9 (h:=(mu 10 (h:=(mu 11 (h:=(mu 12 (h:=(mu 15 (h:=?_)))))))))))))))))))))))))
   (try go_frame)
   refine mtwo 5 13 rfl rfl (by kernel_rfl) (fun K hK=>?_) (fun K hK=>?_)
   ·go_simp
    have hlo5:w6.heap.size<=w6.drew.heap.size:=hHeld.size
    go_at_call 138; (with_reducible refine (HCi.out _ hHeld).mono ?_); rintro q5 w15 ⟨v5,rfl,hc5,hx5⟩
    have hbs5:w6.drew.heap.size<=w15.heap.size:=hx5.size
    refine hK.out _ _ (hHeld.trans hx5) (fun hHeld=>?_)
    clear hK K
    (try go_frame)
    refine mst 13 (h:=fun K hK=>?_)
    go_simp
    have hsrc13:∀ (j:Nat) (u:Value),([.int .i64 (T1.ba i:Int)]:List Value)[j]?=some u->(w15.alloc (.cells #[.int .i64 (T1.ba i:Int)] 3)).cell? ((⟨w15.heap.size,0,none⟩:Addr).add j)=some u:=alloc_src0 _ _ _
    have hxg:XF w15 (w15.alloc (.cells #[.int .i64 (T1.ba i:Int)] 3)):=(Ext.refl (fun _=>False) w15).alloc (.cells #[.int .i64 (T1.ba i:Int)] 3)
    replace hc5:=hc5.past hxg (fun _ _=>id)
    replace hbs5:=Nat.le_trans hbs5 hxg.size
    refine hK.out _ _ (hHeld.alloc _) (fun hHeld=>?_)
    clear hK K
    (try go_frame)
    refine mst 14 (h:=fun K hK=>?_)
    refine step_app rfl _ _ rfl Tryz.underlying42 Tryz.infoInt1 rfl (int_noD 0) (by decide) (by decide) _ v5 T1.n (intL T1.n T1.fr) rfl hc5.own.1 hc5.own.2 (intL_noD _ _) ⟨w15.heap.size,0,none⟩ 1 [.int .i64 (T1.ba i:Int)] rfl rfl hsrc13 (int_one _) (int_noD _) (by omega) hbs5 (fun v14 w14 ha14=>?_)
    have HIa:=bH ((IntAt.app ha14).nrow (by omega))
    refine hK.out _ _ (hHeld.own ha14.ext (fun k e=>Nat.le_trans hlo5 (hc5.low k e))) (fun hHeld=>?_)
    clear hK K
    (try go_frame)
    refine mst 16 (h:=fun K hK=>?_)
    go_simp
    go_at_call 137; (with_reducible refine (HMu.out _ _ hHeld HIa.out).mono ?_); rintro q6 w16 ⟨Y,rfl,hYb,hY,hx16⟩
    have hYl:=Nat.le_trans hHeld.size hYb
    refine hK.out _ _ (hHeld.trans hx16) (fun hHeld=>?_)
    clear hK K
    (try go_frame)
    refine mu 17 (h:=?_)
    (try go_frame)
    have hbo:=blk_keep HOb.out hHeld
    have t0:=cellq hbo 0 rfl
    have t1:=cellq hbo 1 rfl
    have t2:=cellq hbo 2 rfl
    have t3:=cellq hbo 3 rfl
    have t4:=cellq hbo 4 rfl
    have t5:=cellq hbo 5 rfl
    have t6:=cellq hbo 6 rfl
    have f0:=free_of_cells hbo 0
    have f1:=free_of_cells hbo 1
    have f2:=free_of_cells hbo 2
    have f3:=free_of_cells hbo 3
    have f4:=free_of_cells hbo 4
    have f5:=free_of_cells hbo 5
    have f6:=free_of_cells hbo 6
    refine ml 18 (h:=fun K hK=>?_)
    go_simp
    refine hK.out _ _ ?_
    clear hK K
    (try go_frame)
    refine mdone (by kernel_rfl) ?_ _
    have HPo:=bH (outBox_put hbo (.int .i64 1) (.bool false) (.slice none 0 0) (.slice none 0 0) (.slice none 0 0) (.slice (some ⟨Y,0,none⟩) p.rows.length p.rows.length) (.slice none 0 0))
    have HF:=bH (HInf.out _ _ _ hYl hHeld hY HPo.out)
    clear t0 f0 t1 f1 t2 f2 t3 f3 t4 f4 t5 f5 t6 f6
    generalize ((((((w16.setCell ⟨ob,0,none⟩ (.int .i64 1)).setCell ⟨ob,1,none⟩ (.bool false)).setCell ⟨ob,2,none⟩ (.slice none 0 0)).setCell ⟨ob,3,none⟩ (.slice none 0 0)).setCell ⟨ob,4,none⟩ (.slice none 0 0)).setCell ⟨ob,5,none⟩ (.slice (some ⟨Y,0,none⟩) p.rows.length p.rows.length)).setCell ⟨ob,6,none⟩ (.slice none 0 0)=w17 at *
    have g0:=cellq HPo.out.1 0 rfl
    have g1:=cellq HPo.out.1 1 rfl
    have g2:=cellq HPo.out.1 2 rfl
    have g3:=cellq HPo.out.1 3 rfl
    have g4:=cellq HPo.out.1 4 rfl
    have g5:=cellq HPo.out.1 5 rfl
    have g6:=cellq HPo.out.1 6 rfl
    go_wp2
    exact bodyPost_ret (v:=.agg #[.int .i64 1,.bool false,.slice none 0 0,.slice none 0 0,.slice none 0 0,.slice (some ⟨Y,0,none⟩) p.rows.length p.rows.length,.slice none 0 0]) (by simp [results,Tryz.results86,go_sem,g0,g1,g2,g3,g4,g5,g6]) rfl HF.out
   ·go_simp
    have hsrc13:∀ (j:Nat) (u:Value),([.int .i64 (T1.ba i:Int)]:List Value)[j]?=some u->((w6.alloc (.cells #[.int .i64 (T1.ba i:Int)] 3)).drew).cell? ((⟨w6.heap.size,0,none⟩:Addr).add j)=some u:=alloc_src _ _ _
    refine hK.out _ _ (hHeld.alloc _) (fun hHeld=>?_)
    clear hK K
    (try go_frame)
    refine mst 5 (h:=fun K hK=>?_)
    go_simp
    have hlo5:w6.heap.size<=((w6.alloc (.cells #[.int .i64 (T1.ba i:Int)] 3)).drew).heap.size:=hHeld.size
    go_at_call 138; (with_reducible refine (HCi.out _ hHeld).mono ?_); rintro q5 w15 ⟨v5,rfl,hc5,hx5⟩
    have hbs5:((w6.alloc (.cells #[.int .i64 (T1.ba i:Int)] 3)).drew).heap.size<=w15.heap.size:=hx5.size
    replace hsrc13:=src_keep hsrc13 hx5
    refine hK.out _ _ (hHeld.trans hx5) (fun hHeld=>?_)
    clear hK K
    (try go_frame)
    refine mst 14 (h:=fun K hK=>?_)
    refine step_app rfl _ _ rfl Tryz.underlying42 Tryz.infoInt1 rfl (int_noD 0) (by decide) (by decide) _ v5 T1.n (intL T1.n T1.fr) rfl hc5.own.1 hc5.own.2 (intL_noD _ _) ⟨w6.heap.size,0,none⟩ 1 [.int .i64 (T1.ba i:Int)] rfl rfl hsrc13 (int_one _) (int_noD _) (by omega) hbs5 (fun v14 w14 ha14=>?_)
    have HIa:=bH ((IntAt.app ha14).nrow (by omega))
    refine hK.out _ _ (hHeld.own ha14.ext (fun k e=>Nat.le_trans hlo5 (hc5.low k e))) (fun hHeld=>?_)
    clear hK K
    (try go_frame)
    refine mst 16 (h:=fun K hK=>?_)
    go_simp
    go_at_call 137; (with_reducible refine (HMu.out _ _ hHeld HIa.out).mono ?_); rintro q6 w16 ⟨Y,rfl,hYb,hY,hx16⟩
    have hYl:=Nat.le_trans hHeld.size hYb
    refine hK.out _ _ (hHeld.trans hx16) (fun hHeld=>?_)
    clear hK K
    (try go_frame)
    refine mu 17 (h:=?_)
    (try go_frame)
    have hbo:=blk_keep HOb.out hHeld
    have t0:=cellq hbo 0 rfl
    have t1:=cellq hbo 1 rfl
    have t2:=cellq hbo 2 rfl
    have t3:=cellq hbo 3 rfl
    have t4:=cellq hbo 4 rfl
    have t5:=cellq hbo 5 rfl
    have t6:=cellq hbo 6 rfl
    have f0:=free_of_cells hbo 0
    have f1:=free_of_cells hbo 1
    have f2:=free_of_cells hbo 2
    have f3:=free_of_cells hbo 3
    have f4:=free_of_cells hbo 4
    have f5:=free_of_cells hbo 5
    have f6:=free_of_cells hbo 6
    refine ml 18 (h:=fun K hK=>?_)
    go_simp
    refine hK.out _ _ ?_
    clear hK K
    (try go_frame)
    refine mdone (by kernel_rfl) ?_ _
    have HPo:=bH (outBox_put hbo (.int .i64 1) (.bool false) (.slice none 0 0) (.slice none 0 0) (.slice none 0 0) (.slice (some ⟨Y,0,none⟩) p.rows.length p.rows.length) (.slice none 0 0))
    have HF:=bH (HInf.out _ _ _ hYl hHeld hY HPo.out)
    clear t0 f0 t1 f1 t2 f2 t3 f3 t4 f4 t5 f5 t6 f6
    generalize ((((((w16.setCell ⟨ob,0,none⟩ (.int .i64 1)).setCell ⟨ob,1,none⟩ (.bool false)).setCell ⟨ob,2,none⟩ (.slice none 0 0)).setCell ⟨ob,3,none⟩ (.slice none 0 0)).setCell ⟨ob,4,none⟩ (.slice none 0 0)).setCell ⟨ob,5,none⟩ (.slice (some ⟨Y,0,none⟩) p.rows.length p.rows.length)).setCell ⟨ob,6,none⟩ (.slice none 0 0)=w17 at *
    have g0:=cellq HPo.out.1 0 rfl
    have g1:=cellq HPo.out.1 1 rfl
    have g2:=cellq HPo.out.1 2 rfl
    have g3:=cellq HPo.out.1 3 rfl
    have g4:=cellq HPo.out.1 4 rfl
    have g5:=cellq HPo.out.1 5 rfl
    have g6:=cellq HPo.out.1 6 rfl
    go_wp2
    exact bodyPost_ret (v:=.agg #[.int .i64 1,.bool false,.slice none 0 0,.slice none 0 0,.slice none 0 0,.slice (some ⟨Y,0,none⟩) p.rows.length p.rows.length,.slice none 0 0]) (by simp [results,Tryz.results86,go_sem,g0,g1,g2,g3,g4,g5,g6]) rfl HF.out
theorem exchQ {N:Nat} {D:Tb} (Q:Nat->Tb->Prop) (hQ:∀ i D v u,D.M v u≠0->u<N->Q i D->Q (i+1) (pivT D v u)) (hD:Wf N D):∀ (k:Nat) {D0:Tb},Wf N D0->Equ N D0 D->cntN (fun t=>D.B t && !D0.B t) N=k->∃ E,Wf N E/\Equ N E D/\(∀ t,E.B t=D.B t)/\∀ i,Q i D0->Q (i+k) E
 | 0,D0,h0,he,hc=>by
  have hsub:∀ t,t<N->D.B t=true->D0.B t=true:=fun t ht hb=>by
   have:=cntN_zero hc t ht
   rw [hb] at this
   simpa using this
  refine ⟨D0,h0,he,fun t=>?_,fun i hi=>hi⟩
  cases hDt:D.B t with
  | true=>exact hsub t (hD.dom t hDt) hDt
  | false =>
   cases h0t:D0.B t with
   | false=>rfl
   | true =>
    have htN:=h0.dom t h0t
    have h1:=ext_sol hD 0 (oneAt t)
    have h2:=sol_basic h0 ((he.sol _ _).2 h1) h0t
    have h3:sumTo N (fun u=>if D0.B u=true then 0 else D0.M t u*extT N D 0 (oneAt t) u)=0:=by
     refine sumTo_zero' fun u hu=>?_
     cases h0u:D0.B u with
     | true=>rfl
     | false =>
      have hDu:D.B u=false:=by
       cases hb:D.B u with
       | false=>rfl
       | true=>rw [hsub u hu hb] at h0u; cases h0u
      have h4:extT N D 0 (oneAt t) u=0:=by
       rw [ext_free hDu]
       unfold oneAt
       exact if_neg (fun e=>by subst e; rw [h0t] at h0u; cases h0u)
      rw [h4]; simp
    rw [h3,ext_free hDt] at h2
    unfold oneAt at h2
    rw [if_pos rfl] at h2
    grind
 | k+1,D0,h0,he,hc=>by
  obtain ⟨u,huN,hu⟩:=cntN_pos (f:=fun t=>D.B t && !D0.B t) (n:=N) (by omega)
  simp only [Bool.and_eq_true,Bool.not_eq_true'] at hu
  obtain ⟨huD,hu0⟩:=hu
  have hv:∃ v,D0.B v=true/\D.B v=false/\D0.M v u≠0:=by
   refine Classical.byContradiction fun hn=>?_
   have hz:∀ v,D0.B v=true->D.B v=false->D0.M v u=0:=fun v h1 h2=>Classical.byContradiction fun h3=>hn ⟨v,h1,h2,h3⟩
   have h1:=ext_sol h0 0 (oneAt u)
   have h2:=sol_basic hD ((he.sol _ _).1 h1) huD
   have h3:sumTo N (fun t=>if D.B t=true then 0 else D.M u t*extT N D0 0 (oneAt u) t)=0:=by
    refine sumTo_zero' fun t ht=>?_
    cases hDt:D.B t with
    | true=>rfl
    | false =>
     have:extT N D0 0 (oneAt u) t=0:=by
      cases h0t:D0.B t with
      | true =>
       rw [ext_basic h0t,sum_oneAt _ huN hu0,hz t h0t hDt]; grind
      | false =>
       rw [ext_free h0t]
       unfold oneAt
       rw [if_neg (fun e=>by rw [e,huD] at hDt; cases hDt)]
     rw [this]; simp
   rw [h3,ext_free hu0] at h2
   unfold oneAt at h2
   rw [if_pos rfl] at h2
   grind
  obtain ⟨v,hv0,hvD,hvu⟩:=hv
  have h1:=pivT_wf h0 hv0 hu0 huN hvu
  have h2:=(pivT_equ (N:=N) hv0 hu0 hvu).symm.trans he
  have h3:cntN (fun t=>D.B t && !(pivT D0 v u).B t) N=k:=by
   have:=cntN_drop (f:=fun t=>D.B t && !D0.B t) (g:=fun t=>D.B t && !(pivT D0 v u).B t) (u:=u) huN (by simp [huD,hu0]) (by simp [pivT]) (fun t ht hne=>by
    show (D.B t && !D0.B t)=(D.B t && !(if t=u then true else if t=v then false else D0.B t))
    rw [if_neg hne]
    by_cases e:t=v
    ·rw [if_pos e,e,hvD]; rfl
    ·rw [if_neg e])
   omega
  obtain ⟨E,g1,g2,g3,g4⟩:=exchQ Q hQ hD k h1 h2 h3
  exact ⟨E,g1,g2,g3,fun i hi=>by
   have:=g4 (i+1) (hQ i _ _ _ hvu huN hi)
   rwa [show i+1+k=i+(k+1) by omega] at this⟩
def Fr (d X:Nat) (q:Rat):Prop:=∃ k:Int,q*(d:Rat)=(k:Rat)/\k.natAbs<=X
theorem Fr.zero (d X:Nat):Fr d X 0:=⟨0,by grind,by simp⟩
theorem Fr.int {X:Nat} {k:Int} (h:k.natAbs<=X):Fr 1 X (k:Rat):=⟨k,by rw [show ((1:Nat):Rat)=1 from rfl]; grind,h⟩
theorem natAbs_sign (k:Int):∃ s:Int,s.natAbs=1/\(k.natAbs:Int)=s*k:=by
 by_cases h:0<=k
 ·exact ⟨1,rfl,by omega⟩
 ·exact ⟨-1,rfl,by omega⟩
theorem Fr.sz {d X s:Nat} {q:Rat} (h:Fr d X q) (hd:0<d) (hdX:d<=X) (hX:X<4294967296 ^ s):Sz q s:=by
 obtain ⟨k,h1,h2⟩:=h
 have hd0:((d:Nat):Rat)≠0:=fun e=>by
  have e2:((d:Nat):Rat)=((0:Nat):Rat):=e
  have:=Rat.natCast_inj.1 e2
  omega
 have hq:mkRat k d=q:=by rw [Rat.mkRat_eq_div]; grind
 obtain ⟨num,den,nz,red⟩:=q
 obtain ⟨m,hm,e1,e2⟩:=Rat.mkRat_num_den (by omega) hq
 have hm1:1<=m:=by omega
 refine ⟨dg_length_le (Nat.lt_of_le_of_lt ?_ hX),dg_length_le (Nat.lt_of_le_of_lt ?_ hX)⟩
 ·show num.natAbs<=X
  have:k.natAbs=num.natAbs*m:=by rw [e1,Int.natAbs_mul,Int.natAbs_natCast]
  have h3:=Nat.le_mul_of_pos_right num.natAbs (show 0<m by omega)
  omega
 ·show den<=X
  have h3:=Nat.le_mul_of_pos_right den (show 0<m by omega)
  omega
def CD (N:Nat) (D:Tb) (X:Nat):Prop:=∃ d:Nat,0<d/\d<=X/\(∀ w t,t<N->Fr d X (D.M w t))/\(∀ w,Fr d X (D.b w))/\∀ t,t<N->Fr d X (D.d t)
theorem CD.bnd {N X s:Nat} {D:Tb} (h:CD N D X) (hX:X<4294967296 ^ s):Bnd N D s:=by
 obtain ⟨d,h1,h2,h3,h4,h5⟩:=h
 exact ⟨fun w t ht=>(h3 w t ht).sz h1 h2 hX,fun w=>(h4 w).sz h1 h2 hX,fun t ht=>(h5 t ht).sz h1 h2 hX⟩
section
variable {d X:Nat} {q a b c:Rat}
theorem mul2 {x y:Nat} (hx:x<=X) (hy:y<=X):x*y<=X*X:=Nat.mul_le_mul hx hy
theorem Fr.quot {kc s:Int} (hs:s.natAbs=1) (hn:(kc.natAbs:Int)=s*kc) (hc:c*(d:Rat)=(kc:Rat)) (hcX:kc.natAbs<=X) (hc0:c≠0) (hdX:d<=X) (hb:Fr d X b):Fr (d*kc.natAbs) (2*(X*X)) (b / c):=by
 obtain ⟨kb,hb1,hb2⟩:=hb
 have hn':((kc.natAbs:Nat):Rat)=(s:Rat)*(kc:Rat):=by
  rw [<- Rat.intCast_natCast,hn,Rat.intCast_mul]
 have hr:b / c*c=b:=by grind
 refine ⟨s*kb*d,?_,?_⟩
 ·rw [Rat.natCast_mul,hn',Rat.intCast_mul,Rat.intCast_mul,Rat.intCast_natCast]
  generalize b / c=r at *
  grind
 ·rw [Int.natAbs_mul,Int.natAbs_mul,hs,Int.natAbs_natCast,Nat.one_mul]
  have:=mul2 hb2 hdX
  omega
theorem Fr.step {kc s:Int} (hs:s.natAbs=1) (hn:(kc.natAbs:Int)=s*kc) (hc:c*(d:Rat)=(kc:Rat)) (hcX:kc.natAbs<=X) (hc0:c≠0) (hq:Fr d X q) (ha:Fr d X a) (hb:Fr d X b):Fr (d*kc.natAbs) (2*(X*X)) (q - a*(b / c)):=by
 obtain ⟨kq,hq1,hq2⟩:=hq
 obtain ⟨ka,ha1,ha2⟩:=ha
 obtain ⟨kb,hb1,hb2⟩:=hb
 have hn':((kc.natAbs:Nat):Rat)=(s:Rat)*(kc:Rat):=by
  rw [<- Rat.intCast_natCast,hn,Rat.intCast_mul]
 have hr:b / c*c=b:=by grind
 refine ⟨s*(kq*kc - ka*kb),?_,?_⟩
 ·rw [Rat.natCast_mul,hn',Rat.intCast_mul,Rat.intCast_sub,Rat.intCast_mul,Rat.intCast_mul]
  generalize b / c=r at *
  grind
 ·rw [Int.natAbs_mul,hs,Nat.one_mul]
  have h1:=Int.natAbs_sub_le (kq*kc) (ka*kb)
  rw [Int.natAbs_mul,Int.natAbs_mul] at h1
  have h2:=mul2 hq2 hcX
  have h3:=mul2 ha2 hb2
  omega
end
theorem pivT_cd {N X:Nat} {D:Tb} {v u:Nat} (h:CD N D X) (hu:u<N) (h0:D.M v u≠0):CD N (pivT D v u) (2*(X*X)):=by
 obtain ⟨d,h1,h2,h3,h4,h5⟩:=h
 obtain ⟨kc,hc,hcX⟩:=h3 v u hu
 obtain ⟨s,hs,hn⟩:=natAbs_sign kc
 have hk0:kc.natAbs≠0:=fun e=>by
  have e2:kc=0:=by omega
  subst e2
  have hd0:((d:Nat):Rat)≠0:=fun e=>by
   have e2:((d:Nat):Rat)=((0:Nat):Rat):=e
   have:=Rat.natCast_inj.1 e2
   omega
  have:D.M v u*(d:Rat)=0:=hc
  grind
 have hm:=mul2 h2 hcX
 refine ⟨d*kc.natAbs,Nat.mul_pos h1 (by omega),by omega,fun w t ht=>?_,fun w=>?_,fun t ht=>?_⟩
 ·show Fr _ _ (if w=u then D.M v t / D.M v u else if w=v then 0 else D.M w t - D.M w u*(D.M v t / D.M v u))
  split
  ·exact Fr.quot hs hn hc hcX h0 h2 (h3 v t ht)
  ·split
   ·exact Fr.zero _ _
   ·exact Fr.step hs hn hc hcX h0 (h3 w t ht) (h3 w u hu) (h3 v t ht)
 ·show Fr _ _ (if w=u then D.b v / D.M v u else if w=v then 0 else D.b w - D.M w u*(D.b v / D.M v u))
  split
  ·exact Fr.quot hs hn hc hcX h0 h2 (h4 v)
  ·split
   ·exact Fr.zero _ _
   ·exact Fr.step hs hn hc hcX h0 (h4 w) (h3 w u hu) (h4 v)
 ·exact Fr.step hs hn hc hcX h0 (h5 t ht) (h5 u hu) (h3 v t ht)
def expN (e:Nat):Nat->Nat
 | 0=>e
 | k+1=>2*expN e k+1
theorem expN_mono (e:Nat):∀ {k m:Nat},k<=m->expN e k<=expN e m
 | k,0,h=>by
  have:k=0:=by omega
  subst this
  exact Nat.le_refl _
 | k,m+1,h=>by
  by_cases e1:k=m+1
  ·subst e1; exact Nat.le_refl _
  ·have:=expN_mono e (k:=k) (m:=m) (by omega)
   show expN e k<=2*expN e m+1
   omega
theorem exch_cd {N m e s:Nat} {D D0:Tb} (hD:Wf N D) (h0:Wf N D0) (he:Equ N D0 D) (hB:∀ t,m<=t->t<N->D0.B t=true) (hb:CD N D0 (2 ^ e)) (hs:expN e m<32*s):Bnd N D s:=by
 obtain ⟨E,g1,g2,g3,g4⟩:=exchQ (fun i D=>CD N D (2 ^ expN e i)) (fun i D v u hne hu hc=>by
  have:=pivT_cd hc hu hne
  have e2:2*(2 ^ expN e i*2 ^ expN e i)=2 ^ expN e (i+1):=by
   show _=2 ^ (2*expN e i+1)
   rw [Nat.pow_succ,show 2*expN e i=expN e i+expN e i by omega,Nat.pow_add]; omega
  rwa [e2] at this) hD _ h0 he rfl
 have hle:cntN (fun t=>D.B t && !D0.B t) N<=m:=by
  refine cntN_le (fun t ht=>?_) N
  by_cases htN:t<N
  ·rw [hB t ht htN]; simp
  ·cases hb:D.B t with
   | false=>rfl
   | true=>exact absurd (hD.dom t hb) htN
 have h1:=g4 0 hb
 rw [Nat.zero_add] at h1
 have h2:Bnd N E s:=h1.bnd (by
  rw [show (4294967296:Nat)=2 ^ 32 from rfl,<- Nat.pow_mul]
  refine Nat.pow_lt_pow_right (by omega) ?_
  have:=expN_mono e hle
  omega)
 obtain ⟨k1,k2,k3,_⟩:=g2.same g1 hD g3
 exact ⟨fun w t ht=>by rw [<- k1 w t ht]; exact h2.M w t ht,fun w=>by rw [<- k2 w]; exact h2.b w,fun t ht=>by rw [<- k3 t ht]; exact h2.d t ht⟩
theorem int_sum {c:Nat} {f:Nat->Rat}:∀ {n:Nat},(∀ i,i<n->∃ k:Int,f i=(k:Rat)/\k.natAbs<=c)->∃ k:Int,sumTo n f=(k:Rat)/\k.natAbs<=n*c
 | 0,_=>⟨0,rfl,by simp⟩
 | n+1,h=>by
  obtain ⟨k,h1,h2⟩:=int_sum (n:=n) (fun i hi=>h i (by omega))
  obtain ⟨m,h3,h4⟩:=h n (by omega)
  refine ⟨k+m,by rw [Rat.intCast_add,<- h1,<- h3]; rfl,?_⟩
  have:=Int.natAbs_add_le k m
  rw [Nat.add_mul]; omega
theorem lim_abs {z:Int} (h:limB z=true):z.natAbs<=1099511627776:=by
 unfold limB at h
 simp only [Bool.and_eq_true,decide_eq_true_eq] at h
 omega
theorem terms_facts {n:Int}:∀ {l:List TermV} {last:Int},termsB n last l=true->(l≠[]->last+1+l.length<=n)/\∀ t ∈ l,t.coef.natAbs<=1099511627776
 | [],_,_=>⟨fun h=>absurd rfl h,fun t ht=>by cases ht⟩
 | t :: l,last,h=>by
  unfold termsB at h
  simp only [Bool.and_eq_true,decide_eq_true_eq] at h
  obtain ⟨⟨⟨⟨h1,h2⟩,_⟩,h4⟩,h5⟩:=h
  obtain ⟨g1,g2⟩:=terms_facts h5
  refine ⟨fun _=>?_,fun x hx=>?_⟩
  ·by_cases e:l=[]
   ·subst e
    show last+1+((0+1:Nat):Int)<=n
    omega
   ·have:=g1 e
    rw [List.length_cons]; omega
  ·rcases List.mem_cons.1 hx with e | e
   ·rw [e]; exact lim_abs h4
   ·exact g2 x e
section
variable {p:ProgV} {l:LimV}
theorem row_short (hv:validB p=true) {r:Nat} (hr:r<p.rows.length):(p.r r).terms.length<=p.vars.length/\∀ t ∈ (p.r r).terms,t.coef.natAbs<=1099511627776:=by
 have h:=valid_row hv hr
 unfold rowB at h
 simp only [Bool.and_eq_true] at h
 obtain ⟨h1,h2⟩:=terms_facts h.2
 refine ⟨?_,h2⟩
 by_cases e:(p.r r).terms=[]
 ·rw [e]; exact Nat.zero_le _
 ·have:=h1 e
  omega
theorem lim_terms (hv:validB p=true) (h:LimOk p l):(limTs p l).length<=p.vars.length/\∀ k,k<(limTs p l).length->((limTs p l).getD k term0).coef.natAbs<=1099511627776:=by
 rcases h with ⟨h1,h2,_⟩ | ⟨h1,h2,_⟩
 ·have e:limTs p l=[⟨l.var,1⟩]:=if_pos (by omega)
  rw [e]
  refine ⟨by show 1<=_; omega,fun k hk=>?_⟩
  have:k=0:=by simpa using hk
  subst this
  show (1:Int).natAbs<=1099511627776
  decide
 ·have e:limTs p l=(p.r l.row.toNat).terms:=if_neg (by omega)
  rw [e]
  obtain ⟨g1,g2⟩:=row_short hv h2
  refine ⟨g1,fun k hk=>g2 _ ?_⟩
  rw [List.getD_eq_getElem?_getD,List.getElem?_eq_getElem hk]
  exact List.getElem_mem hk
theorem sg_abs (l:LimV):(limSg l).natAbs=1:=by
 unfold limSg
 split
 ·rfl
 ·split <;> rfl
theorem limA_int (hv:validB p=true) (h:LimOk p l) (t:Nat):∃ k:Int,limA p l t=(k:Rat)/\k.natAbs<=p.vars.length*1099511627776:=by
 obtain ⟨g1,g2⟩:=lim_terms hv h
 obtain ⟨k,k1,k2⟩:=int_sum (c:=1099511627776) (f:=fun k=>if ((limTs p l).getD k term0).var=(t:Int) then (((limTs p l).getD k term0).coef:Rat)*(limSg l:Rat) else 0) (n:=(limTs p l).length) (fun i hi=>by
  show ∃ k:Int,(if ((limTs p l).getD i term0).var=(t:Int) then (((limTs p l).getD i term0).coef:Rat)*(limSg l:Rat) else 0)=(k:Rat)/\_
  split
  ·refine ⟨((limTs p l).getD i term0).coef*limSg l,by rw [Rat.intCast_mul],?_⟩
   rw [Int.natAbs_mul,sg_abs,Nat.mul_one]; exact g2 i hi
  ·exact ⟨0,rfl,by simp⟩)
 exact ⟨k,k1,Nat.le_trans k2 (Nat.mul_le_mul_right _ g1)⟩
theorem var_abs (hv:validB p=true) {i:Nat} (hi:i<p.vars.length):(p.v i).lo.natAbs<=1099511627776/\(p.v i).up.natAbs<=1099511627776/\(p.v i).co.natAbs<=1099511627776:=by
 have h:=valid_var hv hi
 unfold varB at h
 simp only [Bool.and_eq_true] at h
 exact ⟨lim_abs h.1.1.1,lim_abs h.1.1.2,lim_abs h.1.2⟩
theorem limR_int (hv:validB p=true) (h:LimOk p l):∃ k:Int,limR p l=(k:Rat)/\k.natAbs<=2*1099511627776+p.vars.length*(1099511627776*1099511627776):=by
 have hb:∃ k:Int,limBd p l=(k:Rat)/\k.natAbs<=2*1099511627776+p.vars.length*(1099511627776*1099511627776):=by
  unfold limBd
  rcases h with ⟨h1,h2,h3⟩ | ⟨h1,h2,h3⟩
  ·rw [if_pos (by omega)]
   obtain ⟨a,b,_⟩:=var_abs hv h2
   refine ⟨_,rfl,?_⟩
   have:=Int.natAbs_sub_le (p.v l.var).up (p.v l.var).lo
   omega
  ·rw [if_neg (by omega)]
   have hl:LimOk p l:=.inr ⟨h1,h2,h3⟩
   obtain ⟨g1,g2⟩:=lim_terms hv hl
   obtain ⟨k,k1,k2⟩:=int_sum (c:=1099511627776*1099511627776) (f:=fun k=>(((limTs p l).getD k term0).coef:Rat)*((p.v ((limTs p l).getD k term0).var.toNat).lo:Rat)) (n:=(limTs p l).length) (fun i hi=>by
    refine ⟨((limTs p l).getD i term0).coef*(p.v ((limTs p l).getD i term0).var.toNat).lo,by rw [Rat.intCast_mul],?_⟩
    rw [Int.natAbs_mul]
    have:=hl.terms hv i hi
    exact Nat.mul_le_mul (g2 i hi) (var_abs hv (by omega)).1)
   have hr:=valid_row hv h2
   unfold rowB at hr
   simp only [Bool.and_eq_true] at hr
   have hbd:=lim_abs hr.1.1.2
   refine ⟨(p.r l.row.toNat).bound - k,?_,?_⟩
   ·rw [Rat.intCast_sub,<- k1]; rfl
   ·have:=Int.natAbs_sub_le (p.r l.row.toNat).bound k
    have h4:=Nat.mul_le_mul_right (1099511627776*1099511627776) g1
    omega
 obtain ⟨k,k1,k2⟩:=hb
 refine ⟨k*limSg l,?_,?_⟩
 ·unfold limR
  rw [k1,Rat.intCast_mul]
 ·rw [Int.natAbs_mul,sg_abs,Nat.mul_one]; exact k2
end
theorem base_cd {p:ProgV} {us:List LimV} {X:Nat} (hv:validB p=true) (hok:AllOk p us) (hX:2*1099511627776+p.vars.length*(1099511627776*1099511627776)<=X):CD (p.vars.length+us.length) (baseT p us) X:=by
 have h1:∀ k:Int,k.natAbs<=2->Fr 1 X (k:Rat):=fun k hk=>Fr.int (by omega)
 have hm:p.vars.length*1099511627776<=p.vars.length*(1099511627776*1099511627776):=Nat.mul_le_mul_left _ (by decide)
 refine ⟨1,by omega,by omega,fun w t ht=>?_,fun w=>?_,fun t ht=>?_⟩
 ·rw [base_M]
  split
  ·split
   ·obtain ⟨k,k1,k2⟩:=limA_int hv (hok (w - p.vars.length) (by omega)) t
    rw [k1]; exact Fr.int (by omega)
   ·split
    ·exact h1 1 (by decide)
    ·exact h1 0 (by decide)
  ·exact h1 0 (by decide)
 ·rw [base_b]
  split
  ·obtain ⟨k,k1,k2⟩:=limR_int hv (hok (w - p.vars.length) (by omega))
   rw [k1]; exact Fr.int (by omega)
  ·exact h1 0 (by decide)
 ·rw [base_d]
  split
  ·exact Fr.int (by have:=(var_abs hv (i:=t) (by omega)).2.2; omega)
  ·exact h1 0 (by decide)
theorem bndAll_of {p:ProgV} {ls:List LimV} {e s:Nat} (hv:validB p=true) (he:2*1099511627776+p.vars.length*(1099511627776*1099511627776)<=2 ^ e) (hs:expN e p.vars.length<32*s):BndAll p ls s:=fun us _ hok D hD hE =>
 exch_cd hD (base_wf p us) hE (fun t h1 h2=>by rw [base_B]; exact decide_eq_true ⟨h1,h2⟩) (base_cd hv hok he) hs
theorem bndAll6 {p:ProgV} {ls:List LimV} (hv:validB p=true) (hn:p.vars.length<=6):BndAll p ls 168:=by
 refine bndAll_of (e:=83) hv ?_ ?_
 ·have h1:=Nat.mul_le_mul_right (1099511627776*1099511627776) hn
  exact Nat.le_trans (Nat.add_le_add_left h1 _) (by decide)
 ·exact Nat.lt_of_le_of_lt (expN_mono 83 hn) (by decide)
end Go.Proofs.YtbgienfcmdgaaaaGreat
