/-
  Texts of the proof, part 6. Conditions: each lemma names its own.
-/
import Derived.Test.YtglepbhkilbbcaaGreatDoorZ2
import Derived.Test.YtglepbhkilbbcaaGreatDoorZ3
import Derived.Test.YtglepbhkilbbcaaGreatDoorZ4
import Derived.Test.YtglepbhkilbbcaaGreatDoorZ5
import Derived.OpenShut
import Derived.ShutString
import Derived.ChangeOld
import Derived.Deep.Slices
import Derived.Lib.SmallJoins
import Derived.Test.YtglepbhkilbbcaaGreatDoorRows
import Derived.Test.YtglepbhkilbbcaaGreatDoorTie
import Derived.Stop.LaidErr
import Derived.LaidMore
import Derived.MakeChecks
import Derived.Stop.Joined
import Derived.SevenTiedAt
import Derived.Maps.RangeWalk
set_option linter.unusedVariables false
set_option linter.unusedSimpArgs false
set_option maxRecDepth 100000
set_option maxHeartbeats 16000000
namespace Go.Proofs.YtglepbhkilbbcaaGreatDoor
open Go.RowKit Go.MapKept
open Go.ChangeMaps (setBlock)
def lstF (p:ProgV) (c:List Rat) (i:Nat):Rat:=if atQ c i<0 then ((p.v i).up:Rat) else ((p.v i).lo:Rat)
theorem lst_core (w:World) (pv cv xv:Value) (p:ProgV) (c x:List RatV) (hp:IsPrg w pv p) (hc:Raws w cv c) (hx:Raws w xv x) (ht:Tab10 w):Calls Tryz.prog 5 #[pv,cv,xv] w (BoolPost w true):=by
 obtain ⟨vo,vn,vc,ro,rn,rc,rfl⟩:=hp.slices5
 have HLn:=bH (show p.vars.length=vn/\p.rows.length=rn from by
  obtain ⟨vv,rv,e,h,h2⟩:=hp
  cases e
  obtain ⟨_,_,e,_⟩:=h.shape
  obtain ⟨_,_,e2,_⟩:=h2.shape
  cases e; cases e2
  exact ⟨rfl,rfl⟩)
 obtain ⟨co,cc,rfl,-⟩:=hc.shape
 obtain ⟨xo,xc,rfl,-⟩:=hx.shape
 have hxa0:=(Ext.refl (fun _=>False) w).alloc (.cells #[.slice vo vn vc,.slice ro rn rc] 25)
 obtain ⟨cn,hcn⟩:∃ n,c.length=n:=⟨_,rfl⟩
 rw [hcn] at hc ⊢
 clear hcn
 obtain ⟨xn,hxn⟩:∃ n,x.length=n:=⟨_,rfl⟩
 rw [hxn] at hx ⊢
 clear hxn
 have hxb:=(Ext.refl (fun _=>False) (w.alloc (.cells #[.slice vo vn vc,.slice ro rn rc] 25))).alloc (.cells #[.slice co cn cc] 32)
 have hxa:=hxa0.trans hxb
 have HB:=bH (bI (hp.keep hxa) (bI (blk_keep (blk_alloc_at w (.cells #[.slice vo vn vc,.slice ro rn rc] 25)) hxb) hxa))
 have HCb:=bH (show blk ((w.alloc (.cells #[.slice vo vn vc,.slice ro rn rc] 25)).alloc (.cells #[.slice co cn cc] 32)) (w.heap.size+1)=some (.cells #[.slice co cn cc] 32 (0,0)) from by have h:=blk_alloc_at (w.alloc (.cells #[.slice vo vn vc,.slice ro rn rc] 25)) (.cells #[.slice co cn cc] 32); rwa [World.size_alloc] at h)
 have HTb:=bH (fun W (hW:XF w W)=>ht.keep hW)
 have HXx:=bH (fun W (hW:XF ((w.alloc (.cells #[.slice vo vn vc,.slice ro rn rc] 25)).alloc (.cells #[.slice co cn cc] 32)) W)=>hx.keep (hxa.trans hW))
 have HXc:=bH (fun W (hW:XF ((w.alloc (.cells #[.slice vo vn vc,.slice ro rn rc] 25)).alloc (.cells #[.slice co cn cc] 32)) W)=>hc.keep (hxa.trans hW))
 clear hp hxa hxb hxa0 ht hx hc
 go_enter Tryz.func5,Tryz.ntmps5
 go_upto_region 1 with fail
 generalize (w.alloc (.cells #[.slice vo vn vc,.slice ro rn rc] 25)).alloc (.cells #[.slice co cn cc] 32)=w1 at *
 obtain ⟨pb,hpb⟩:∃ q,w.heap.size=q:=⟨_,rfl⟩
 rw [hpb] at HB HCb ⊢
 have HPb:=bH (Nat.le_of_eq hpb)
 clear hpb
 obtain ⟨cb,hcb⟩:∃ q,pb+1=q:=⟨_,rfl⟩
 rw [hcb] at HCb ⊢
 clear hcb
 have p0:w1.cell? ⟨pb,0,none⟩=some (.slice vo vn vc):=cellq HB.out.2.1 0 rfl
 have p1:w1.cell? ⟨pb,1,none⟩=some (.slice ro rn rc):=cellq HB.out.2.1 1 rfl
 have c0:w1.cell? ⟨cb,0,none⟩=some (.slice co cn cc):=cellq HCb.out 0 rfl
 have HC0:=bH (fun W (hW:XF w1 W)=>show Calls Tryz.prog 9 #[(.agg #[.slice vo vn vc,.slice ro rn rc]),.int .i64 6,.int .i64 6] W (BoolPost W (fewP p 6 6)) from FewP_any W (.agg #[.slice vo vn vc,.slice ro rn rc]) p 6 6 (by decide) (by decide) (HB.out.1.keep hW))
 obtain ⟨b0,hb0⟩:∃ b,fewP p 6 6=b:=⟨_,rfl⟩
 rw [hb0] at HC0
 have HG0:=bH hb0
 clear hb0
 cases b0 with
 | false =>
  go_upto_region 2 with (first | (go_at_call 8; refine (awake4_any _ (HTb.out _ HB.out.2.2)).mono ?_; rintro q2 w2 ⟨rfl,hx2⟩; replace p0:=cell_keep p0 hx2; replace p1:=cell_keep p1 hx2; replace c0:=cell_keep c0 hx2) | (go_at_call 9; (with_reducible refine (HC0.out _ (hx2)).mono ?_); rintro q3 w3 ⟨rfl,hx3⟩; replace p0:=cell_keep p0 hx3; replace p1:=cell_keep p1 hx3; replace c0:=cell_keep c0 hx3))
  go_wp2_with (go_at_call 8; refine (awake4_any _ (HTb.out _ (HB.out.2.2.trans (hx2.trans hx3)))).mono ?_; rintro r8 w8 ⟨rfl,hx8⟩)
  go_ret
  exact ⟨rfl,(HB.out.2.2.trans (hx2.trans hx3)).trans hx8⟩
 | true =>
 have HC1:=bH (fun W (hW:XF w1 W)=>show Calls Tryz.prog 15 #[.slice xo xn xc,.int .i64 8] W (BoolPost W (shortB x 8)) from Short_any W (.slice xo xn xc) x 8 (by decide) (HXx.out W hW))
 obtain ⟨b1,hb1⟩:∃ b,shortB x 8=b:=⟨_,rfl⟩
 rw [hb1] at HC1
 have HG1:=bH hb1
 clear hb1
 cases b1 with
 | false =>
  go_upto_region 2 with (first | (go_at_call 8; refine (awake4_any _ (HTb.out _ HB.out.2.2)).mono ?_; rintro q2 w2 ⟨rfl,hx2⟩; replace p0:=cell_keep p0 hx2; replace p1:=cell_keep p1 hx2; replace c0:=cell_keep c0 hx2) | (go_at_call 9; (with_reducible refine (HC0.out _ (hx2)).mono ?_); rintro q3 w3 ⟨rfl,hx3⟩; replace p0:=cell_keep p0 hx3; replace p1:=cell_keep p1 hx3; replace c0:=cell_keep c0 hx3) | (go_at_call 15; (with_reducible refine (HC1.out _ (hx2.trans hx3)).mono ?_); rintro q4 w4 ⟨rfl,hx4⟩; replace p0:=cell_keep p0 hx4; replace p1:=cell_keep p1 hx4; replace c0:=cell_keep c0 hx4))
  go_wp2_with (go_at_call 8; refine (awake4_any _ (HTb.out _ (HB.out.2.2.trans ((hx2.trans hx3).trans hx4)))).mono ?_; rintro r8 w8 ⟨rfl,hx8⟩)
  go_ret
  exact ⟨rfl,(HB.out.2.2.trans ((hx2.trans hx3).trans hx4)).trans hx8⟩
 | true =>
 have HC2:=bH (fun W (hW:XF w1 W)=>show Calls Tryz.prog 15 #[.slice co cn cc,.int .i64 8] W (BoolPost W (shortB c 8)) from Short_any W (.slice co cn cc) c 8 (by decide) (HXc.out W hW))
 obtain ⟨b2,hb2⟩:∃ b,shortB c 8=b:=⟨_,rfl⟩
 rw [hb2] at HC2
 have HG2:=bH hb2
 clear hb2
 cases b2 with
 | false =>
  go_upto_region 2 with (first | (go_at_call 8; refine (awake4_any _ (HTb.out _ HB.out.2.2)).mono ?_; rintro q2 w2 ⟨rfl,hx2⟩; replace p0:=cell_keep p0 hx2; replace p1:=cell_keep p1 hx2; replace c0:=cell_keep c0 hx2) | (go_at_call 9; (with_reducible refine (HC0.out _ (hx2)).mono ?_); rintro q3 w3 ⟨rfl,hx3⟩; replace p0:=cell_keep p0 hx3; replace p1:=cell_keep p1 hx3; replace c0:=cell_keep c0 hx3) | (go_at_call 15; (with_reducible refine (HC1.out _ (hx2.trans hx3)).mono ?_); rintro q4 w4 ⟨rfl,hx4⟩; replace p0:=cell_keep p0 hx4; replace p1:=cell_keep p1 hx4; replace c0:=cell_keep c0 hx4) | (go_at_call 15; (with_reducible refine (HC2.out _ ((hx2.trans hx3).trans hx4)).mono ?_); rintro q5 w5 ⟨rfl,hx5⟩; replace p0:=cell_keep p0 hx5; replace p1:=cell_keep p1 hx5; replace c0:=cell_keep c0 hx5))
  go_wp2_with (go_at_call 8; refine (awake4_any _ (HTb.out _ (HB.out.2.2.trans (((hx2.trans hx3).trans hx4).trans hx5)))).mono ?_; rintro r8 w8 ⟨rfl,hx8⟩)
  go_ret
  exact ⟨rfl,(HB.out.2.2.trans (((hx2.trans hx3).trans hx4).trans hx5)).trans hx8⟩
 | true =>
 go_upto_region 3 with (first | (go_at_call 8; refine (awake4_any _ (HTb.out _ HB.out.2.2)).mono ?_; rintro q2 w2 ⟨rfl,hx2⟩; replace p0:=cell_keep p0 hx2; replace p1:=cell_keep p1 hx2; replace c0:=cell_keep c0 hx2) | (go_at_call 9; (with_reducible refine (HC0.out _ (hx2)).mono ?_); rintro q3 w3 ⟨rfl,hx3⟩; replace p0:=cell_keep p0 hx3; replace p1:=cell_keep p1 hx3; replace c0:=cell_keep c0 hx3) | (go_at_call 15; (with_reducible refine (HC1.out _ (hx2.trans hx3)).mono ?_); rintro q4 w4 ⟨rfl,hx4⟩; replace p0:=cell_keep p0 hx4; replace p1:=cell_keep p1 hx4; replace c0:=cell_keep c0 hx4) | (go_at_call 15; (with_reducible refine (HC2.out _ ((hx2.trans hx3).trans hx4)).mono ?_); rintro q5 w5 ⟨rfl,hx5⟩; replace p0:=cell_keep p0 hx5; replace p1:=cell_keep p1 hx5; replace c0:=cell_keep c0 hx5))
 have HX:=bH (((hx2.trans hx3).trans hx4).trans hx5)
 clear hx2 hx3 hx4 hx5 HC0 HC1 HC2
 have HRx:=bH (fun W (hW:XF w1 W)=>show Rats W (.slice xo xn xc) (valL x) 4 from (HXx.out W hW).rats (by
  have:=HG1.out
  unfold shortB at this
  simp only [Bool.and_eq_true] at this
  exact this.2))
 have HRc:=bH (fun W (hW:XF w1 W)=>show Rats W (.slice co cn cc) (valL c) 4 from (HXc.out W hW).rats (by
  have:=HG2.out
  unfold shortB at this
  simp only [Bool.and_eq_true] at this
  exact this.2))
 obtain ⟨hT,hn6,hm6⟩:=few_parts6 HG0.out
 have HLe:=bH (fun W (hW:XF w1 W)=>Least_any W (.agg #[.slice vo vn vc,.slice ro rn rc]) (.slice co cn cc) p (valL c) 4 (HB.out.1.keep hW) (HRc.out W hW) (by decide) (by omega))
 have HLz0:=bH (fun l (h:leastQ p (valL c)=some l)=>show Sz l 100 from by
  obtain ⟨vv,rv,e,hv,h2⟩:=HB.out.1
  obtain ⟨_,_,e2⟩:=least_some h
  rw [e2]
  exact (leastS_sz hv ((HRc.out w1 (Ext.refl _ _)).sz (by decide))).mono (by omega))
 have HLx0:=bH (fun l (h:leastQ p (valL c)=some l)=>bI (fun (hi:insideB p (valL x)=true)=>least_le h hi) (leastX_law h))
 rw [HLn.out.1] at hn6 HLx0
 clear hT hm6
 obtain ⟨lo,hlo⟩:∃ o,leastQ p (valL c)=o:=⟨_,rfl⟩
 rw [hlo] at HLe HLz0 HLx0
 clear hlo
 go_upto_region 5 with (go_at_call 28; refine (HLe.out _ HX.out).mono ?_; rintro q8 w8 ho; obtain ⟨ln,la,ll,lc,la2,ll2,lc2,rfl,hl8,hx8⟩:=OptPost.open ho; clear ho; replace p0:=cell_keep p0 hx8; replace p1:=cell_keep p1 hx8; replace c0:=cell_keep c0 hx8)
 have hxa:=(Ext.refl (fun _=>False) w8).alloc (.cells #[.bool ln,.slice la ll lc,.slice la2 ll2 lc2] 42)
 have HK:=bH (bI (blk_alloc_at w8 (.cells #[.bool ln,.slice la ll lc,.slice la2 ll2 lc2] 42)) (bI (hl8.keep hxa) (HX.out.trans (hx8.trans hxa))))
 replace p0:=cell_keep p0 hxa
 replace p1:=cell_keep p1 hxa
 replace c0:=cell_keep c0 hxa
 clear hxa hl8 hx8 HX HLe
 generalize w8.alloc (.cells #[.bool ln,.slice la ll lc,.slice la2 ll2 lc2] 42)=w9 at *
 generalize w8.heap.size=lb at *
 have l0:=cellq HK.out.1 0 rfl
 have l1:=cellq HK.out.1 1 rfl
 have l2:=cellq HK.out.1 2 rfl
 cases lo with
 | none =>
  have HSm:=bH (show Calls Tryz.prog 29 #[.agg #[.bool ln,.slice la ll lc,.slice la2 ll2 lc2],.agg #[.bool false,.slice none 0 0,.slice none 0 0]] w9 (BoolPost w9 true) from by
   have h:=Rrsame_any w9 _ _ 0 0 2 HK.out.2.1 (IsRat.zero w9) (Sz.zero.mono (by decide)) (Sz.zero.mono (by decide)) (by decide)
   rw [decide_eq_true rfl] at h
   exact h)
  go_wp2_with (go_at_call 29; refine HSm.out.mono ?_; rintro q10 w10 ⟨rfl,hx10⟩)
  go_ret
  exact ⟨rfl,(HB.out.2.2.trans HK.out.2.2).trans hx10⟩
 | some lq =>
 have HLz:=bH (HLz0.out lq rfl)
 have HLe2:=bH ((HLx0.out lq rfl).1)
 have HLx:=bH (show insideB p (leastX p (valL c))=true/\sumTo p.vars.length (fun j=>atQ (valL c) j*atQ (leastX p (valL c)) j)=lq from by have h:=(HLx0.out lq rfl).2; rw [<- HLn.out.1] at h; exact h)
 have HK9:=bH (show blk w9 lb=some (.cells #[.bool ln,.slice la ll lc,.slice la2 ll2 lc2] 42 (0,0))/\IsRat w9 (.agg #[.bool ln,.slice la ll lc,.slice la2 ll2 lc2]) lq/\XF w1 w9 from HK.out)
 clear HLz0 HLx0 HK
 obtain ⟨ib,hib⟩:∃ b,insideB p (valL x)=b:=⟨_,rfl⟩
 have HIn:=bH (fun W (hW:XF w9 W)=>hib ▸ Inside_any W (.agg #[.slice vo vn vc,.slice ro rn rc]) (.slice xo xn xc) p (valL x) 4 (HB.out.1.keep (HK9.out.2.2.trans hW)) (HRx.out W (HK9.out.2.2.trans hW)) (by decide) (by decide))
 have HIb:=bH hib
 clear hib
 cases ib with
 | false =>
  clear l0 l1 l2
  go_upto_region 7 with fail
  replace p0:=cqo (S:=fun _=>False) p0 id
  replace p1:=cqo (S:=fun _=>False) p1 id
  refine wp_region_held_drew (S:=(XF w9)) (by kernel_rfl) ((Ext.refl _ w9).drew) (fun hHeld=>?_)
  refine ht 0 (h:=(ht 1 (h:=?_)))
  (try go_frame)
  refine hst 2 (h:=fun K hK=>?_)
  (go_simp; go_at_call 16; (with_reducible refine (HIn.out _ hHeld).mono ?_); rintro q11 w11 ⟨rfl,hx11⟩; have hX1:=hHeld.trans hx11)
  refine hK.out _ _ (hX1) (fun hHeld=>?_)
  clear hK K
  (try go_frame)
  refine ht 3 (h:=?_)
  (try go_frame)
  refine hk 4 (h:=?_)
  (try go_frame)
  refine hk 5 (h:=?_)
  (try go_frame)
  refine hk 6 (h:=?_)
  (try go_frame)
  refine hk 7 (h:=?_)
  (try go_frame)
  refine hk 8 (h:=?_)
  (try go_frame)
  refine hk 9 (h:=(ht 10 (h:=?_)))
  (try go_frame)
  refine wpAnyH_done (by kernel_rfl) ?_ _
  clear p0 p1
  have HXb:=bH (HK9.out.2.2.trans hX1)
  have HK9b:=bH (bI (blk_keep HK9.out.1 hX1) (bI (HK9.out.2.1.keep hX1) (HK9.out.2.2.trans hX1)))
  clear HK9
  obtain ⟨wb,rfl⟩:∃ x,x=w11:=⟨_,rfl⟩
  have HK9:=bH HK9b.out
  clear HK9b
  have p0:=cellq (blk_keep HB.out.2.1 HXb.out) 0 rfl
  have p1:=cellq (blk_keep HB.out.2.1 HXb.out) 1 rfl
  go_upto_region 10 with fail
  go_wp2_with fail
  go_loopg [58,10,11,12,13] vn (fun gg v58 v10 v11 v12 v13 wr=>∃ (i:Nat) (v:Value),i<=vn/\gg=vn - i/\v58=.int .i64 i/\v=v10/\ROwn wr wb.heap.size v (listTo i (lstF p (valL c))) 4/\XF wb wr)
  case atStart=>exact ⟨0,_,Nat.zero_le _,rfl,rfl,rfl,ROwn.nil _ _ _,Ext.refl _ _⟩
  case round =>
   clear p0 p1 c0
   obtain ⟨i,v,hi,rfl,rfl,rfl,ho,hx⟩:=hrel
   have HO:=bH (bI ho hx)
   clear ho hx
   have p0:=cellq (blk_keep HB.out.2.1 (HXb.out.trans HO.out.2)) 0 rfl
   have p1:=cellq (blk_keep HB.out.2.1 (HXb.out.trans HO.out.2)) 1 rfl
   have c0:=cellq (blk_keep HCb.out (HXb.out.trans HO.out.2)) 0 rfl
   by_cases hin:i<vn
   ·have i0:(i:Int)<(vn:Int):=by omega
    have i1:(0:Int)<=(i:Int):=by omega
    have hVs:Vrs wr (.slice vo vn vc) p.vars:=by
     obtain ⟨vv,rv,e,h,h2⟩:=HB.out.1.keep (HXb.out.trans HO.out.2)
     cases e
     exact h
    obtain ⟨b,off,rfl,-,e0,e1,e2,e3,e4,hok⟩:=hVs.atp i (by rw [HLn.out.1]; exact hin)
    have HSt:=bH (show lstF p (valL c) i=if atQ (valL c) i<0 then ((p.v i).up:Rat) else ((p.v i).lo:Rat) from rfl)
    have hlo:=hok.lo
    have hup:=hok.up
    have hxa:=(Ext.refl (fun _=>False) wr).alloc (.cells #[.int .i64 (p.v i).lo,.int .i64 (p.v i).up,.bool (p.v i).op,.bool (p.v i).ig,.int .i64 (p.v i).co] 57)
    have HA:=bH (bI (blk_alloc_at wr (.cells #[.int .i64 (p.v i).lo,.int .i64 (p.v i).up,.bool (p.v i).op,.bool (p.v i).ig,.int .i64 (p.v i).co] 57)) (bI (HO.out.1.keep hxa) (HO.out.2.trans hxa)))
    clear p0 p1 c0
    clear hxa hVs hok HO
    obtain ⟨lo,hlo'⟩:∃ z,(p.v i).lo=z:=⟨_,rfl⟩
    obtain ⟨up,hup'⟩:∃ z,(p.v i).up=z:=⟨_,rfl⟩
    rw [hlo'] at HSt HA hlo e0
    rw [hup'] at HSt HA hup e1
    clear hlo' hup'
    go_upto_region 13 with fail
    generalize wr.alloc (.cells #[.int .i64 lo,.int .i64 up,.bool (p.v i).op,.bool (p.v i).ig,.int .i64 (p.v i).co] 57)=w4 at *
    generalize wr.heap.size=xb at *
    clear e0 e1 e2 e3 e4
    have e0:=cellq HA.out.1 0 rfl
    have e1:=cellq HA.out.1 1 rfl
    have c0:=cellq (blk_keep HCb.out (HXb.out.trans HA.out.2.2)) 0 rfl
    have HAt:=bH (fun W (hW:XF w4 W)=>At_any W (.slice co cn cc) (valL c) 4 (HRc.out W ((HXb.out.trans HA.out.2.2).trans hW)) i)
    have HSi:=bH (fun W u (hu:Rrat W u (atQ (valL c) i) 4)=>show Calls Tryz.prog 30 #[u] W (fun r w'=>r=.returned (.int .i64 (atQ (valL c) i).num.sign)/\XF W w') from Rrsign_any W u _ 4 hu (by decide))
    obtain ⟨sg,hsg⟩:∃ s,(atQ (valL c) i).num.sign=s:=⟨_,rfl⟩
    have HSg:=bH (show sg<0↔atQ (valL c) i<0 from by rw [<- hsg]; exact sign_lt _)
    rw [hsg] at HSi
    clear hsg
    go_upto_if 69 with (first | (go_at_call 24; go_loud (refine (HAt.out _ (Ext.refl _ _)).mono ?_); rintro q5 w5 ⟨v5,rfl,h5,hx5⟩; obtain ⟨n5,a5,l5,d5,a5',l5',d5',rfl⟩:=h5.shape; replace e0:=cell_keep e0 hx5; replace e1:=cell_keep e1 hx5) | (go_at_call 30; refine (HSi.out _ _ h5).mono ?_; rintro q6 w6 ⟨rfl,hx6⟩; replace e0:=cell_keep e0 hx6; replace e1:=cell_keep e1 hx6))
    have HK:=bH (bI (HA.out.2.1.keep (hx5.trans hx6)) (HA.out.2.2.trans (hx5.trans hx6)))
    clear h5 hx5 hx6 HAt HSi
    obtain ⟨z,hz⟩:∃ z:Int,(if sg<0 then up else lo)=z:=⟨_,rfl⟩
    have HZ:=bH (show lstF p (valL c) i=(z:Rat) from by
     rw [HSt.out,<- hz]
     by_cases h:sg<0
     ·rw [if_pos h,if_pos (HSg.out.1 h)]
     ·rw [if_neg h,if_neg (fun e=>h (HSg.out.2 e))])
    have hzr:InR z:=by
     rw [<- hz]
     split
     ·exact hup
     ·exact hlo
    go_cut [13] (fun v13 wx=>v13=.int .i64 z/\wx=w6)
    case first =>
     by_cases hs:sg<0
     ·rw [if_pos hs] at hz
      subst hz
      go_wp2
      go_meet
      exact ⟨rfl,rfl⟩
     ·rw [if_neg hs] at hz
      subst hz
      go_wp2
      go_meet
      exact ⟨rfl,rfl⟩
    case rest =>
    obtain ⟨rfl,rfl⟩:=hcut
    clear hz e0 e1 c0 hlo hup
    have HFr:=bH (Rrfrom_any wc z hzr.1 hzr.2)
    have HRn:=bH (fun W u (hu:IsRat W u (z:Rat))=>(hu.reads ((Sz.int hzr).mono (by decide)):Rrat W u _ 4))
    clear hzr
    have HLo:=bH (fun g e=>(HK.out.1.lt g e).1)
    have HSl:=bH HK.out.2.size
    go_wp2_with (first | (go_at_call 20; refine HFr.out.mono ?_; rintro q7 w7 ⟨v7,rfl,h7,hx7⟩; obtain ⟨n7,a7,l7,d7,a7',l7',d7',rfl⟩:=h7.shape; have hs7:=hx7.size) | (at_builtin; refine wpList_append_rat rfl (.tmp 72) (.tmp 75) rfl wb.heap.size v (listTo i (lstF p (valL c))) 4 rfl (HK.out.1.keep (hx7.trans ((Ext.refl (fun _=>False) w7).alloc _))) ⟨n7,a7,l7,d7,a7',l7',d7'⟩ (z:Rat) (HRn.out _ _ (h7.keep ((Ext.refl (fun _=>False) w7).alloc _))) ⟨w7.heap.size,0,none⟩ 1 rfl (cells_new (RatC.cells ⟨n7,a7,l7,d7,a7',l7',d7'⟩) _ rfl) (by rw [listTo_length]; omega) (by rw [World.size_alloc]; have:=HSl.out; omega) ?_; intro v9 w9 ho9 hx9 hr9))
    have HN:=bH (bI (show ROwn w9 wb.heap.size v9 (listTo (i+1) (lstF p (valL c))) 4 from by rw [listTo_succ,HZ.out]; exact ho9) ((HK.out.2.trans (hx7.trans ((Ext.refl (fun _=>False) w7).alloc (.cells #[.bool n7,.slice a7 l7 d7,.slice a7' l7' d7'] 42)))).own hx9 (fun g e=>HLo.out g e)))
    clear ho9 hx9 hr9 h7 hx7
    go_wp2
    go_roundg (vn - (i+1))
    case measure=>omega
    case rel=>exact ⟨i+1,_,by omega,rfl,by go_num,rfl,HN.out.1,HN.out.2⟩
   ·obtain rfl:vn=i:=by omega
    obtain ⟨ao,ac,rfl⟩:=HO.out.1.shape
    rw [listTo_length] at HO ⊢
    have HAt:=bH (show Rats wr (.slice ao vn ac) (leastX p (valL c)) 4 from by unfold leastX; rw [HLn.out.1]; exact HO.out.1.rats)
    have HXo:=bH (HXb.out.trans HO.out.2)
    obtain ⟨wo,rfl⟩:∃ x,x=wr:=⟨_,rfl⟩
    have HIn:=bH (fun W (hW:XF wo W)=>show Calls Tryz.prog 16 #[(.agg #[.slice vo vn vc,.slice ro rn rc]),.slice ao vn ac] W (BoolPost W true) from HLx.out.1 ▸ Inside_any W (.agg #[.slice vo vn vc,.slice ro rn rc]) (.slice ao vn ac) p (leastX p (valL c)) 4 (HB.out.1.keep (HXo.out.trans hW)) (HAt.out.keep hW) (by decide) (by decide))
    have HVl:=bH (fun W (hW:XF wo W)=>show Calls Tryz.prog 27 #[.slice ao vn ac,.pointer (some ⟨pb,0,none⟩),.pointer (some ⟨cb,0,none⟩)] W (RatPost W lq) from HLx.out.2 ▸ lst1_any W pb cb vo ro co ao vn vc rn rc cn cc vn ac p (valL c) (leastX p (valL c)) (HB.out.1.keep (HXo.out.trans hW)) (by rw [HLn.out.1]; exact hn6) (cell_keep p0 hW) (cell_keep c0 hW) (HRc.out W (HXo.out.trans hW)) (HAt.out.keep hW))
    have HCm:=bH (fun W u (hW:XF wo W) (hu:IsRat W u lq)=>show Calls Tryz.prog 25 #[u,.agg #[.bool ln,.slice la ll lc,.slice la2 ll2 lc2]] W (fun r w'=>r=.returned (.int .i64 0)/\XF W w') from by
     have h:=Rrcmp_any W u (.agg #[.bool ln,.slice la ll lc,.slice la2 ll2 lc2]) lq lq 100 (hu.reads HLz.out) ((HK9.out.2.1.keep (HO.out.2.trans hW)).reads HLz.out) (by decide) (by decide)
     rw [show lq - lq=0 by grind] at h
     exact h)
    have hbl:=blk_keep HK9.out.1 HO.out.2
    have l0:=cqo (S:=fun _=>False) (cellq hbl 0 rfl) id
    have l1:=cqo (S:=fun _=>False) (cellq hbl 1 rfl) id
    have l2:=cqo (S:=fun _=>False) (cellq hbl 2 rfl) id
    replace p0:=cqo (S:=fun _=>False) p0 id
    replace p1:=cqo (S:=fun _=>False) p1 id
    clear hbl c0
    go_upto_region 18 with fail
    refine wp_region_held_drew (S:=(XF wo)) (by kernel_rfl) ((Ext.refl _ wo).drew) (fun hHeld=>?_)
    refine ht 0 (h:=(ht 1 (h:=?_)))
    (try go_frame)
    refine hst 2 (h:=fun K hK=>?_)
    (go_simp; go_at_call 16; (with_reducible refine (HIn.out _ hHeld).mono ?_); rintro q11 w11 ⟨rfl,hx11⟩; have hX1:=hHeld.trans hx11)
    refine hK.out _ _ (hX1) (fun hHeld=>?_)
    clear hK K
    (try go_frame)
    refine ht 3 (h:=?_)
    (try go_frame)
    refine ht 4 (h:=?_)
    (try go_frame)
    refine ht 5 (h:=?_)
    (try go_frame)
    refine ht 7 (h:=?_)
    (try go_frame)
    refine hst 6 (h:=fun K hK=>?_)
    (go_simp; go_at_call 27; (with_reducible refine (HVl.out _ hX1).mono ?_); rintro q12 w12 ⟨v12,rfl,h12,hx12⟩; have hX2:=hX1.trans hx12; obtain ⟨n12,a12,l12,c12,a12',l12',c12',rfl⟩:=h12.shape)
    refine hK.out _ _ (hX2) (fun hHeld=>?_)
    clear hK K
    (try go_frame)
    refine hst 8 (h:=fun K hK=>?_)
    (go_simp; go_at_call 25; (with_reducible refine (HCm.out _ _ hX2 h12).mono ?_); rintro q13 w13 ⟨rfl,hx13⟩; have hX3:=hX2.trans hx13)
    refine hK.out _ _ (hX3) (fun hHeld=>?_)
    clear hK K
    (try go_frame)
    refine ht 9 (h:=(ht 10 (h:=(ht 11 (h:=?_)))))
    (try go_frame)
    refine wpAnyH_done (by kernel_rfl) ?_ _
    go_wp2
    go_ret
    exact ⟨rfl,(HB.out.2.2.trans HXo.out).trans hX3⟩
 | true =>
  have HVl:=bH (fun W (hW:XF w9 W)=>show Calls Tryz.prog 27 #[.slice xo xn xc,.pointer (some ⟨pb,0,none⟩),.pointer (some ⟨cb,0,none⟩)] W (RatPost W (sumTo p.vars.length fun j=>atQ (valL c) j*atQ (valL x) j)) from lst1_any W pb cb vo ro co xo vn vc rn rc cn cc xn xc p (valL c) (valL x) (HB.out.1.keep (HK9.out.2.2.trans hW)) (by rw [HLn.out.1]; exact hn6) (cell_keep p0 hW) (cell_keep c0 hW) (HRc.out W (HK9.out.2.2.trans hW)) (HRx.out W (HK9.out.2.2.trans hW)))
  have HSz:=bH (show Sz (sumTo p.vars.length fun j=>atQ (valL c) j*atQ (valL x) j) 100 from (sumTo_sz (M:=8) (fun j _=>((HRc.out w1 (Ext.refl _ _)).sz (by decide) j).mul ((HRx.out w1 (Ext.refl _ _)).sz (by decide) j))).mono (by rw [HLn.out.1]; omega))
  have HCm:=bH (fun W u (hW:XF w9 W) (hu:IsRat W u (sumTo p.vars.length fun j=>atQ (valL c) j*atQ (valL x) j))=>show Calls Tryz.prog 25 #[u,.agg #[.bool ln,.slice la ll lc,.slice la2 ll2 lc2]] W (fun r w'=>∃ s:Int,r=.returned (.int .i64 s)/\¬ s<0/\XF W w') from by
   refine (Rrcmp_any W u (.agg #[.bool ln,.slice la ll lc,.slice la2 ll2 lc2]) _ lq 100 (hu.reads HSz.out) ((HK9.out.2.1.keep hW).reads HLz.out) (by decide) (by decide)).mono ?_
   rintro r w' ⟨rfl,hx⟩
   refine ⟨_,rfl,?_,hx⟩
   have h:=HLe2.out HIb.out
   rw [<- HLn.out.1] at h
   rw [sign_lt]
   exact fun e=>by grind)
  go_upto_region 7 with fail
  replace l0:=cqo (S:=fun _=>False) l0 id
  replace l1:=cqo (S:=fun _=>False) l1 id
  replace l2:=cqo (S:=fun _=>False) l2 id
  replace p0:=cqo (S:=fun _=>False) p0 id
  replace p1:=cqo (S:=fun _=>False) p1 id
  refine wp_region_held_drew (S:=(XF w9)) (by kernel_rfl) ((Ext.refl _ w9).drew) (fun hHeld=>?_)
  refine ht 0 (h:=(ht 1 (h:=?_)))
  (try go_frame)
  refine hst 2 (h:=fun K hK=>?_)
  (go_simp; go_at_call 16; (with_reducible refine (HIn.out _ hHeld).mono ?_); rintro q11 w11 ⟨rfl,hx11⟩; have hX1:=hHeld.trans hx11)
  refine hK.out _ _ (hX1) (fun hHeld=>?_)
  clear hK K
  (try go_frame)
  refine ht 3 (h:=?_)
  (try go_frame)
  refine ht 4 (h:=?_)
  (try go_frame)
  refine ht 5 (h:=?_)
  (try go_frame)
  refine ht 7 (h:=?_)
  (try go_frame)
  refine hst 6 (h:=fun K hK=>?_)
  (go_simp; go_at_call 27; (with_reducible refine (HVl.out _ hX1).mono ?_); rintro q12 w12 ⟨v12,rfl,h12,hx12⟩; have hX2:=hX1.trans hx12; obtain ⟨n12,a12,l12,c12,a12',l12',c12',rfl⟩:=h12.shape)
  refine hK.out _ _ (hX2) (fun hHeld=>?_)
  clear hK K
  (try go_frame)
  refine hst 8 (h:=fun K hK=>?_)
  (go_simp; go_at_call 25; (with_reducible refine (HCm.out _ _ hX2 h12).mono ?_); rintro q13 w13 ⟨sg,rfl,hsn,hx13⟩; have hX3:=hX2.trans hx13)
  refine hK.out _ _ (hX3) (fun hHeld=>?_)
  clear hK K
  (try go_frame)
  refine ht 9 (h:=(ht 10 (h:=?_)))
  (try go_frame)
  refine wpAnyH_done (by kernel_rfl) ?_ _
  clear p0 p1 l0 l1 l2
  have HXb:=bH (HK9.out.2.2.trans hX3)
  have HK9b:=bH (bI (blk_keep HK9.out.1 hX3) (bI (HK9.out.2.1.keep hX3) (HK9.out.2.2.trans hX3)))
  clear HK9
  obtain ⟨wb,rfl⟩:∃ x,x=w13:=⟨_,rfl⟩
  have HK9:=bH HK9b.out
  clear HK9b
  have p0:=cellq (blk_keep HB.out.2.1 HXb.out) 0 rfl
  have p1:=cellq (blk_keep HB.out.2.1 HXb.out) 1 rfl
  go_upto_region 10 with fail
  go_wp2_with fail
  go_loopg [58,10,11,12,13] vn (fun gg v58 v10 v11 v12 v13 wr=>∃ (i:Nat) (v:Value),i<=vn/\gg=vn - i/\v58=.int .i64 i/\v=v10/\ROwn wr wb.heap.size v (listTo i (lstF p (valL c))) 4/\XF wb wr)
  case atStart=>exact ⟨0,_,Nat.zero_le _,rfl,rfl,rfl,ROwn.nil _ _ _,Ext.refl _ _⟩
  case round =>
   clear p0 p1 c0
   obtain ⟨i,v,hi,rfl,rfl,rfl,ho,hx⟩:=hrel
   have HO:=bH (bI ho hx)
   clear ho hx
   have p0:=cellq (blk_keep HB.out.2.1 (HXb.out.trans HO.out.2)) 0 rfl
   have p1:=cellq (blk_keep HB.out.2.1 (HXb.out.trans HO.out.2)) 1 rfl
   have c0:=cellq (blk_keep HCb.out (HXb.out.trans HO.out.2)) 0 rfl
   by_cases hin:i<vn
   ·have i0:(i:Int)<(vn:Int):=by omega
    have i1:(0:Int)<=(i:Int):=by omega
    have hVs:Vrs wr (.slice vo vn vc) p.vars:=by
     obtain ⟨vv,rv,e,h,h2⟩:=HB.out.1.keep (HXb.out.trans HO.out.2)
     cases e
     exact h
    obtain ⟨b,off,rfl,-,e0,e1,e2,e3,e4,hok⟩:=hVs.atp i (by rw [HLn.out.1]; exact hin)
    have HSt:=bH (show lstF p (valL c) i=if atQ (valL c) i<0 then ((p.v i).up:Rat) else ((p.v i).lo:Rat) from rfl)
    have hlo:=hok.lo
    have hup:=hok.up
    have hxa:=(Ext.refl (fun _=>False) wr).alloc (.cells #[.int .i64 (p.v i).lo,.int .i64 (p.v i).up,.bool (p.v i).op,.bool (p.v i).ig,.int .i64 (p.v i).co] 57)
    have HA:=bH (bI (blk_alloc_at wr (.cells #[.int .i64 (p.v i).lo,.int .i64 (p.v i).up,.bool (p.v i).op,.bool (p.v i).ig,.int .i64 (p.v i).co] 57)) (bI (HO.out.1.keep hxa) (HO.out.2.trans hxa)))
    clear p0 p1 c0
    clear hxa hVs hok HO
    obtain ⟨lo,hlo'⟩:∃ z,(p.v i).lo=z:=⟨_,rfl⟩
    obtain ⟨up,hup'⟩:∃ z,(p.v i).up=z:=⟨_,rfl⟩
    rw [hlo'] at HSt HA hlo e0
    rw [hup'] at HSt HA hup e1
    clear hlo' hup'
    go_upto_region 13 with fail
    generalize wr.alloc (.cells #[.int .i64 lo,.int .i64 up,.bool (p.v i).op,.bool (p.v i).ig,.int .i64 (p.v i).co] 57)=w4 at *
    generalize wr.heap.size=xb at *
    clear e0 e1 e2 e3 e4
    have e0:=cellq HA.out.1 0 rfl
    have e1:=cellq HA.out.1 1 rfl
    have c0:=cellq (blk_keep HCb.out (HXb.out.trans HA.out.2.2)) 0 rfl
    have HAt:=bH (fun W (hW:XF w4 W)=>At_any W (.slice co cn cc) (valL c) 4 (HRc.out W ((HXb.out.trans HA.out.2.2).trans hW)) i)
    have HSi:=bH (fun W u (hu:Rrat W u (atQ (valL c) i) 4)=>show Calls Tryz.prog 30 #[u] W (fun r w'=>r=.returned (.int .i64 (atQ (valL c) i).num.sign)/\XF W w') from Rrsign_any W u _ 4 hu (by decide))
    obtain ⟨sg,hsg⟩:∃ s,(atQ (valL c) i).num.sign=s:=⟨_,rfl⟩
    have HSg:=bH (show sg<0↔atQ (valL c) i<0 from by rw [<- hsg]; exact sign_lt _)
    rw [hsg] at HSi
    clear hsg
    go_upto_if 69 with (first | (go_at_call 24; go_loud (refine (HAt.out _ (Ext.refl _ _)).mono ?_); rintro q5 w5 ⟨v5,rfl,h5,hx5⟩; obtain ⟨n5,a5,l5,d5,a5',l5',d5',rfl⟩:=h5.shape; replace e0:=cell_keep e0 hx5; replace e1:=cell_keep e1 hx5) | (go_at_call 30; refine (HSi.out _ _ h5).mono ?_; rintro q6 w6 ⟨rfl,hx6⟩; replace e0:=cell_keep e0 hx6; replace e1:=cell_keep e1 hx6))
    have HK:=bH (bI (HA.out.2.1.keep (hx5.trans hx6)) (HA.out.2.2.trans (hx5.trans hx6)))
    clear h5 hx5 hx6 HAt HSi
    obtain ⟨z,hz⟩:∃ z:Int,(if sg<0 then up else lo)=z:=⟨_,rfl⟩
    have HZ:=bH (show lstF p (valL c) i=(z:Rat) from by
     rw [HSt.out,<- hz]
     by_cases h:sg<0
     ·rw [if_pos h,if_pos (HSg.out.1 h)]
     ·rw [if_neg h,if_neg (fun e=>h (HSg.out.2 e))])
    have hzr:InR z:=by
     rw [<- hz]
     split
     ·exact hup
     ·exact hlo
    go_cut [13] (fun v13 wx=>v13=.int .i64 z/\wx=w6)
    case first =>
     by_cases hs:sg<0
     ·rw [if_pos hs] at hz
      subst hz
      go_wp2
      go_meet
      exact ⟨rfl,rfl⟩
     ·rw [if_neg hs] at hz
      subst hz
      go_wp2
      go_meet
      exact ⟨rfl,rfl⟩
    case rest =>
    obtain ⟨rfl,rfl⟩:=hcut
    clear hz e0 e1 c0 hlo hup
    have HFr:=bH (Rrfrom_any wc z hzr.1 hzr.2)
    have HRn:=bH (fun W u (hu:IsRat W u (z:Rat))=>(hu.reads ((Sz.int hzr).mono (by decide)):Rrat W u _ 4))
    clear hzr
    have HLo:=bH (fun g e=>(HK.out.1.lt g e).1)
    have HSl:=bH HK.out.2.size
    go_wp2_with (first | (go_at_call 20; refine HFr.out.mono ?_; rintro q7 w7 ⟨v7,rfl,h7,hx7⟩; obtain ⟨n7,a7,l7,d7,a7',l7',d7',rfl⟩:=h7.shape; have hs7:=hx7.size) | (at_builtin; refine wpList_append_rat rfl (.tmp 72) (.tmp 75) rfl wb.heap.size v (listTo i (lstF p (valL c))) 4 rfl (HK.out.1.keep (hx7.trans ((Ext.refl (fun _=>False) w7).alloc _))) ⟨n7,a7,l7,d7,a7',l7',d7'⟩ (z:Rat) (HRn.out _ _ (h7.keep ((Ext.refl (fun _=>False) w7).alloc _))) ⟨w7.heap.size,0,none⟩ 1 rfl (cells_new (RatC.cells ⟨n7,a7,l7,d7,a7',l7',d7'⟩) _ rfl) (by rw [listTo_length]; omega) (by rw [World.size_alloc]; have:=HSl.out; omega) ?_; intro v9 w9 ho9 hx9 hr9))
    have HN:=bH (bI (show ROwn w9 wb.heap.size v9 (listTo (i+1) (lstF p (valL c))) 4 from by rw [listTo_succ,HZ.out]; exact ho9) ((HK.out.2.trans (hx7.trans ((Ext.refl (fun _=>False) w7).alloc (.cells #[.bool n7,.slice a7 l7 d7,.slice a7' l7' d7'] 42)))).own hx9 (fun g e=>HLo.out g e)))
    clear ho9 hx9 hr9 h7 hx7
    go_wp2
    go_roundg (vn - (i+1))
    case measure=>omega
    case rel=>exact ⟨i+1,_,by omega,rfl,by go_num,rfl,HN.out.1,HN.out.2⟩
   ·obtain rfl:vn=i:=by omega
    obtain ⟨ao,ac,rfl⟩:=HO.out.1.shape
    rw [listTo_length] at HO ⊢
    have HAt:=bH (show Rats wr (.slice ao vn ac) (leastX p (valL c)) 4 from by unfold leastX; rw [HLn.out.1]; exact HO.out.1.rats)
    have HXo:=bH (HXb.out.trans HO.out.2)
    obtain ⟨wo,rfl⟩:∃ x,x=wr:=⟨_,rfl⟩
    have HIn:=bH (fun W (hW:XF wo W)=>show Calls Tryz.prog 16 #[(.agg #[.slice vo vn vc,.slice ro rn rc]),.slice ao vn ac] W (BoolPost W true) from HLx.out.1 ▸ Inside_any W (.agg #[.slice vo vn vc,.slice ro rn rc]) (.slice ao vn ac) p (leastX p (valL c)) 4 (HB.out.1.keep (HXo.out.trans hW)) (HAt.out.keep hW) (by decide) (by decide))
    have HVl:=bH (fun W (hW:XF wo W)=>show Calls Tryz.prog 27 #[.slice ao vn ac,.pointer (some ⟨pb,0,none⟩),.pointer (some ⟨cb,0,none⟩)] W (RatPost W lq) from HLx.out.2 ▸ lst1_any W pb cb vo ro co ao vn vc rn rc cn cc vn ac p (valL c) (leastX p (valL c)) (HB.out.1.keep (HXo.out.trans hW)) (by rw [HLn.out.1]; exact hn6) (cell_keep p0 hW) (cell_keep c0 hW) (HRc.out W (HXo.out.trans hW)) (HAt.out.keep hW))
    have HCm:=bH (fun W u (hW:XF wo W) (hu:IsRat W u lq)=>show Calls Tryz.prog 25 #[u,.agg #[.bool ln,.slice la ll lc,.slice la2 ll2 lc2]] W (fun r w'=>r=.returned (.int .i64 0)/\XF W w') from by
     have h:=Rrcmp_any W u (.agg #[.bool ln,.slice la ll lc,.slice la2 ll2 lc2]) lq lq 100 (hu.reads HLz.out) ((HK9.out.2.1.keep (HO.out.2.trans hW)).reads HLz.out) (by decide) (by decide)
     rw [show lq - lq=0 by grind] at h
     exact h)
    have hbl:=blk_keep HK9.out.1 HO.out.2
    have l0:=cqo (S:=fun _=>False) (cellq hbl 0 rfl) id
    have l1:=cqo (S:=fun _=>False) (cellq hbl 1 rfl) id
    have l2:=cqo (S:=fun _=>False) (cellq hbl 2 rfl) id
    replace p0:=cqo (S:=fun _=>False) p0 id
    replace p1:=cqo (S:=fun _=>False) p1 id
    clear hbl c0
    go_upto_region 18 with fail
    refine wp_region_held_drew (S:=(XF wo)) (by kernel_rfl) ((Ext.refl _ wo).drew) (fun hHeld=>?_)
    refine ht 0 (h:=(ht 1 (h:=?_)))
    (try go_frame)
    refine hst 2 (h:=fun K hK=>?_)
    (go_simp; go_at_call 16; (with_reducible refine (HIn.out _ hHeld).mono ?_); rintro q11 w11 ⟨rfl,hx11⟩; have hX1:=hHeld.trans hx11)
    refine hK.out _ _ (hX1) (fun hHeld=>?_)
    clear hK K
    (try go_frame)
    refine ht 3 (h:=?_)
    (try go_frame)
    refine ht 4 (h:=?_)
    (try go_frame)
    refine ht 5 (h:=?_)
    (try go_frame)
    refine ht 7 (h:=?_)
    (try go_frame)
    refine hst 6 (h:=fun K hK=>?_)
    (go_simp; go_at_call 27; (with_reducible refine (HVl.out _ hX1).mono ?_); rintro q12 w12 ⟨v12,rfl,h12,hx12⟩; have hX2:=hX1.trans hx12; obtain ⟨n12,a12,l12,c12,a12',l12',c12',rfl⟩:=h12.shape)
    refine hK.out _ _ (hX2) (fun hHeld=>?_)
    clear hK K
    (try go_frame)
    refine hst 8 (h:=fun K hK=>?_)
    (go_simp; go_at_call 25; (with_reducible refine (HCm.out _ _ hX2 h12).mono ?_); rintro q13 w13 ⟨rfl,hx13⟩; have hX3:=hX2.trans hx13)
    refine hK.out _ _ (hX3) (fun hHeld=>?_)
    clear hK K
    (try go_frame)
    refine ht 9 (h:=(ht 10 (h:=(ht 11 (h:=?_)))))
    (try go_frame)
    refine wpAnyH_done (by kernel_rfl) ?_ _
    go_wp2
    go_ret
    exact ⟨rfl,(HB.out.2.2.trans HXo.out).trans hX3⟩
def QtPost (w:World) (q:Rat) (r:Ending) (w':World):Prop:=∃ v,r=.returned (.tuple #[v,.int .i64 0])/\IsRat w' v q/\XF w w'
theorem quot_pos {z y:Int} (hy:0<y):mkRat z y.natAbs=(z:Rat) / (y:Rat):=by
 obtain ⟨n,rfl⟩:∃ n:Nat,y=n:=⟨y.toNat,by omega⟩
 rw [Int.natAbs_natCast,Rat.mkRat_eq_div]; rfl
theorem quot_neg {z y:Int} (hy:y<0):mkRat (-z) y.natAbs=(z:Rat) / (y:Rat):=by
 obtain ⟨n,rfl⟩:∃ n:Nat,y = -(n:Int):=⟨(-y).toNat,by omega⟩
 rw [Int.natAbs_neg,Int.natAbs_natCast,Rat.mkRat_eq_div,Rat.intCast_neg,Rat.intCast_neg,Rat.intCast_natCast]
 grind
theorem boxI_of {W:World} {k:Nat} {neg:Bool} {ao:Option Addr} {n c:Nat} (h:blk W k=some (.cells #[.bool neg,.slice ao n c] 40 (0,0))):BoxI W k neg (.slice ao n c):=⟨h,no_int _ _ _⟩
theorem BoxI.keep {W W':World} {b:Nat} {neg:Bool} {m:Value} (h:BoxI W b neg m) (hx:XF W W'):BoxI W' b neg m:=h.ext hx id
theorem Rmake_any (w:World) (v v':Value) (z y:Int) (L:Nat) (h:Rint w v z L) (h':Rint w v' y L) (hy:y≠0) (hL:L<=33554432) :
  Calls Tryz.prog 59 #[v,v'] w (QtPost w ((z:Rat) / (y:Rat))):=by
 have HF:=bH (fun W (hW:XF w W)=>Rfix_any W v' y L (h'.keep hW) (by omega))
 have hlz:=h.len
 have hly:=h'.len
 obtain ⟨n1,a1,m1,c1,l1,rfl,hr,hl,hz⟩:=h.open
 obtain ⟨n2,a2,m2,c2,l2,rfl,-,-,-⟩:=h'.open
 have HZ:=bH (bI hr (bI hl hz))
 clear hr hl hz h h'
 obtain ⟨b0,b1,b2,hx⟩:=box3 w (.cells #[.bool n1,.slice a1 m1 c1] 40) (.cells #[.bool n2,.slice a2 m2 c2] 40) (.cells #[.bool false,.slice none 0 0,.slice none 0 0] 42)
 have HB:=bH (bI (boxI_of b0) (bI (boxI_of b1) (bI (boxR_of b2) hx)))
 clear b0 b1 b2 hx
 go_enter Tryz.func59,Tryz.ntmps59
 go_upto_region 1 with fail
 generalize ((w.alloc (.cells #[.bool n1,.slice a1 m1 c1] 40)).alloc (.cells #[.bool n2,.slice a2 m2 c2] 40)).alloc (.cells #[.bool false,.slice none 0 0,.slice none 0 0] 42)=w1 at *
 obtain ⟨pb,hpb⟩:∃ pb,w.heap.size=pb:=⟨_,rfl⟩
 have hpw:w.heap.size<=pb:=Nat.le_of_eq hpb
 rw [hpb] at HB ⊢
 clear hpb
 obtain ⟨e0,e1,-⟩:=HB.out.2.1.facts
 go_upto_region 2 with (go_at_call 98; refine (HF.out _ HB.out.2.2.2).mono ?_; rintro r2 w2 ⟨v2,rfl,h2,hx2⟩; obtain ⟨m0,rfl,hm0⟩:=h2; obtain ⟨ao,cc,rfl⟩:=hm0.shape; have hb2:=HB.out.2.1.keep hx2; obtain ⟨d0,d1,d2,d3⟩:=hb2.facts; clear e0 e1)
 have hp:=hb2.put (neg:=decide (y<0)) (no_int ao (dg y.natAbs).length cc)
 have HB2:=bH (bI ((HB.out.1.keep hx2).ext hp.ext (by omega)) (bI hp.box (bI ((HB.out.2.2.1.keep hx2).ext hp.ext (by omega)) (bI ((HB.out.2.2.2.trans hx2).own hp.ext (fun k e=>by omega)) (bI (hp.rds _ _ (HZ.out.1.keep (HB.out.2.2.2.trans hx2))) (hp.rds _ _ hm0))))))
 clear d0 d1 d2 d3 hp hb2 hm0 hx2 HB HF
 generalize (w2.setCell ⟨pb+1,0,none⟩ (.bool (decide (y<0)))).setCell ⟨pb+1,1,none⟩ (.slice ao (dg y.natAbs).length cc)=w3 at *
 have hny:0<y.natAbs:=by omega
 have hnl:(dg y.natAbs).length≠0:=fun e=>by
  have h1:=vl_dg y.natAbs
  rw [List.eq_nil_of_length_eq_zero e] at h1
  have h2:vl []=0:=rfl
  omega
 have HLy:=bH hly
 obtain ⟨yl,hyl⟩:∃ yl,(dg y.natAbs).length=yl:=⟨_,rfl⟩
 rw [hyl] at HB2 hnl hly ⊢
 have hyl1:¬ (yl:Int)=0:=by omega
 clear hyl
 have HRb:=bH (fun W u zz (hu:Rint W u zz L) (hn:IsNat W (.slice ao yl cc) y.natAbs)=>Rrbuild_any W u zz y.natAbs L _ hu hn hny (by omega) (Nat.le_trans HLy.out (by omega)))
 have HN:=bH (fun W (hW:XF w3 W)=>Rneg_any W (.agg #[.bool n1,.slice a1 m1 c1]) z L ⟨n1,_,l1,rfl,Rds.keep HB2.out.2.2.2.2.1 hW,HZ.out.2.1,HZ.out.2.2⟩ (by omega))
 obtain ⟨e0,e1,-⟩:=HB2.out.2.1.facts
 rcases Int.lt_or_gt_of_ne hy with hlt | hgt
 ·have hd:decide (y<0)=true:=decide_eq_true hlt
  obtain ⟨zn,hzn⟩:∃ x,-z=x:=⟨_,rfl⟩
  have hq:mkRat zn y.natAbs=(z:Rat) / (y:Rat):=by rw [<- hzn]; exact quot_neg hlt
  have hlz2:(dg zn.natAbs).length<=L:=by rw [<- hzn,Int.natAbs_neg]; exact hlz
  rw [hzn] at HN
  clear hzn
  rw [hd] at e0
  obtain ⟨f0,f1,f2,f3⟩:=HB2.out.1.facts
  go_upto_region 6 with (go_at_call 99; refine (HN.out _ (Ext.refl _ _)).mono ?_; rintro r4 w4 ⟨v4,rfl,h4,hx4⟩; obtain ⟨m4,rfl,hm4⟩:=h4; obtain ⟨bo,bc,rfl⟩:=hm4.shape; have hb4:=HB2.out.1.keep hx4; obtain ⟨d0,d1,d2,d3⟩:=hb4.facts)
  have hp:=hb4.put (neg:=decide (zn<0)) (no_int bo (dg zn.natAbs).length bc)
  have HB3:=bH (bI hp.box (bI (((HB2.out.2.1.keep hx4)).ext hp.ext (by omega)) (bI ((HB2.out.2.2.1.keep hx4).ext hp.ext (by omega)) ((HB2.out.2.2.2.1.trans hx4).own hp.ext (fun k e=>by omega)))))
  have HRc:=bH (HRb.out _ _ zn (IsInt.reads ⟨_,rfl,hp.rds _ _ hm4⟩ hlz2) (hp.rds _ _ (Rds.keep HB2.out.2.2.2.2.2 hx4)))
  rw [hq] at HRc
  clear d0 d1 d2 d3 hp hb4 hm4 hx4 e0 e1 f0 f1 f2 f3 HB2 HN HRb
  generalize (w4.setCell ⟨pb,0,none⟩ (.bool (decide (zn<0)))).setCell ⟨pb,1,none⟩ (.slice bo (dg zn.natAbs).length bc)=w5 at *
  obtain ⟨f0,f1,-⟩:=HB3.out.1.facts
  obtain ⟨g0,g1,-⟩:=HB3.out.2.1.facts
  go_wp2_with fail
  refine HRc.out.mono ?_
  rintro q4 w14 ⟨v14,rfl,h14,hx14⟩
  obtain ⟨ng,sa,sn,sc,ta,tn,tc,rfl⟩:=h14.shape
  have hr4:=HB3.out.2.2.1.keep hx14
  obtain ⟨d0,d1,d2,d3,d4,d5⟩:=hr4.facts
  have hp:=hr4.put (neg:=ng) (no_int sa sn sc) (no_int ta tn tc)
  have HR:=bH (bI (hp.rat h14) (bI ((HB3.out.2.2.2.trans hx14).own hp.ext (fun k e=>by omega)) hp.box))
  clear hp hr4 h14 hx14 f0 f1 g0 g1
  go_wp2
  generalize ((w14.setCell ⟨pb+1+1,0,none⟩ (.bool ng)).setCell ⟨pb+1+1,1,none⟩ (.slice sa sn sc)).setCell ⟨pb+1+1,2,none⟩ (.slice ta tn tc)=w20 at *
  obtain ⟨g0,g1,g2,_⟩:=HR.out.2.2.facts
  exact bodyPost_ret (v:=.tuple #[.agg #[.bool ng,.slice sa sn sc,.slice ta tn tc],.int .i64 0]) (by simp [results,Tryz.results59,go_sem,g0,g1,g2]) rfl ⟨_,rfl,HR.out.1,HR.out.2.1⟩
 ·have hd:decide (y<0)=false:=decide_eq_false (by omega)
  rw [hd] at e0
  have HB3:=bH (bI HB2.out.1 (bI HB2.out.2.1 (bI HB2.out.2.2.1 HB2.out.2.2.2.1)))
  have HRc:=bH (HRb.out _ (.agg #[.bool n1,.slice a1 m1 c1]) z ⟨n1,_,l1,rfl,HB2.out.2.2.2.2.1,HZ.out.2.1,HZ.out.2.2⟩ HB2.out.2.2.2.2.2)
  rw [quot_pos hgt] at HRc
  go_upto_region 6 with fail
  clear e0 e1 HB2 HN HRb
  obtain ⟨f0,f1,-⟩:=HB3.out.1.facts
  obtain ⟨g0,g1,-⟩:=HB3.out.2.1.facts
  go_wp2_with fail
  refine HRc.out.mono ?_
  rintro q4 w14 ⟨v14,rfl,h14,hx14⟩
  obtain ⟨ng,sa,sn,sc,ta,tn,tc,rfl⟩:=h14.shape
  have hr4:=HB3.out.2.2.1.keep hx14
  obtain ⟨d0,d1,d2,d3,d4,d5⟩:=hr4.facts
  have hp:=hr4.put (neg:=ng) (no_int sa sn sc) (no_int ta tn tc)
  have HR:=bH (bI (hp.rat h14) (bI ((HB3.out.2.2.2.trans hx14).own hp.ext (fun k e=>by omega)) hp.box))
  clear hp hr4 h14 hx14 f0 f1 g0 g1
  go_wp2
  generalize ((w14.setCell ⟨pb+1+1,0,none⟩ (.bool ng)).setCell ⟨pb+1+1,1,none⟩ (.slice sa sn sc)).setCell ⟨pb+1+1,2,none⟩ (.slice ta tn tc)=w20 at *
  obtain ⟨g0,g1,g2,_⟩:=HR.out.2.2.facts
  exact bodyPost_ret (v:=.tuple #[.agg #[.bool ng,.slice sa sn sc,.slice ta tn tc],.int .i64 0]) (by simp [results,Tryz.results59,go_sem,g0,g1,g2]) rfl ⟨_,rfl,HR.out.1,HR.out.2.1⟩
theorem Sz.inv2 {q:Rat} {L:Nat} (h:Sz q L) (h1:1<=L):Sz q⁻¹ L:=by
 by_cases h0:q=0
 ·subst h0
  rw [Rat.inv_zero]; exact Sz.zero.mono h1
 ·refine ⟨?_,?_⟩
  ·rw [Rat.num_inv,Int.natAbs_mul,Int.natAbs_natCast]
   have hs:q.num.sign.natAbs=1:=by
    have:q.num≠0:=fun e=>h0 (Rat.num_eq_zero.1 e)
    rcases Int.lt_or_gt_of_ne this with h | h
    ·rw [Int.sign_eq_neg_one_of_neg h]; rfl
    ·rw [Int.sign_eq_one_of_pos h]; rfl
   rw [hs,Nat.one_mul]; exact h.2
  ·rw [Rat.den_inv,if_neg (fun e=>h0 (Rat.num_eq_zero.1 e))]; exact h.1
theorem Sz.quot {q q':Rat} {L M:Nat} (h:Sz q L) (h':Sz q' M) (h1:1<=M):Sz (q / q') (L+M):=by
 rw [Rat.div_def]; exact h.mul (h'.inv2 h1)
theorem Frac_any (w:World) (k d:Int) (hk:InR k) (hd:InR d) (h0:d≠0):Calls Tryz.prog 18 #[.int .i64 k,.int .i64 d] w (QtPost w ((k:Rat) / (d:Rat))):=by
 have hlk:(dg k.natAbs).length<=2:=by have h:=(Sz.int hk).1; rwa [Rat.num_intCast] at h
 have hld:(dg d.natAbs).length<=2:=by have h:=(Sz.int hd).1; rwa [Rat.num_intCast] at h
 have HFk:=bH (fun W=>Rifrom_any W k hk.1 hk.2)
 have HFd:=bH (fun W=>Rifrom_any W d hd.1 hd.2)
 have HM:=bH (fun W u v (hu:IsInt W u k) (hv:IsInt W v d)=>Rmake_any W u v k d 2 (hu.reads hlk) (hv.reads hld) h0 (by decide))
 have HB:=bH (bI (boxR_new rfl false none 0 0 none 0 0 (W:=w)) ((Ext.refl (fun _=>False) w).alloc (.cells #[.bool false,.slice none 0 0,.slice none 0 0] 42)))
 clear hlk hld hk hd h0
 go_enter Tryz.func18,Tryz.ntmps18
 go_upto_region 1 with fail
 generalize w.alloc (.cells #[.bool false,.slice none 0 0,.slice none 0 0] 42)=w0 at *
 obtain ⟨rb,hrb⟩:∃ q,w.heap.size=q:=⟨_,rfl⟩
 rw [hrb] at HB ⊢
 have HRl:=bH (show w.heap.size<=rb from Nat.le_of_eq hrb)
 clear hrb
 go_wp2_with (first | (go_at_call 60; (first | ((with_reducible refine (HFk.out w0).mono ?_); rintro q1 w1 ⟨v1,rfl,h1,hx1⟩) | ((with_reducible refine (HFd.out w1).mono ?_); rintro q2 w2 ⟨v2,rfl,h2,hx2⟩))) | (go_at_call 59; (with_reducible refine (HM.out w2 _ _ (h1.keep hx2) h2).mono ?_); rintro q3 w3 ⟨v3,rfl,h3,hx3⟩; obtain ⟨n3,a3,l3,c3,a3',l3',c3',rfl⟩:=h3.shape; have hbk:=HB.out.1.ext ((hx1.trans hx2).trans hx3) id; obtain ⟨d0,d1,d2,d3,d4,d5⟩:=hbk.facts; have hpt:=hbk.put (neg:=n3) (no_int a3 l3 c3) (no_int a3' l3' c3'); have HE:=bH (bI hpt.box (bI (hpt.rat h3) ((HB.out.2.trans ((hx1.trans hx2).trans hx3)).own hpt.ext (fun q e=>by have:=HRl.out; omega)))); clear hbk hpt))
 generalize ((w3.setCell ⟨rb,0,none⟩ (.bool n3)).setCell ⟨rb,1,none⟩ (.slice a3 l3 c3)).setCell ⟨rb,2,none⟩ (.slice a3' l3' c3')=w9 at *
 obtain ⟨g0,g1,g2,_⟩:=HE.out.1.facts
 exact bodyPost_ret (v:=.tuple #[.agg #[.bool n3,.slice a3 l3 c3,.slice a3' l3' c3'],.int .i64 0]) (by simp [results,Tryz.results18,go_sem,g0,g1,g2]) rfl ⟨_,rfl,HE.out.2.1,HE.out.2.2⟩
theorem cvx1_any (w:World) (ab bb:Nat) (na nb nu nv:Bool) (xa ya xb yb xu yu xv yv:Option Addr) (la ca ma da lb cb mb db lu cu mw dw lv cv mv dv:Nat) (A B q q':Rat) (ha:blk w ab=some (.cells #[.bool na,.slice xa la ca,.slice ya ma da] 42 (0,0))) (hb:blk w bb=some (.cells #[.bool nb,.slice xb lb cb,.slice yb mb db] 42 (0,0))) (hA:Rrat w (.agg #[.bool na,.slice xa la ca,.slice ya ma da]) A 100) (hB:Rrat w (.agg #[.bool nb,.slice xb lb cb,.slice yb mb db]) B 100) (hu:Rrat w (.agg #[.bool nu,.slice xu lu cu,.slice yu mw dw]) q 100) (hv:Rrat w (.agg #[.bool nv,.slice xv lv cv,.slice yv mv dv]) q' 100) :
  Calls Tryz.prog 21 #[(.agg #[.bool nu,.slice xu lu cu,.slice yu mw dw]),(.agg #[.bool nv,.slice xv lv cv,.slice yv mv dv]),.pointer (some ⟨ab,0,none⟩),.pointer (some ⟨bb,0,none⟩)] w (RatPost w (A*q+B*q')):=by
 have HSz:=bH (bI ((hA.sz (by decide)).mul (hu.sz (by decide))) ((hB.sz (by decide)).mul (hv.sz (by decide))))
 obtain ⟨b0,b1,b2,hx⟩:=box3 w (.cells #[.bool nu,.slice xu lu cu,.slice yu mw dw] 42) (.cells #[.bool nv,.slice xv lv cv,.slice yv mv dv] 42) (.cells #[.bool false,.slice none 0 0,.slice none 0 0] 42)
 have HM1:=bH (fun W (hW:XF w W)=>Rrmul_any W (.agg #[.bool na,.slice xa la ca,.slice ya ma da]) (.agg #[.bool nu,.slice xu lu cu,.slice yu mw dw]) A q 100 (hA.keep hW) (hu.keep hW) (by decide) (by decide))
 have HM2:=bH (fun W (hW:XF w W)=>Rrmul_any W (.agg #[.bool nb,.slice xb lb cb,.slice yb mb db]) (.agg #[.bool nv,.slice xv lv cv,.slice yv mv dv]) B q' 100 (hB.keep hW) (hv.keep hW) (by decide) (by decide))
 have HAd:=bH (fun W u v (hu:IsRat W u (A*q)) (hv:IsRat W v (B*q'))=>Rradd_any W u v _ _ 200 (hu.reads HSz.out.1) (hv.reads HSz.out.2) (by decide) (by decide))
 have HB:=bH (bI b0 (bI b1 (bI (boxR_of b2) hx)))
 have HAB:=bH (bI (blk_keep ha hx) (blk_keep hb hx))
 clear b0 b1 b2 ha hb hA hB hu hv
 obtain ⟨wz,hwz⟩:∃ W,((w.alloc (.cells #[.bool nu,.slice xu lu cu,.slice yu mw dw] 42)).alloc (.cells #[.bool nv,.slice xv lv cv,.slice yv mv dv] 42)).alloc (.cells #[.bool false,.slice none 0 0,.slice none 0 0] 42)=W:=⟨_,rfl⟩
 rw [hwz] at hx
 replace HM1:=bH (fun W hW=>HM1.out W (hx.trans hW))
 replace HM2:=bH (fun W hW=>HM2.out W (hx.trans hW))
 subst hwz
 clear hx
 go_enter Tryz.func21,Tryz.ntmps21
 go_upto_region 1 with fail
 generalize ((w.alloc (.cells #[.bool nu,.slice xu lu cu,.slice yu mw dw] 42)).alloc (.cells #[.bool nv,.slice xv lv cv,.slice yv mv dv] 42)).alloc (.cells #[.bool false,.slice none 0 0,.slice none 0 0] 42)=w0 at *
 obtain ⟨rb,hrb⟩:∃ q,w.heap.size=q:=⟨_,rfl⟩
 rw [hrb] at HB ⊢
 have HRl:=bH (show w.heap.size<=rb from Nat.le_of_eq hrb)
 clear hrb
 have x0:=cqo (S:=fun _=>False) (cellq HAB.out.1 0 rfl) id
 have x1:=cqo (S:=fun _=>False) (cellq HAB.out.1 1 rfl) id
 have x2:=cqo (S:=fun _=>False) (cellq HAB.out.1 2 rfl) id
 have y0:=cqo (S:=fun _=>False) (cellq HAB.out.2 0 rfl) id
 have y1:=cqo (S:=fun _=>False) (cellq HAB.out.2 1 rfl) id
 have y2:=cqo (S:=fun _=>False) (cellq HAB.out.2 2 rfl) id
 have u0:=cqo (S:=fun _=>False) (cellq HB.out.1 0 rfl) id
 have u1:=cqo (S:=fun _=>False) (cellq HB.out.1 1 rfl) id
 have u2:=cqo (S:=fun _=>False) (cellq HB.out.1 2 rfl) id
 have t0:=cqo (S:=fun _=>False) (cellq HB.out.2.1 0 rfl) id
 have t1:=cqo (S:=fun _=>False) (cellq HB.out.2.1 1 rfl) id
 have t2:=cqo (S:=fun _=>False) (cellq HB.out.2.1 2 rfl) id
 refine mbegin 7 (XF w0) (by kernel_rfl) ((Ext.refl _ w0).drew) (fun hHeld=>?_)
 refine mu 0 (h:=(mu 1 (h:=(mu 3 (h:=(mu 4 (h:=?_)))))))
 (try go_frame)
 refine mst 2 (h:=fun K hK=>?_)
 (go_simp; go_at_call 23; (with_reducible refine (HM1.out _ hHeld).mono ?_); rintro q6 w6 ⟨v6,rfl,h6,hx6⟩; have hX6:=hHeld.trans hx6; obtain ⟨n6,a6,l6,c6,a6',l6',c6',rfl⟩:=h6.shape)
 refine hK.out _ _ (hX6) (fun hHeld=>?_)
 clear hK K
 (try go_frame)
 refine mst 5 (h:=fun K hK=>?_)
 (go_simp; go_at_call 23; (with_reducible refine (HM2.out _ hX6).mono ?_); rintro q7 w7 ⟨v7,rfl,h7,hx7⟩; have hX7:=hX6.trans hx7; obtain ⟨n7,a7,l7,c7,a7',l7',c7',rfl⟩:=h7.shape)
 refine hK.out _ _ (hX7) (fun hHeld=>?_)
 clear hK K
 (try go_frame)
 refine mst 6 (h:=fun K hK=>?_)
 (go_simp; go_at_call 22; (with_reducible refine (HAd.out _ _ _ (h6.keep hx7) h7).mono ?_); rintro q8 w8 ⟨v8,rfl,h8,hx8⟩; have hX8:=hX7.trans hx8; obtain ⟨n8,a8,l8,c8,a8',l8',c8',rfl⟩:=h8.shape)
 refine hK.out _ _ (hX8) (fun hHeld=>?_)
 clear hK K
 (try go_frame)
 have hbk:=HB.out.2.2.1.ext hX8 id
 obtain ⟨d0,d1,d2,d3,d4,d5⟩:=hbk.facts
 have hpt:=hbk.put (neg:=n8) (no_int a8 l8 c8) (no_int a8' l8' c8')
 have HE:=bH (bI hpt.box (bI (hpt.rat h8) ((HB.out.2.2.2.trans hX8).own hpt.ext (fun q e=>by have:=HRl.out; omega))))
 clear hbk hpt h8
 refine ml 7 (h:=fun K hK=>?_)
 go_simp
 refine hK.out _ _ ?_
 clear hK K
 (try go_frame)
 refine mdone (by kernel_rfl) ?_ _
 go_wp2
 generalize ((w8.setCell ⟨rb+1+1,0,none⟩ (.bool n8)).setCell ⟨rb+1+1,1,none⟩ (.slice a8 l8 c8)).setCell ⟨rb+1+1,2,none⟩ (.slice a8' l8' c8')=w9 at *
 obtain ⟨g0,g1,g2,_⟩:=HE.out.1.facts
 exact bodyPost_ret (v:=.agg #[.bool n8,.slice a8 l8 c8,.slice a8' l8' c8']) (by simp [results,Tryz.results21,go_sem,g0,g1,g2]) rfl ⟨_,rfl,HE.out.2.1,HE.out.2.2⟩
section
variable {P:Program} {md:Region.Mode} {l:List Oper} {Q:Exit->Act->World->Prop} {S:World->Prop} {k:Nat}
theorem mtwo (i j:Nat) {oi oj:Oper} {fuel:Nat} {listed:Array Bool} {a:Act} {w:World} (hi:l[i]?=some oi) (hj:l[j]?=some oj) (hr:Region.ready md l.toArray listed=[i,j])
  (h1:∀ K':Act->World->Prop,Shut (∀ a w,S w->(S w->EndsMk P md l Q S k fuel (listed.setIfInBounds i true) a w)->K' a w)->if Region.wanted oi (yielded l.toArray a.tmps)=true then Oper.wp P oi a w K' Q else K' (a.put oi.dst undef) w)
  (h2:∀ K':Act->World->Prop,Shut (∀ a w,S w->(S w->EndsMk P md l Q S k fuel (listed.setIfInBounds j true) a w)->K' a w)->if Region.wanted oj (yielded l.toArray a.tmps)=true then Oper.wp P oj a w K' Q else K' (a.put oj.dst undef) w) :
  EndsMk P md l Q S k (fuel+1) listed a w:=by
 refine ⟨fun h0=>(by rw [hr] at h0; cases h0),fun q hq=>?_⟩
 rw [hr] at hq
 rcases List.mem_cons.1 hq with rfl | hq
 ·exact wpOp_step (by simpa using hi) (fun K' hK=>h1 K' (fun a w hS hW=>hK a w ⟨fun _ _=>hS,hW hS⟩))
 ·obtain rfl:=List.mem_singleton.1 hq
  exact wpOp_step (by simpa using hj) (fun K' hK=>h2 K' (fun a w hS hW=>hK a w ⟨fun _ _=>hS,hW hS⟩))
end
def mixF (A:Rat) (x y:List Rat) (i:Nat):Rat:=A*atQ x i+(1 - A)*atQ y i
theorem byte_frac {k:Int} (h0:0<=k) (h1:k<=255):0<=(k:Rat) / ((255:Int):Rat)/\(k:Rat) / ((255:Int):Rat)<=1/\Sz ((k:Rat) / ((255:Int):Rat)) 4:=by
 have e:((255:Int):Rat)=255:=rfl
 have k0:((0:Int):Rat)<=(k:Rat):=Rat.intCast_le_intCast.2 h0
 have k1:(k:Rat)<=((255:Int):Rat):=Rat.intCast_le_intCast.2 h1
 have e0:((0:Int):Rat)=0:=rfl
 rw [e0] at k0
 rw [e] at k1
 refine ⟨?_,?_,(Sz.int ⟨by omega,by omega⟩).quot (Sz.int ⟨by omega,by omega⟩) (by decide)⟩
 ·rw [e]; grind
 ·rw [e]; grind
theorem cvx_core (w:World) (pv xv yv:Value) (p:ProgV) (x y:List RatV) (k:Int) (hp:IsPrg w pv p) (hx:Raws w xv x) (hy:Raws w yv y) (hk:0<=k/\k<=255) (ht:Tab10 w):Calls Tryz.prog 4 #[pv,xv,yv,.int .u8 k] w (BoolPost w true):=by
 have hwk:IntKind.i64.wrap k=k:=IntWalk.i64_in _ (by omega)
 have HFr:=bH (fun W=>Frac_any W k 255 ⟨by omega,by omega⟩ ⟨by decide,by decide⟩ (by decide))
 obtain ⟨A,hAq⟩:∃ A:Rat,(k:Rat) / ((255:Int):Rat)=A:=⟨_,rfl⟩
 have HAq:=bH (show 0<=A/\A<=1/\Sz A 4/\Sz (1 - A) 7 from by
  obtain ⟨h1,h2,h3⟩:=byte_frac hk.1 hk.2
  rw [hAq] at h1 h2 h3
  exact ⟨h1,h2,h3,((Sz.int (k:=1) ⟨by decide,by decide⟩).sub h3)⟩)
 rw [hAq] at HFr
 clear hAq
 obtain ⟨vo,vn,vc,ro,rn,rc,rfl⟩:=hp.slices5
 have HLn:=bH (show p.vars.length=vn/\p.rows.length=rn from by
  obtain ⟨vv,rv,e,h,h2⟩:=hp
  cases e
  obtain ⟨_,_,e,_⟩:=h.shape
  obtain ⟨_,_,e2,_⟩:=h2.shape
  cases e; cases e2
  exact ⟨rfl,rfl⟩)
 obtain ⟨xo,xc,rfl,-⟩:=hx.shape
 obtain ⟨yo,yc,rfl,-⟩:=hy.shape
 have hxa:=(Ext.refl (fun _=>False) w).alloc (.cells #[.slice vo vn vc,.slice ro rn rc] 25)
 have HB:=bH (bI (hp.keep hxa) (bI (blk_alloc_at w (.cells #[.slice vo vn vc,.slice ro rn rc] 25)) hxa))
 have HTb:=bH (fun W (hW:XF w W)=>ht.keep hW)
 have HXx:=bH (fun W (hW:XF (w.alloc (.cells #[.slice vo vn vc,.slice ro rn rc] 25)) W)=>hx.keep (hxa.trans hW))
 have HXy:=bH (fun W (hW:XF (w.alloc (.cells #[.slice vo vn vc,.slice ro rn rc] 25)) W)=>hy.keep (hxa.trans hW))
 clear hp hxa ht hx hy
 obtain ⟨xn,hxn⟩:∃ n,x.length=n:=⟨_,rfl⟩
 rw [hxn] at HXx ⊢
 clear hxn
 obtain ⟨yn,hyn⟩:∃ n,y.length=n:=⟨_,rfl⟩
 rw [hyn] at HXy ⊢
 clear hyn
 go_enter Tryz.func4,Tryz.ntmps4
 go_upto_region 1 with fail
 generalize w.alloc (.cells #[.slice vo vn vc,.slice ro rn rc] 25)=w1 at *
 obtain ⟨pb,hpb⟩:∃ q,w.heap.size=q:=⟨_,rfl⟩
 rw [hpb] at HB ⊢
 have HPb:=bH (Nat.le_of_eq hpb)
 clear hpb
 have p0:w1.cell? ⟨pb,0,none⟩=some (.slice vo vn vc):=cellq HB.out.2.1 0 rfl
 have p1:w1.cell? ⟨pb,1,none⟩=some (.slice ro rn rc):=cellq HB.out.2.1 1 rfl
 have HC0:=bH (fun W (hW:XF w1 W)=>show Calls Tryz.prog 9 #[(.agg #[.slice vo vn vc,.slice ro rn rc]),.int .i64 6,.int .i64 6] W (BoolPost W (fewP p 6 6)) from FewP_any W (.agg #[.slice vo vn vc,.slice ro rn rc]) p 6 6 (by decide) (by decide) (HB.out.1.keep hW))
 obtain ⟨b0,hb0⟩:∃ b,fewP p 6 6=b:=⟨_,rfl⟩
 rw [hb0] at HC0
 have HG0:=bH hb0
 clear hb0
 cases b0 with
 | false =>
  go_upto_region 2 with (first | (go_at_call 8; refine (awake4_any _ (HTb.out _ HB.out.2.2)).mono ?_; rintro q2 w2 ⟨rfl,hx2⟩; replace p0:=cell_keep p0 hx2; replace p1:=cell_keep p1 hx2) | (go_at_call 9; (with_reducible refine (HC0.out _ (hx2)).mono ?_); rintro q3 w3 ⟨rfl,hx3⟩; replace p0:=cell_keep p0 hx3; replace p1:=cell_keep p1 hx3))
  go_wp2_with (go_at_call 8; refine (awake4_any _ (HTb.out _ (HB.out.2.2.trans (hx2.trans hx3)))).mono ?_; rintro r8 w8 ⟨rfl,hx8⟩)
  go_ret
  exact ⟨rfl,(HB.out.2.2.trans (hx2.trans hx3)).trans hx8⟩
 | true =>
 have HC1:=bH (fun W (hW:XF w1 W)=>show Calls Tryz.prog 15 #[.slice xo xn xc,.int .i64 6] W (BoolPost W (shortB x 6)) from Short_any W (.slice xo xn xc) x 6 (by decide) (HXx.out W hW))
 obtain ⟨b1,hb1⟩:∃ b,shortB x 6=b:=⟨_,rfl⟩
 rw [hb1] at HC1
 have HG1:=bH hb1
 clear hb1
 cases b1 with
 | false =>
  go_upto_region 2 with (first | (go_at_call 8; refine (awake4_any _ (HTb.out _ HB.out.2.2)).mono ?_; rintro q2 w2 ⟨rfl,hx2⟩; replace p0:=cell_keep p0 hx2; replace p1:=cell_keep p1 hx2) | (go_at_call 9; (with_reducible refine (HC0.out _ (hx2)).mono ?_); rintro q3 w3 ⟨rfl,hx3⟩; replace p0:=cell_keep p0 hx3; replace p1:=cell_keep p1 hx3) | (go_at_call 15; (with_reducible refine (HC1.out _ (hx2.trans hx3)).mono ?_); rintro q4 w4 ⟨rfl,hx4⟩; replace p0:=cell_keep p0 hx4; replace p1:=cell_keep p1 hx4))
  go_wp2_with (go_at_call 8; refine (awake4_any _ (HTb.out _ (HB.out.2.2.trans ((hx2.trans hx3).trans hx4)))).mono ?_; rintro r8 w8 ⟨rfl,hx8⟩)
  go_ret
  exact ⟨rfl,(HB.out.2.2.trans ((hx2.trans hx3).trans hx4)).trans hx8⟩
 | true =>
 have HC2:=bH (fun W (hW:XF w1 W)=>show Calls Tryz.prog 15 #[.slice yo yn yc,.int .i64 6] W (BoolPost W (shortB y 6)) from Short_any W (.slice yo yn yc) y 6 (by decide) (HXy.out W hW))
 obtain ⟨b2,hb2⟩:∃ b,shortB y 6=b:=⟨_,rfl⟩
 rw [hb2] at HC2
 have HG2:=bH hb2
 clear hb2
 cases b2 with
 | false =>
  go_upto_region 2 with (first | (go_at_call 8; refine (awake4_any _ (HTb.out _ HB.out.2.2)).mono ?_; rintro q2 w2 ⟨rfl,hx2⟩; replace p0:=cell_keep p0 hx2; replace p1:=cell_keep p1 hx2) | (go_at_call 9; (with_reducible refine (HC0.out _ (hx2)).mono ?_); rintro q3 w3 ⟨rfl,hx3⟩; replace p0:=cell_keep p0 hx3; replace p1:=cell_keep p1 hx3) | (go_at_call 15; (with_reducible refine (HC1.out _ (hx2.trans hx3)).mono ?_); rintro q4 w4 ⟨rfl,hx4⟩; replace p0:=cell_keep p0 hx4; replace p1:=cell_keep p1 hx4) | (go_at_call 15; (with_reducible refine (HC2.out _ ((hx2.trans hx3).trans hx4)).mono ?_); rintro q5 w5 ⟨rfl,hx5⟩; replace p0:=cell_keep p0 hx5; replace p1:=cell_keep p1 hx5))
  go_wp2_with (go_at_call 8; refine (awake4_any _ (HTb.out _ (HB.out.2.2.trans (((hx2.trans hx3).trans hx4).trans hx5)))).mono ?_; rintro r8 w8 ⟨rfl,hx8⟩)
  go_ret
  exact ⟨rfl,(HB.out.2.2.trans (((hx2.trans hx3).trans hx4).trans hx5)).trans hx8⟩
 | true =>
 go_upto_region 3 with (first | (go_at_call 8; refine (awake4_any _ (HTb.out _ HB.out.2.2)).mono ?_; rintro q2 w2 ⟨rfl,hx2⟩; replace p0:=cell_keep p0 hx2; replace p1:=cell_keep p1 hx2) | (go_at_call 9; (with_reducible refine (HC0.out _ (hx2)).mono ?_); rintro q3 w3 ⟨rfl,hx3⟩; replace p0:=cell_keep p0 hx3; replace p1:=cell_keep p1 hx3) | (go_at_call 15; (with_reducible refine (HC1.out _ (hx2.trans hx3)).mono ?_); rintro q4 w4 ⟨rfl,hx4⟩; replace p0:=cell_keep p0 hx4; replace p1:=cell_keep p1 hx4) | (go_at_call 15; (with_reducible refine (HC2.out _ ((hx2.trans hx3).trans hx4)).mono ?_); rintro q5 w5 ⟨rfl,hx5⟩; replace p0:=cell_keep p0 hx5; replace p1:=cell_keep p1 hx5))
 have HX:=bH (((hx2.trans hx3).trans hx4).trans hx5)
 clear hx2 hx3 hx4 hx5 HC0 HC1 HC2
 have HRx:=bH (fun W (hW:XF w1 W)=>show Rats W (.slice xo xn xc) (valL x) 4 from (HXx.out W hW).rats (by
  have:=HG1.out
  unfold shortB at this
  simp only [Bool.and_eq_true] at this
  exact this.2))
 have HRy:=bH (fun W (hW:XF w1 W)=>show Rats W (.slice yo yn yc) (valL y) 4 from (HXy.out W hW).rats (by
  have:=HG2.out
  unfold shortB at this
  simp only [Bool.and_eq_true] at this
  exact this.2))
 obtain ⟨hT,hn6,hm6⟩:=few_parts6 HG0.out
 obtain ⟨nx,hnx⟩:∃ n,(violQ p (valL x)).length=n:=⟨_,rfl⟩
 obtain ⟨ny,hny⟩:∃ n,(violQ p (valL y)).length=n:=⟨_,rfl⟩
 have HIx:=bH (fun W (hW:XF w1 W)=>Inside_any W (.agg #[.slice vo vn vc,.slice ro rn rc]) (.slice xo xn xc) p (valL x) 4 (HB.out.1.keep hW) (HRx.out W hW) (by decide) (by decide))
 have HIy:=bH (fun W (hW:XF w1 W)=>Inside_any W (.agg #[.slice vo vn vc,.slice ro rn rc]) (.slice yo yn yc) p (valL y) 4 (HB.out.1.keep hW) (HRy.out W hW) (by decide) (by decide))
 have HVx:=bH (fun W (hW:XF w1 W)=>show Calls Tryz.prog 17 #[(.agg #[.slice vo vn vc,.slice ro rn rc]),(.slice xo xn xc)] W (fun r w'=>∃ ao c,r=.returned (.slice ao nx c)/\XF W w') from (Violated_any W (.agg #[.slice vo vn vc,.slice ro rn rc]) (.slice xo xn xc) p (valL x) 4 12 (HB.out.1.keep hW) (HRx.out W hW) (by decide) hT (by decide) (by omega)).mono (fun r w' hh=>by obtain ⟨v,rfl,hn,hx⟩:=hh; obtain ⟨ao,c,rfl⟩:=hn.shape; exact ⟨ao,c,by rw [hnx],hx⟩))
 have HVy:=bH (fun W (hW:XF w1 W)=>show Calls Tryz.prog 17 #[(.agg #[.slice vo vn vc,.slice ro rn rc]),(.slice yo yn yc)] W (fun r w'=>∃ ao c,r=.returned (.slice ao ny c)/\XF W w') from (Violated_any W (.agg #[.slice vo vn vc,.slice ro rn rc]) (.slice yo yn yc) p (valL y) 4 12 (HB.out.1.keep hW) (HRy.out W hW) (by decide) hT (by decide) (by omega)).mono (fun r w' hh=>by obtain ⟨v,rfl,hn,hx⟩:=hh; obtain ⟨ao,c,rfl⟩:=hn.shape; exact ⟨ao,c,by rw [hny],hx⟩))
 have HN:=bH (bI hT (bI hn6 (bI hm6 (bI hnx hny))))
 clear hT hn6 hm6 hnx hny
 obtain ⟨bx,hbx⟩:∃ b,insideB p (valL x)=b:=⟨_,rfl⟩
 obtain ⟨bY,hbY⟩:∃ b,insideB p (valL y)=b:=⟨_,rfl⟩
 rw [hbx] at HIx
 rw [hbY] at HIy
 have HIb:=bH (bI hbx hbY)
 clear hbx hbY
 cases bx with
 | false =>
  go_wp2_with (first | (go_at_call 16; (with_reducible refine (HIx.out _ HX.out).mono ?_); rintro q6 w6 ⟨rfl,hx6⟩; replace p0:=cell_keep p0 hx6; replace p1:=cell_keep p1 hx6))
  go_ret
  exact ⟨rfl,HB.out.2.2.trans (HX.out.trans hx6)⟩
 | true =>
 cases bY with
 | false =>
  go_wp2_with (first | (go_at_call 16; (with_reducible refine (HIx.out _ HX.out).mono ?_); rintro q6 w6 ⟨rfl,hx6⟩; replace p0:=cell_keep p0 hx6; replace p1:=cell_keep p1 hx6) | (go_at_call 16; (with_reducible refine (HIy.out _ (HX.out.trans hx6)).mono ?_); rintro q7 w7 ⟨rfl,hx7⟩; replace p0:=cell_keep p0 hx7; replace p1:=cell_keep p1 hx7))
  go_ret
  exact ⟨rfl,HB.out.2.2.trans ((HX.out.trans hx6).trans hx7)⟩
 | true =>
 rcases Nat.eq_zero_or_pos nx with hq | hq
 case inr =>
  have hq0:(0:Int)<(nx:Int):=by omega
  go_wp2_with (first | (go_at_call 16; (with_reducible refine (HIx.out _ HX.out).mono ?_); rintro q6 w6 ⟨rfl,hx6⟩; replace p0:=cell_keep p0 hx6; replace p1:=cell_keep p1 hx6) | (go_at_call 16; (with_reducible refine (HIy.out _ (HX.out.trans hx6)).mono ?_); rintro q7 w7 ⟨rfl,hx7⟩; replace p0:=cell_keep p0 hx7; replace p1:=cell_keep p1 hx7) | (go_at_call 17; (with_reducible refine (HVx.out _ ((HX.out.trans hx6).trans hx7)).mono ?_); rintro q8 w8 ⟨vo8,vc8,rfl,hx8⟩; replace p0:=cell_keep p0 hx8; replace p1:=cell_keep p1 hx8))
  go_ret
  exact ⟨rfl,HB.out.2.2.trans (((HX.out.trans hx6).trans hx7).trans hx8)⟩
 subst hq
 have hq0:¬ ((0:Int)<((0:Nat):Int)):=by omega
 rcases Nat.eq_zero_or_pos ny with hq | hq
 case inr =>
  have hq1:(0:Int)<(ny:Int):=by omega
  go_wp2_with (first | (go_at_call 16; (with_reducible refine (HIx.out _ HX.out).mono ?_); rintro q6 w6 ⟨rfl,hx6⟩; replace p0:=cell_keep p0 hx6; replace p1:=cell_keep p1 hx6) | (go_at_call 16; (with_reducible refine (HIy.out _ (HX.out.trans hx6)).mono ?_); rintro q7 w7 ⟨rfl,hx7⟩; replace p0:=cell_keep p0 hx7; replace p1:=cell_keep p1 hx7) | (go_at_call 17; (with_reducible refine (HVx.out _ ((HX.out.trans hx6).trans hx7)).mono ?_); rintro q8 w8 ⟨vo8,vc8,rfl,hx8⟩; replace p0:=cell_keep p0 hx8; replace p1:=cell_keep p1 hx8) | (go_at_call 17; (with_reducible refine (HVy.out _ (((HX.out.trans hx6).trans hx7).trans hx8)).mono ?_); rintro q9 w9 ⟨vo9,vc9,rfl,hx9⟩; replace p0:=cell_keep p0 hx9; replace p1:=cell_keep p1 hx9))
  go_ret
  exact ⟨rfl,HB.out.2.2.trans ((((HX.out.trans hx6).trans hx7).trans hx8).trans hx9)⟩
 subst hq
 go_upto_region 5 with (first | (go_at_call 16; (with_reducible refine (HIx.out _ HX.out).mono ?_); rintro q6 w6 ⟨rfl,hx6⟩; replace p0:=cell_keep p0 hx6; replace p1:=cell_keep p1 hx6) | (go_at_call 16; (with_reducible refine (HIy.out _ (HX.out.trans hx6)).mono ?_); rintro q7 w7 ⟨rfl,hx7⟩; replace p0:=cell_keep p0 hx7; replace p1:=cell_keep p1 hx7) | (go_at_call 17; (with_reducible refine (HVx.out _ ((HX.out.trans hx6).trans hx7)).mono ?_); rintro q8 w8 ⟨vo8,vc8,rfl,hx8⟩; replace p0:=cell_keep p0 hx8; replace p1:=cell_keep p1 hx8) | (go_at_call 17; (with_reducible refine (HVy.out _ (((HX.out.trans hx6).trans hx7).trans hx8)).mono ?_); rintro q9 w9 ⟨vo9,vc9,rfl,hx9⟩; replace p0:=cell_keep p0 hx9; replace p1:=cell_keep p1 hx9))
 have HX2:=bH ((((HX.out.trans hx6).trans hx7).trans hx8).trans hx9)
 clear hx6 hx7 hx8 hx9 hq0 HIx HIy HVx HVy HX
 have HMX:=bH (bI (mix_inside HAq.out.1 HAq.out.2.1 HIb.out.1 HIb.out.2) (bI (mix_viol HAq.out.1 HAq.out.2.1 (List.eq_nil_of_length_eq_zero HN.out.2.2.2.1) (List.eq_nil_of_length_eq_zero HN.out.2.2.2.2)) (mix_cost (p:=p) (a:=A) (x:=valL x) (y:=valL y))))
 go_upto_region 6 with (go_at_call 18; (with_reducible refine (HFr.out _).mono ?_); rintro q10 w10 ⟨v10,rfl,h10,hx10⟩; obtain ⟨na,xa,la,ca,ya,ma,da,rfl⟩:=h10.shape; replace p0:=cell_keep p0 hx10; replace p1:=cell_keep p1 hx10)
 have hxa:=(Ext.refl (fun _=>False) w10).alloc (.cells #[.bool na,.slice xa la ca,.slice ya ma da] 42)
 have HA:=bH (bI (blk_alloc_at w10 (.cells #[.bool na,.slice xa la ca,.slice ya ma da] 42)) (bI (h10.keep hxa) (HX2.out.trans (hx10.trans hxa))))
 clear p0 p1 hxa h10 hx10 HX2
 generalize w10.alloc (.cells #[.bool na,.slice xa la ca,.slice ya ma da] 42)=w11 at *
 generalize w10.heap.size=ab at *
 have a0:=cqo (S:=fun _=>False) (cellq HA.out.1 0 rfl) id
 have a1:=cqo (S:=fun _=>False) (cellq HA.out.1 1 rfl) id
 have a2:=cqo (S:=fun _=>False) (cellq HA.out.1 2 rfl) id
 have HF1:=bH (fun W=>show Calls Tryz.prog 20 #[.int .i64 1] W (RatPost W 1) from Rrfrom_any W 1 (by decide) (by decide))
 have HSu:=bH (fun W u (hW:XF w11 W) (hu:IsRat W u 1)=>Rrsub_any W u (.agg #[.bool na,.slice xa la ca,.slice ya ma da]) 1 A 4 (hu.reads ((Sz.int (k:=1) ⟨by decide,by decide⟩).mono (by decide))) ((HA.out.2.1.keep hW).reads HAq.out.2.2.1) (by decide) (by decide))
 go_cut [11] (fun v11 wx=>∃ bb nb xb lb cb yb mb db,v11=.pointer (some ⟨bb,0,none⟩)/\blk wx bb=some (.cells #[.bool nb,.slice xb lb cb,.slice yb mb db] 42 (0,0))/\IsRat wx (.agg #[.bool nb,.slice xb lb cb,.slice yb mb db]) (1 - A)/\XF w11 wx)
 case first =>
  refine mbegin 4 (XF w11) (by kernel_rfl) ((Ext.refl _ w11).drew) (fun hHeld=>?_)
  refine mu 1 (h:=?_)
  (try go_frame)
  refine mtwo 0 3 rfl rfl (by kernel_rfl) (fun K hK=>?_) (fun K hK=>?_)
  ·go_simp
   go_at_call 20; (with_reducible refine (HF1.out _).mono ?_); rintro q1 w12 ⟨v1,rfl,h1,hx1⟩
   obtain ⟨n1,a1,l1,d1,a1',l1',d1',rfl⟩:=h1.shape
   refine hK.out _ _ (hHeld.trans hx1) (fun hHeld=>?_)
   clear hK K
   (try go_frame)
   refine mtwo 2 3 rfl rfl (by kernel_rfl) (fun K hK=>?_) (fun K hK=>?_)
   ·go_simp
    go_at_call 19; (with_reducible refine (HSu.out _ _ hHeld h1).mono ?_); rintro q2 w13 ⟨v2,rfl,h2,hx2⟩
    obtain ⟨n2,a2,l2,d2,a2',l2',d2',rfl⟩:=h2.shape
    refine hK.out _ _ (hHeld.trans hx2) (fun hHeld=>?_)
    clear hK K
    (try go_frame)
    refine mst 3 (h:=fun K hK=>?_)
    go_simp
    have hxl:=(Ext.refl (fun _=>False) w13).alloc (.cells #[.bool false,.slice none 0 0,.slice none 0 0] 42)
    have hS3:=hHeld.trans hxl
    replace h2:=h2.keep hxl
    have hgb:=blk_alloc_at w13 (.cells #[.bool false,.slice none 0 0,.slice none 0 0] 42)
    have hbb:=hHeld.size
    clear hxl
    generalize w13.alloc (.cells #[.bool false,.slice none 0 0,.slice none 0 0] 42)=w3b at *
    generalize w13.heap.size=bb at *
    refine hK.out _ _ (hS3) (fun hHeld=>?_)
    clear hK K
    (try go_frame)
    have hbk:=boxR_of hgb
    obtain ⟨z0,z1,z2,z3,z4,z5⟩:=hbk.facts
    have hpt:=hbk.put (neg:=n2) (no_int a2 l2 d2) (no_int a2' l2' d2')
    have HE:=bH (bI hpt.box.1 (bI (hpt.rat h2) (hHeld.own hpt.ext (fun q e=>by have e':q=bb:=e; omega))))
    clear hbk hpt h2
    refine ml 4 (h:=fun K hK=>?_)
    go_simp
    refine hK.out _ _ ?_
    clear hK K
    (try go_frame)
    refine mdone (by kernel_rfl) ?_ _
    clear z0 z1 z2 z3 z4 z5
    go_wp2
    go_meet
    exact ⟨_,_,_,_,_,_,_,_,rfl,HE.out⟩
   ·go_simp
    have hxl:=(Ext.refl (fun _=>False) w12).alloc (.cells #[.bool false,.slice none 0 0,.slice none 0 0] 42)
    have hS3:=hHeld.trans hxl
    replace h1:=h1.keep hxl
    have hgb:=blk_alloc_at w12 (.cells #[.bool false,.slice none 0 0,.slice none 0 0] 42)
    have hbb:=hHeld.size
    clear hxl
    generalize w12.alloc (.cells #[.bool false,.slice none 0 0,.slice none 0 0] 42)=w3b at *
    generalize w12.heap.size=bb at *
    refine hK.out _ _ (hS3) (fun hHeld=>?_)
    clear hK K
    (try go_frame)
    refine mst 2 (h:=fun K hK=>?_)
    go_simp
    go_at_call 19; (with_reducible refine (HSu.out _ _ hHeld h1).mono ?_); rintro q2 w13 ⟨v2,rfl,h2,hx2⟩
    obtain ⟨n2,a2,l2,d2,a2',l2',d2',rfl⟩:=h2.shape
    replace hgb:=blk_keep hgb hx2
    refine hK.out _ _ (hHeld.trans hx2) (fun hHeld=>?_)
    clear hK K
    (try go_frame)
    have hbk:=boxR_of hgb
    obtain ⟨z0,z1,z2,z3,z4,z5⟩:=hbk.facts
    have hpt:=hbk.put (neg:=n2) (no_int a2 l2 d2) (no_int a2' l2' d2')
    have HE:=bH (bI hpt.box.1 (bI (hpt.rat h2) (hHeld.own hpt.ext (fun q e=>by have e':q=bb:=e; omega))))
    clear hbk hpt h2
    refine ml 4 (h:=fun K hK=>?_)
    go_simp
    refine hK.out _ _ ?_
    clear hK K
    (try go_frame)
    refine mdone (by kernel_rfl) ?_ _
    clear z0 z1 z2 z3 z4 z5
    go_wp2
    go_meet
    exact ⟨_,_,_,_,_,_,_,_,rfl,HE.out⟩
  ·go_simp
   have hS3:XF w11 (w11.alloc (.cells #[.bool false,.slice none 0 0,.slice none 0 0] 42)).drew:=((Ext.refl (fun _=>False) w11).alloc (.cells #[.bool false,.slice none 0 0,.slice none 0 0] 42)).drew
   have hgb:blk (w11.alloc (.cells #[.bool false,.slice none 0 0,.slice none 0 0] 42)).drew w11.heap.size=some (.cells #[.bool false,.slice none 0 0,.slice none 0 0] 42 (0,0)):=blk_alloc_at w11 (.cells #[.bool false,.slice none 0 0,.slice none 0 0] 42)
   generalize (w11.alloc (.cells #[.bool false,.slice none 0 0,.slice none 0 0] 42)).drew=w3b at *
   generalize hbb:w11.heap.size=bb at *
   refine hK.out _ _ (hS3) (fun hHeld=>?_)
   clear hK K
   (try go_frame)
   refine mst 0 (h:=fun K hK=>?_)
   go_simp
   go_at_call 20; (with_reducible refine (HF1.out _).mono ?_); rintro q1 w12 ⟨v1,rfl,h1,hx1⟩
   obtain ⟨n1,a1,l1,d1,a1',l1',d1',rfl⟩:=h1.shape
   replace hgb:=blk_keep hgb hx1
   refine hK.out _ _ (hHeld.trans hx1) (fun hHeld=>?_)
   clear hK K
   (try go_frame)
   refine mst 2 (h:=fun K hK=>?_)
   go_simp
   go_at_call 19; (with_reducible refine (HSu.out _ _ hHeld h1).mono ?_); rintro q2 w13 ⟨v2,rfl,h2,hx2⟩
   obtain ⟨n2,a2,l2,d2,a2',l2',d2',rfl⟩:=h2.shape
   replace hgb:=blk_keep hgb hx2
   refine hK.out _ _ (hHeld.trans hx2) (fun hHeld=>?_)
   clear hK K
   (try go_frame)
   have hbk:=boxR_of hgb
   obtain ⟨z0,z1,z2,z3,z4,z5⟩:=hbk.facts
   have hpt:=hbk.put (neg:=n2) (no_int a2 l2 d2) (no_int a2' l2' d2')
   have HE:=bH (bI hpt.box.1 (bI (hpt.rat h2) (hHeld.own hpt.ext (fun q e=>by have e':q=bb:=e; omega))))
   clear hbk hpt h2
   refine ml 4 (h:=fun K hK=>?_)
   go_simp
   refine hK.out _ _ ?_
   clear hK K
   (try go_frame)
   refine mdone (by kernel_rfl) ?_ _
   clear z0 z1 z2 z3 z4 z5
   go_wp2
   go_meet
   exact ⟨_,_,_,_,_,_,_,_,rfl,HE.out⟩
 case rest =>
 obtain ⟨bb,nb,xb,lb,cb,yb,mb,db,rfl,hcb,hcr,hcx⟩:=hcut
 have HXb:=bH (HA.out.2.2.trans hcx)
 have HAB:=bH (bI (blk_keep HA.out.1 hcx) (bI hcb (bI ((HA.out.2.1.keep hcx).reads (HAq.out.2.2.1.mono (by decide:4<=100))) (hcr.reads (HAq.out.2.2.2.mono (by decide:7<=100))))))
 clear hcb hcr hcx a0 a1 a2 HF1 HSu
 obtain ⟨wb,rfl⟩:∃ x,x=wc:=⟨_,rfl⟩
 have HMx:=bH (fun W nu xu lu cu yu mw dw nv xv lv cv yv mv dv q q' (hW:XF wb W) (hu:Rrat W (.agg #[.bool nu,.slice xu lu cu,.slice yu mw dw]) q 100) (hv:Rrat W (.agg #[.bool nv,.slice xv lv cv,.slice yv mv dv]) q' 100)=>cvx1_any W ab bb na nb nu nv xa ya xb yb xu yu xv yv la ca ma da lb cb mb db lu cu mw dw lv cv mv dv A (1 - A) q q' (blk_keep HAB.out.1 hW) (blk_keep HAB.out.2.1 hW) (HAB.out.2.2.1.keep hW) (HAB.out.2.2.2.keep hW) hu hv)
 have p0:=cellq (blk_keep HB.out.2.1 HXb.out) 0 rfl
 go_upto_region 9 with fail
 go_upto_region 10 with fail
 go_wp2_with fail
 go_loopg [70,13,14] vn (fun gg v70 v13 v14 wr=>∃ (i:Nat) (v:Value),i<=vn/\gg=vn - i/\v70=.int .i64 i/\v=v13/\ROwn wr wb.heap.size v (listTo i (mixF A (valL x) (valL y))) 20/\XF wb wr)
 case atStart=>exact ⟨0,_,Nat.zero_le _,rfl,rfl,rfl,ROwn.nil _ _ _,Ext.refl _ _⟩
 case round =>
  clear p0
  obtain ⟨i,v,hi,rfl,rfl,rfl,ho,hx⟩:=hrel
  have HO:=bH (bI ho hx)
  clear ho hx
  by_cases hin:i<vn
  ·have i0:(i:Int)<(vn:Int):=by omega
   have i1:(0:Int)<=(i:Int):=by omega
   have hn6:vn<=6:=by have h1:=HLn.out.1; have h2:=HN.out.2.1; omega
   have HAx:=bH (fun W (hW:XF wr W)=>At_any W (.slice xo xn xc) (valL x) 4 (HRx.out W ((HXb.out.trans HO.out.2).trans hW)) i)
   have HAy:=bH (fun W (hW:XF wr W)=>At_any W (.slice yo yn yc) (valL y) 4 (HRy.out W ((HXb.out.trans HO.out.2).trans hW)) i)
   have HSx:=bH (show Sz (A*atQ (valL x) i+(1 - A)*atQ (valL y) i) 20 from (HAq.out.2.2.1.mul ((HRx.out w1 (Ext.refl _ _)).sz (by decide) i)).add (HAq.out.2.2.2.mul ((HRy.out w1 (Ext.refl _ _)).sz (by decide) i)))
   have HLo:=bH (fun g e=>(HO.out.1.lt g e).1)
   have HSl:=bH HO.out.2.size
   go_wp2_with (first | (go_at_call 24; (first | ((with_reducible refine (HAx.out _ (Ext.refl _ _)).mono ?_); rintro q5 w5 ⟨v5,rfl,h5,hx5⟩; obtain ⟨n5,a5,l5,d5,a5',l5',d5',rfl⟩:=h5.shape; have hs5:=hx5.size) | ((with_reducible refine (HAy.out _ hx5).mono ?_); rintro q6 w6 ⟨v6,rfl,h6,hx6⟩; obtain ⟨n6,a6,l6,d6,a6',l6',d6',rfl⟩:=h6.shape; have hs6:=hx6.size))) | (go_at_call 21; (with_reducible refine (HMx.out _ _ _ _ _ _ _ _ _ _ _ _ _ _ _ _ _ (HO.out.2.trans (hx5.trans hx6)) ((h5.keep hx6).mono (by decide)) (h6.mono (by decide))).mono ?_); rintro q7 w7 ⟨v7,rfl,h7,hx7⟩; obtain ⟨n7,a7,l7,d7,a7',l7',d7',rfl⟩:=h7.shape; have hs7:=hx7.size) | (at_builtin; refine wpList_append_rat rfl (.tmp 73) (.tmp 82) rfl wb.heap.size v (listTo i (mixF A (valL x) (valL y))) 20 rfl (HO.out.1.keep (((hx5.trans hx6).trans hx7).trans ((Ext.refl (fun _=>False) w7).alloc _))) ⟨n7,a7,l7,d7,a7',l7',d7'⟩ (A*atQ (valL x) i+(1 - A)*atQ (valL y) i) ((h7.keep ((Ext.refl (fun _=>False) w7).alloc _)).reads HSx.out) ⟨w7.heap.size,0,none⟩ 1 rfl (cells_new (RatC.cells ⟨n7,a7,l7,d7,a7',l7',d7'⟩) _ rfl) (by rw [listTo_length]; omega) (by rw [World.size_alloc]; have:=HSl.out; omega) ?_; intro v9 w9 ho9 hx9 hr9))
   have HN9:=bH (bI (show ROwn w9 wb.heap.size v9 (listTo (i+1) (mixF A (valL x) (valL y))) 20 from by rw [listTo_succ]; exact ho9) ((HO.out.2.trans (((hx5.trans hx6).trans hx7).trans ((Ext.refl (fun _=>False) w7).alloc (.cells #[.bool n7,.slice a7 l7 d7,.slice a7' l7' d7'] 42)))).own hx9 (fun g e=>HLo.out g e)))
   clear ho9 hx9 hr9 h7 hx7 h6 hx6 h5 hx5
   go_wp2
   go_roundg (vn - (i+1))
   case measure=>omega
   case rel=>exact ⟨i+1,_,by omega,rfl,by go_num,rfl,HN9.out.1,HN9.out.2⟩
  ·obtain rfl:vn=i:=by omega
   obtain ⟨ao,ac,rfl⟩:=HO.out.1.shape
   rw [listTo_length] at HO ⊢
   have HZ:=bH (show Rats wr (.slice ao vn ac) (mixX p A (valL x) (valL y)) 20 from by unfold mixX; rw [HLn.out.1]; exact HO.out.1.rats)
   have HXo:=bH (HXb.out.trans HO.out.2)
   obtain ⟨wo,rfl⟩:∃ x,x=wr:=⟨_,rfl⟩
   have HMz:=bH (fun W nu xu lu cu yu mw dw nv xv lv cv yv mv dv (hW:XF wo W) (hu:IsRat W (.agg #[.bool nu,.slice xu lu cu,.slice yu mw dw]) (costQ p (valL x))) (hv:IsRat W (.agg #[.bool nv,.slice xv lv cv,.slice yv mv dv]) (costQ p (valL y)))=>HMx.out W nu xu lu cu yu mw dw nv xv lv cv yv mv dv _ _ (HO.out.2.trans hW) (hu.reads (by
    obtain ⟨vv,rv,e,h,h2⟩:=HB.out.1
    have h1:=HN.out.2.1
    exact (costQ_sz h ((HRx.out w1 (Ext.refl _ _)).sz (by decide))).mono (by omega))) (hv.reads (by
    obtain ⟨vv,rv,e,h,h2⟩:=HB.out.1
    have h1:=HN.out.2.1
    exact (costQ_sz h ((HRy.out w1 (Ext.refl _ _)).sz (by decide))).mono (by omega))))
   have HCS:=bH (show Sz (costQ p (mixX p A (valL x) (valL y))) 1000 from by
    obtain ⟨vv,rv,e,h,h2⟩:=HB.out.1
    have h1:=HN.out.2.1
    exact (costQ_sz h (HZ.out.sz (by decide))).mono (by omega))
   have HIz:=bH (fun W (hW:XF wo W)=>show Calls Tryz.prog 16 #[(.agg #[.slice vo vn vc,.slice ro rn rc]),.slice ao vn ac] W (BoolPost W true) from HMX.out.1 ▸ Inside_any W (.agg #[.slice vo vn vc,.slice ro rn rc]) (.slice ao vn ac) p (mixX p A (valL x) (valL y)) 20 (HB.out.1.keep (HXo.out.trans hW)) (HZ.out.keep hW) (by decide) (by decide))
   have HVz:=bH (fun W (hW:XF wo W)=>show Calls Tryz.prog 17 #[(.agg #[.slice vo vn vc,.slice ro rn rc]),.slice ao vn ac] W (fun r w'=>∃ ao c,r=.returned (.slice ao 0 c)/\XF W w') from (Violated_any W (.agg #[.slice vo vn vc,.slice ro rn rc]) (.slice ao vn ac) p (mixX p A (valL x) (valL y)) 20 12 (HB.out.1.keep (HXo.out.trans hW)) (HZ.out.keep hW) (by decide) HN.out.1 (by decide) (by have:=HN.out.2.2.1; omega)).mono (fun r w' hh=>by obtain ⟨v,rfl,hn,hx⟩:=hh; obtain ⟨ao,c,rfl⟩:=hn.shape; exact ⟨ao,c,by rw [HMX.out.2.1]; rfl,hx⟩))
   have HCz:=bH (fun W (hW:XF wo W)=>Cost_any W (.agg #[.slice vo vn vc,.slice ro rn rc]) (.slice ao vn ac) p (mixX p A (valL x) (valL y)) 20 (HB.out.1.keep (HXo.out.trans hW)) (HZ.out.keep hW) (by decide) (by have:=HN.out.2.1; omega))
   have HCx:=bH (fun W (hW:XF wo W)=>Cost_any W (.agg #[.slice vo vn vc,.slice ro rn rc]) (.slice xo xn xc) p (valL x) 4 (HB.out.1.keep (HXo.out.trans hW)) (HRx.out W (HXo.out.trans hW)) (by decide) (by have:=HN.out.2.1; omega))
   have HCy:=bH (fun W (hW:XF wo W)=>Cost_any W (.agg #[.slice vo vn vc,.slice ro rn rc]) (.slice yo yn yc) p (valL y) 4 (HB.out.1.keep (HXo.out.trans hW)) (HRy.out W (HXo.out.trans hW)) (by decide) (by have:=HN.out.2.1; omega))
   have HCm:=bH (fun W u v (hW:XF wo W) (hu:IsRat W u (costQ p (mixX p A (valL x) (valL y)))) (hv:IsRat W v (A*costQ p (valL x)+(1 - A)*costQ p (valL y)))=>show Calls Tryz.prog 25 #[u,v] W (fun r w'=>r=.returned (.int .i64 0)/\XF W w') from by
    rw [<- HMX.out.2.2] at hv
    have h:=Rrcmp_any W u v _ _ 1000 (hu.reads HCS.out) (hv.reads HCS.out) (by decide) (by decide)
    rw [show costQ p (mixX p A (valL x) (valL y)) - costQ p (mixX p A (valL x) (valL y))=0 by grind] at h
    exact h)
   have p0:=cqo (S:=fun _=>False) (cellq (blk_keep HB.out.2.1 HXo.out) 0 rfl) id
   have p1:=cqo (S:=fun _=>False) (cellq (blk_keep HB.out.2.1 HXo.out) 1 rfl) id
   go_upto_region 14 with fail
   refine wp_region_held_drew (S:=(XF wo)) (by kernel_rfl) ((Ext.refl _ wo).drew) (fun hHeld=>?_)
   refine ht 0 (h:=(ht 1 (h:=?_)))
   (try go_frame)
   refine hst 2 (h:=fun K hK=>?_)
   (go_simp; go_at_call 16; (with_reducible refine (HIz.out _ hHeld).mono ?_); rintro q21 w21 ⟨rfl,hx21⟩; have hX21:=hHeld.trans hx21)
   refine hK.out _ _ (hX21) (fun hHeld=>?_)
   clear hK K
   (try go_frame)
   refine ht 3 (h:=?_)
   (try go_frame)
   refine ht 4 (h:=?_)
   (try go_frame)
   refine ht 5 (h:=?_)
   (try go_frame)
   refine hst 6 (h:=fun K hK=>?_)
   (go_simp; go_at_call 17; (with_reducible refine (HVz.out _ hX21).mono ?_); rintro q22 w22 ⟨vo22,vc22,rfl,hx22⟩; have hX22:=hX21.trans hx22)
   refine hK.out _ _ (hX22) (fun hHeld=>?_)
   clear hK K
   (try go_frame)
   refine ht 7 (h:=?_)
   (try go_frame)
   refine ht 8 (h:=(ht 9 (h:=(ht 10 (h:=?_)))))
   (try go_frame)
   refine ht 11 (h:=?_)
   (try go_frame)
   refine ht 12 (h:=?_)
   (try go_frame)
   refine ht 14 (h:=?_)
   (try go_frame)
   refine ht 15 (h:=?_)
   (try go_frame)
   refine ht 16 (h:=?_)
   (try go_frame)
   refine ht 18 (h:=?_)
   (try go_frame)
   refine ht 19 (h:=?_)
   (try go_frame)
   refine hst 13 (h:=fun K hK=>?_)
   (go_simp; go_at_call 26; (with_reducible refine (HCz.out _ hX22).mono ?_); rintro q23 w23 ⟨v23,rfl,h23,hx23⟩; have hX23:=hX22.trans hx23; obtain ⟨n23,a23,l23,d23,a23',l23',d23',rfl⟩:=h23.shape)
   refine hK.out _ _ (hX23) (fun hHeld=>?_)
   clear hK K
   (try go_frame)
   refine hst 17 (h:=fun K hK=>?_)
   (go_simp; go_at_call 26; (with_reducible refine (HCx.out _ hX23).mono ?_); rintro q24 w24 ⟨v24,rfl,h24,hx24⟩; have hX24:=hX23.trans hx24; obtain ⟨n24,a24,l24,d24,a24',l24',d24',rfl⟩:=h24.shape)
   refine hK.out _ _ (hX24) (fun hHeld=>?_)
   clear hK K
   (try go_frame)
   refine hst 20 (h:=fun K hK=>?_)
   (go_simp; go_at_call 26; (with_reducible refine (HCy.out _ hX24).mono ?_); rintro q25 w25 ⟨v25,rfl,h25,hx25⟩; have hX25:=hX24.trans hx25; obtain ⟨n25,a25,l25,d25,a25',l25',d25',rfl⟩:=h25.shape)
   refine hK.out _ _ (hX25) (fun hHeld=>?_)
   clear hK K
   (try go_frame)
   refine hst 21 (h:=fun K hK=>?_)
   (go_simp; go_at_call 21; (with_reducible refine (HMz.out _ _ _ _ _ _ _ _ _ _ _ _ _ _ _ hX25 (h24.keep hx25) h25).mono ?_); rintro q26 w26 ⟨v26,rfl,h26,hx26⟩; have hX26:=hX25.trans hx26; obtain ⟨n26,a26,l26,d26,a26',l26',d26',rfl⟩:=h26.shape)
   refine hK.out _ _ (hX26) (fun hHeld=>?_)
   clear hK K
   (try go_frame)
   refine hst 22 (h:=fun K hK=>?_)
   (go_simp; go_at_call 25; (with_reducible refine (HCm.out _ _ _ hX26 (h23.keep ((hx24.trans hx25).trans hx26)) h26).mono ?_); rintro q27 w27 ⟨rfl,hx27⟩; have hX27:=hX26.trans hx27)
   refine hK.out _ _ (hX27) (fun hHeld=>?_)
   clear hK K
   (try go_frame)
   refine ht 23 (h:=(ht 24 (h:=(ht 25 (h:=?_)))))
   (try go_frame)
   refine wpAnyH_done (by kernel_rfl) ?_ _
   go_wp2
   go_ret
   exact ⟨rfl,(HB.out.2.2.trans HXo.out).trans hX27⟩
open Go.ChangeShapes Go.WideShapes Go.ChangeAt Go.RowKit Go.Deep
set_option linter.unusedVariables false
theorem own:ownKnob Tryz.prog.godebug=none:=by kernel_rfl
theorem laidOut:laidOutB Tryz.prog=true:=by kernel_rfl
section
variable {H:Type} {enc:TypeId × Value->H} {w:World} {base:Nat} {spare:Nat->Bool} {held:Bool}
theorem struct_field {P:Program} {t:TypeId} {fs:Array Field} {fuel:Nat} {cs:List Value} {x:DataW H × List MemPlace} (ht:P.underlying t=some (.struct fs)) (h:DataW.trod enc P w base spare held fuel t cs=some x)
  (i:Nat) {f:Field} (hi:fs[i]?=some f) {ty off n:Nat} (h1:f.type=ty) (h2:f.offset=off) (h3:P.cellsOf ty=n):∃ m y,DataW.trod enc P w base spare held m ty ((cs.drop off).take n)=some y:=by
 obtain ⟨xs,m,_,_,hl,hxl,hf⟩:=DataW.trod_struct ht h
 subst h1 h2 h3
 have hlt:i<xs.length:=by rw [hxl]; exact (Array.getElem?_eq_some_iff.1 hi).1
 exact ⟨m,_,(hf i f hi).trans (List.getElem?_eq_getElem hlt)⟩
theorem struct_length {P:Program} {t:TypeId} {fs:Array Field} {fuel:Nat} {cs:List Value} {x:DataW H × List MemPlace} (ht:P.underlying t=some (.struct fs)) (h:DataW.trod enc P w base spare held fuel t cs=some x) {n:Nat} (h3:P.cellsOf t=n):cs.length=n:=by
 obtain ⟨xs,m,_,_,hl,hxl,hf⟩:=DataW.trod_struct ht h
 rw [hl,h3]
theorem list_of {α:Type} {R:List Value->α->Prop}:∀ {css:List (List Value)},(∀ c ∈ css,∃ x,R c x)->∃ l:List α,l.length=css.length/\∀ (i:Nat) c x,css[i]?=some c->l[i]?=some x->R c x
 | [],_=>⟨[],rfl,fun i c x h=>by simp at h⟩
 | c :: css,h=>by
  obtain ⟨x,hx⟩:=h c (by simp)
  obtain ⟨l,h1,h2⟩:=list_of (css:=css) (fun c hc=>h c (by simp [hc]))
  refine ⟨x :: l,by simp [h1],fun i c' x' hc hx'=>?_⟩
  cases i with
  | zero=>simp at hc hx'; subst hc hx'; exact hx
  | succ i=>simp at hc hx'; exact h2 i c' x' hc hx'
theorem map_of {α:Type} {f:α->List Value} {Q:α->Prop} {css:List (List Value)} (h:∀ c ∈ css,∃ x,c=f x/\Q x):∃ l:List α,css=l.map f/\∀ x ∈ l,Q x:=by
 obtain ⟨l,h1,h2⟩:=list_of (R:=fun c x=>c=f x/\Q x) h
 refine ⟨l,List.ext_getElem? fun i=>?_,fun x hx=>?_⟩
 ·rw [List.getElem?_map]
  by_cases hi:i<l.length
  ·rw [List.getElem?_eq_getElem hi,List.getElem?_eq_getElem (by omega:i<css.length)]
   simp only [Option.map_some]
   exact congrArg some (h2 i _ _ (List.getElem?_eq_getElem (by omega)) (List.getElem?_eq_getElem hi)).1
  ·rw [List.getElem?_eq_none (by omega),List.getElem?_eq_none (by omega)]; rfl
 ·obtain ⟨i,hi,rfl⟩:=List.getElem_of_mem hx
  exact (h2 i _ _ (List.getElem?_eq_getElem (by omega)) (List.getElem?_eq_getElem hi)).2
theorem open_sl {t e:TypeId} {m:Nat} {fuel:Nat} {cs:List Value} {x:DataW H × List MemPlace} (ht:Tryz.prog.underlying t=some (.slice e)) (hc:Tryz.prog.cellsOf e=m) (hm:0<m) {R:List Value->Prop}
  (he:∀ fuel cs x,DataW.trod enc Tryz.prog w base spare held fuel e cs=some x->R cs) (h:DataW.trod enc Tryz.prog w base spare held fuel t cs=some x) :
  ∃ v css,cs=[v]/\Sl w v m css/\∀ c ∈ css,R c:=by
 rcases open_slice ht h with ⟨hcs,_⟩ | ⟨a,l,c,k,n',D,Pl,hcs,_,hlc,hcm,hk,_,hel⟩
 ·exact ⟨_,[],hcs,Sl.nil w m,by simp⟩
 ·have hlk:l<=k:=by rw [hk]; split <;> omega
  have hel':∀ i,i<l->∃ c':List Value,c'.length=m/\R c'/\∀ j u,c'[j]?=some u->w.cell? ((a.add (i*m)).add j)=some u:=fun i hi=>by
   obtain ⟨cs',h1,h2⟩:=hel i (by omega)
   rw [hc] at h1
   obtain ⟨_,hlen,hat⟩:=World.cells?_some h1
   exact ⟨cs',hlen,he _ _ _ h2,fun j u hu=>(hat j (by have:=(List.getElem?_eq_some_iff.1 hu).1; omega)).trans hu⟩
  obtain ⟨css,h1,h2⟩:∃ css:List (List Value),css.length=l/\∀ i (h:i<css.length),css[i].length=m/\R css[i]/\∀ j u,css[i][j]?=some u->w.cell? ((a.add (i*m)).add j)=some u:=by
   refine ⟨List.ofFn fun i:Fin l=>Classical.choose (hel' i i.2),by simp,fun i hi=>?_⟩
   simp at hi
   have:=Classical.choose_spec (hel' i hi)
   simpa using this
  subst h1
  refine ⟨_,css,hcs,⟨some a,c,rfl,hlc,hcm,(fun e=>by cases e),fun hp=>?_⟩,fun c' hc'=>?_⟩
  ·obtain ⟨b,off,spot⟩:=a
   obtain ⟨e1,_,e3⟩:=h2 0 hp
   have e4:=e3 0 _ (List.getElem?_eq_getElem (by omega))
   have hspot:spot=none:=by simpa [Addr.add] using World.cell?_spot e4
   subst hspot
   refine ⟨b,off,rfl,by have:=World.block_lt_of_cell? w _ e4; simpa [Addr.add_lit] using this,fun i r hi j u hu=>?_⟩
   obtain ⟨hi',rfl⟩:=List.getElem?_eq_some_iff.1 hi
   have:=(h2 i hi').2.2 j u hu
   simpa [Addr.add_lit,Nat.add_assoc] using this
  ·obtain ⟨i,hi,rfl⟩:=List.getElem_of_mem hc'
   exact (h2 i hi).2.1
theorem cellsInt:Tryz.prog.cellsOf 3=1:=by kernel_rfl
theorem cellsI64:Tryz.prog.cellsOf 2=1:=by kernel_rfl
theorem cellsU32:Tryz.prog.cellsOf 121=1:=by kernel_rfl
theorem cellsBool:Tryz.prog.cellsOf 4=1:=by kernel_rfl
theorem cellsStr:Tryz.prog.cellsOf 9=1:=by kernel_rfl
theorem cellsNat:Tryz.prog.cellsOf 38=1:=by kernel_rfl
theorem cellsInt2:Tryz.prog.cellsOf 40=2:=by kernel_rfl
theorem cellsRat:Tryz.prog.cellsOf 42=3:=by kernel_rfl
theorem cellsTerm:Tryz.prog.cellsOf 99=2:=by kernel_rfl
theorem cellsTerms:Tryz.prog.cellsOf 73=1:=by kernel_rfl
theorem cellsVar:Tryz.prog.cellsOf 57=5:=by kernel_rfl
theorem cellsVars:Tryz.prog.cellsOf 22=1:=by kernel_rfl
theorem cellsRow:Tryz.prog.cellsOf 75=5:=by kernel_rfl
theorem cellsRows:Tryz.prog.cellsOf 23=1:=by kernel_rfl
theorem cellsProgram:Tryz.prog.cellsOf 25=2:=by kernel_rfl
theorem open_digit {fuel:Nat} {cs:List Value} {x:DataW H × List MemPlace} (h:DataW.trod enc Tryz.prog w base spare held fuel 121 cs=some x):∃ d:Nat,cs=[dv d]/\d<4294967296:=by
 obtain ⟨a0,h0,_,b0⟩:=DataW.trod_int Tryz.underlying121 h
 simp [Lit.wf,IntKind.min,IntKind.max,IntKind.signed,IntKind.bits] at b0
 refine ⟨a0.toNat,?_,by omega⟩
 rw [h0]
 show [Value.int .u32 a0]=[Value.int .u32 (a0.toNat:Int)]
 rw [Int.toNat_of_nonneg (by omega)]
theorem open_nat {fuel:Nat} {cs:List Value} {x:DataW H × List MemPlace} (h:DataW.trod enc Tryz.prog w base spare held fuel 38 cs=some x):∃ v l,cs=[v]/\Rds w v l:=by
 obtain ⟨v,css,rfl,hs,hc⟩:=open_sl Tryz.underlying38 cellsU32 (by decide) (fun _ _ _ h=>open_digit h) h
 obtain ⟨l,rfl,hl⟩:=map_of (f:=fun d=>[dv d]) (Q:=fun d=>d<4294967296) hc
 obtain ⟨ao,c,rfl,h1,h2,h3,h4⟩:=hs
 rw [List.length_map] at h1 h4 ⊢
 refine ⟨_,l,rfl,hl,ao,c,rfl,h1,h2,h3,fun hp=>?_⟩
 obtain ⟨b,off,e,hb,hcell⟩:=h4 hp
 refine ⟨b,off,e,hb,fun i d hi=>?_⟩
 have:=hcell i [dv d] (by rw [List.getElem?_map,hi]; rfl) 0 (dv d) rfl
 simpa using this
theorem open_rat {fuel:Nat} {cs:List Value} {x:DataW H × List MemPlace} (h:DataW.trod enc Tryz.prog w base spare held fuel 42 cs=some x):∃ r:RatV,IsRaw w (.agg cs.toArray) r:=by
 have hl:=struct_length Tryz.underlying42 h cellsRat
 obtain ⟨_,_,f0⟩:=struct_field Tryz.underlying42 h 0 rfl rfl rfl cellsInt2
 obtain ⟨_,_,f1⟩:=struct_field Tryz.underlying42 h 1 rfl rfl rfl cellsNat
 obtain ⟨_,_,g0⟩:=struct_field Tryz.underlying40 f0 0 rfl rfl rfl cellsBool
 obtain ⟨_,_,g1⟩:=struct_field Tryz.underlying40 f0 1 rfl rfl rfl cellsNat
 clear h f0
 obtain ⟨ng,hn,_⟩:=DataW.trod_bool Tryz.underlying4 g0
 obtain ⟨v1,l1,e1,k1⟩:=open_nat g1
 obtain ⟨v2,l2,e2,k2⟩:=open_nat f1
 clear g0 g1 f1
 match cs,hl with
 | [c0,c1,c2],_ =>
  simp at hn e1 e2
  subst hn e1 e2
  exact ⟨⟨ng,l1,l2⟩,_,_,rfl,k1,k2⟩
theorem open_rats {fuel:Nat} {cs:List Value} {x:DataW H × List MemPlace} (h:DataW.trod enc Tryz.prog w base spare held fuel 32 cs=some x):∃ v rs,cs=[v]/\Raws w v rs:=by
 obtain ⟨v,css,rfl,hs,hc⟩:=open_sl Tryz.underlying32 cellsRat (by decide) (fun _ _ _ h=>open_rat h) h
 obtain ⟨l,h1,h2⟩:=list_of (R:=fun c r=>IsRaw w (.agg c.toArray) r) hc
 exact ⟨v,l,rfl,css,h1.symm,hs,h2⟩
theorem inR_of {k:IntKind} {a:Int} (hk:k=.i64) (h:(Lit.int k a).wf=true):InR a:=by
 subst hk
 simp [Lit.wf,IntKind.min,IntKind.max,IntKind.signed,IntKind.bits] at h
 unfold InR
 omega
theorem open_var {fuel:Nat} {cs:List Value} {x:DataW H × List MemPlace} (h:DataW.trod enc Tryz.prog w base spare held fuel 57 cs=some x):∃ v:VarV,cs=cV v/\VarOk v:=by
 have hl:=struct_length Tryz.underlying57 h cellsVar
 obtain ⟨_,_,f0⟩:=struct_field Tryz.underlying57 h 0 rfl rfl rfl cellsI64
 obtain ⟨_,_,f1⟩:=struct_field Tryz.underlying57 h 1 rfl rfl rfl cellsI64
 obtain ⟨_,_,f2⟩:=struct_field Tryz.underlying57 h 2 rfl rfl rfl cellsBool
 obtain ⟨_,_,f3⟩:=struct_field Tryz.underlying57 h 3 rfl rfl rfl cellsBool
 obtain ⟨_,_,f4⟩:=struct_field Tryz.underlying57 h 4 rfl rfl rfl cellsI64
 clear h
 obtain ⟨a0,h0,_,b0⟩:=DataW.trod_int Tryz.underlying2 f0
 obtain ⟨a1,h1,_,b1⟩:=DataW.trod_int Tryz.underlying2 f1
 obtain ⟨a2,h2,_⟩:=DataW.trod_bool Tryz.underlying4 f2
 obtain ⟨a3,h3,_⟩:=DataW.trod_bool Tryz.underlying4 f3
 obtain ⟨a4,h4,_,b4⟩:=DataW.trod_int Tryz.underlying2 f4
 clear f0 f1 f2 f3 f4
 match cs,hl with
 | [c0,c1,c2,c3,c4],_ =>
  simp at h0 h1 h2 h3 h4
  exact ⟨⟨a0,a1,a2,a3,a4⟩,by rw [h0,h1,h2,h3,h4]; rfl,inR_of rfl b0,inR_of rfl b1,inR_of rfl b4⟩
theorem open_term {fuel:Nat} {cs:List Value} {x:DataW H × List MemPlace} (h:DataW.trod enc Tryz.prog w base spare held fuel 99 cs=some x):∃ t:TermV,cs=cT t/\TermOk t:=by
 have hl:=struct_length Tryz.underlying99 h cellsTerm
 obtain ⟨_,_,f0⟩:=struct_field Tryz.underlying99 h 0 rfl rfl rfl cellsInt
 obtain ⟨_,_,f1⟩:=struct_field Tryz.underlying99 h 1 rfl rfl rfl cellsI64
 clear h
 obtain ⟨a0,h0,_,b0⟩:=DataW.trod_int Tryz.underlying3 f0
 obtain ⟨a1,h1,_,b1⟩:=DataW.trod_int Tryz.underlying2 f1
 clear f0 f1
 match cs,hl with
 | [c0,c1],_ =>
  simp at h0 h1
  exact ⟨⟨a0,a1⟩,by rw [h0,h1]; rfl,inR_of rfl b0,inR_of rfl b1⟩
theorem open_terms {fuel:Nat} {cs:List Value} {x:DataW H × List MemPlace} (h:DataW.trod enc Tryz.prog w base spare held fuel 73 cs=some x):∃ v l,cs=[v]/\Tms w v l:=by
 obtain ⟨v,css,rfl,hs,hc⟩:=open_sl Tryz.underlying73 cellsTerm (by decide) (fun _ _ _ h=>open_term h) h
 obtain ⟨l,rfl,hl⟩:=map_of hc
 exact ⟨v,l,rfl,hs,hl⟩
theorem open_row {fuel:Nat} {cs:List Value} {x:DataW H × List MemPlace} (h:DataW.trod enc Tryz.prog w base spare held fuel 75 cs=some x):∃ y:RowV × Value,cs=cR y.1 y.2/\Tms w y.2 y.1.terms/\RowOk y.1:=by
 have hl:=struct_length Tryz.underlying75 h cellsRow
 obtain ⟨_,_,f0⟩:=struct_field Tryz.underlying75 h 0 rfl rfl rfl cellsStr
 obtain ⟨_,_,f1⟩:=struct_field Tryz.underlying75 h 1 rfl rfl rfl cellsInt
 obtain ⟨_,_,f2⟩:=struct_field Tryz.underlying75 h 2 rfl rfl rfl cellsInt
 obtain ⟨_,_,f3⟩:=struct_field Tryz.underlying75 h 3 rfl rfl rfl cellsTerms
 obtain ⟨_,_,f4⟩:=struct_field Tryz.underlying75 h 4 rfl rfl rfl cellsI64
 clear h
 obtain ⟨a0,h0,_,b0⟩:=DataW.trod_string Tryz.underlying9 f0
 obtain ⟨a1,h1,_,b1⟩:=DataW.trod_int Tryz.underlying3 f1
 obtain ⟨a2,h2,_,b2⟩:=DataW.trod_int Tryz.underlying3 f2
 obtain ⟨v3,l3,h3,b3⟩:=open_terms f3
 obtain ⟨a4,h4,_,b4⟩:=DataW.trod_int Tryz.underlying2 f4
 clear f0 f1 f2 f3 f4
 match cs,hl with
 | [c0,c1,c2,c3,c4],_ =>
  simp at h0 h1 h2 h3 h4
  exact ⟨⟨⟨a0,a1,a2,l3,a4⟩,v3⟩,by rw [h0,h1,h2,h3,h4]; rfl,b3,b0,inR_of rfl b1,inR_of rfl b2,inR_of rfl b4⟩
theorem open_prog {fuel:Nat} {cs:List Value} {x:DataW H × List MemPlace} (h:DataW.trod enc Tryz.prog w base spare held fuel 25 cs=some x):∃ p:ProgV,IsPrg w (.agg cs.toArray) p:=by
 have hl:=struct_length Tryz.underlying25 h cellsProgram
 obtain ⟨_,_,f0⟩:=struct_field Tryz.underlying25 h 0 rfl rfl rfl cellsVars
 obtain ⟨_,_,f1⟩:=struct_field Tryz.underlying25 h 1 rfl rfl rfl cellsRows
 clear h
 obtain ⟨v0,c0,e0,s0,k0⟩:=open_sl Tryz.underlying22 cellsVar (by decide) (fun _ _ _ h=>open_var h) f0
 obtain ⟨v1,c1,e1,s1,k1⟩:=open_sl Tryz.underlying23 cellsRow (by decide) (fun _ _ _ h=>open_row h) f1
 clear f0 f1
 obtain ⟨l0,rfl,g0⟩:=map_of k0
 obtain ⟨l1,n1,g1⟩:=list_of (R:=fun c (y:RowV × Value)=>c=cR y.1 y.2/\Tms w y.2 y.1.terms/\RowOk y.1) k1
 have hz:c1=List.zipWith cR (l1.map (·.1)) (l1.map (·.2)):=by
  apply List.ext_getElem?
  intro i
  rw [List.getElem?_zipWith,List.getElem?_map,List.getElem?_map]
  by_cases hi:i<l1.length
  ·rw [List.getElem?_eq_getElem hi,List.getElem?_eq_getElem (by omega:i<c1.length)]
   simp only [Option.map_some]
   exact congrArg some (g1 i _ _ (List.getElem?_eq_getElem (by omega)) (List.getElem?_eq_getElem hi)).1
  ·rw [List.getElem?_eq_none (by omega),List.getElem?_eq_none (by omega)]; rfl
 rw [hz] at s1
 match cs,hl with
 | [d0,d1],_ =>
  simp at e0 e1
  subst e0 e1
  refine ⟨⟨l0,l1.map (·.1)⟩,_,_,rfl,⟨s0,g0⟩,l1.map (·.2),by simp,s1,fun i r tv hr ht=>?_⟩
  rw [List.getElem?_map] at hr ht
  obtain ⟨y,hy,rfl⟩:=Option.map_eq_some_iff.1 hr
  rw [hy] at ht
  cases ht
  have hi:=(List.getElem?_eq_some_iff.1 hy).1
  exact (g1 i _ _ (List.getElem?_eq_getElem (by omega)) hy).2
end
open Go.Joins in
theorem open_prog_value {H:Type} {enc:TypeId × Value->H} {w:World} {base:Nat} {spare:Nat->Bool} {held:Bool} {r:Reach} {b0:Nat} {v:Value} {d:DataW H} {p:List MemPlace} (hv:Value.okWide Tryz.prog w r b0 25 v) (h:DataW.Trod enc Tryz.prog w base spare held 25 v d p) :
  ∃ y:ProgV,IsPrg w v y:=by
 obtain ⟨cs,rfl,hsz⟩:=okWide_struct Tryz.underlying25 hv
 obtain ⟨fuel,hf⟩:=h
 obtain ⟨y,hy⟩:=open_prog hf
 refine ⟨y,?_⟩
 simpa [Value.cells] using hy
theorem open_rats_value {H:Type} {enc:TypeId × Value->H} {w:World} {base:Nat} {spare:Nat->Bool} {held:Bool} {r:Reach} {b0:Nat} {v:Value} {d:DataW H} {p:List MemPlace} (hv:Value.okWide Tryz.prog w r b0 32 v) (h:DataW.Trod enc Tryz.prog w base spare held 32 v d p) :
  ∃ rs:List RatV,Raws w v rs:=by
 obtain ⟨a0,len0,cap0,rfl⟩:=okWide_slice Tryz.underlying32 hv
 obtain ⟨fuel,hf⟩:=h
 obtain ⟨v,rs,e,hr⟩:=open_rats hf
 simp [Value.cells] at e
 subst e
 exact ⟨rs,hr⟩
open Go.ChangeShapes Go.WideShapes Go.ChangeAt Go.RowKit Go.Deep
def laid3:List (String × DataW Unit):=[("math/bits.deBruijn32tab", Rows.laid_math_bits_deBruijn32tab),("math/bits.deBruijn64tab", Rows.laid_math_bits_deBruijn64tab),("internal/strconv.uint64pow10", Rows.laid_internal_strconv_uint64pow10)]
theorem pow10_data:(Rows.laid_internal_strconv_uint64pow10:DataW Unit)=Lib.tabData .u64 Lib.pow10Tab:=by kernel_rfl
theorem tab_laid {W:World} (h:laidMetH Tryz.prog laid3 W):Tab10 W:=by
 rw [MakeChecks.laidMetH_plain _ _ _ (by kernel_rfl)] at h
 unfold laid3 at h
 rw [pow10_data] at h
 exact Lib.tabIs_of_head (g:=0) (t:=178) (e:=116) (n:=20) (by kernel_rfl) (by kernel_rfl) Tryz.underlying178 Tryz.underlying116 (by kernel_rfl) (by kernel_rfl) (laidMet.tail (laidMet.tail h))
theorem door_met (os:Os) (args:Array Value):laidMetH Tryz.prog laid3 ((World.doorLaid Tryz.prog 24 os).forCall (fun _ _=>0) ⟨#[],args,[]⟩).memory :=
 laidMetH_of_parts3 (fuel:=8) (laidMet_of_run' 8 (by kernel_rfl) (by kernel_rfl)) (by kernel_rfl) (by kernel_rfl)
end Go.Proofs.YtglepbhkilbbcaaGreatDoor
