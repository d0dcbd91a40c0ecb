/-
  Texts of the proof, part 1. Conditions: each lemma names its own.
-/
import Derived.Test.YtjaldknfeojjkaaGreatZ10
import Derived.Maps.RangeWalk
set_option linter.unusedVariables false
set_option linter.unusedSimpArgs false
set_option maxRecDepth 100000
set_option maxHeartbeats 16000000
namespace Go.Proofs.YtjaldknfeojjkaaGreat
open Go.RowKit Go.MapKept
open Go.ChangeMaps (setBlock)
theorem breaks_not {p:ProgV} {c:CutV} {x:List Rat} (hv:validB p=true) (h:breaksP p c x=true):(deriveP p c).2=0/\holdsB (deriveP p c).1 (clipQ p x)=false:=by
 unfold breaksP at h
 simp only [Bool.and_eq_true,decide_eq_true_eq,Bool.or_eq_true] at h
 have hd:deriveP p c=dervP p c:=by unfold deriveP; rw [if_pos hv]
 rw [hd]
 refine ⟨h.1,?_⟩
 have hr:rowB p.vars.length (dervP p c).1=true:=derive_row (p:=p) (c:=c) (r:=(dervP p c).1) (by rw [hd,<- h.1])
 unfold holdsB kindB
 rw [dot_clip x (fun k hk=>row_terms hr k hk)]
 rcases h.2 with ⟨hk,h2⟩ | ⟨hk,h2⟩
 ·have h3:=(sign_lt _).1 h2
  rw [hk]
  simp
  grind
 ·have h3:=(sign_gt _).1 h2
  rw [hk]
  simp
  grind
theorem violated_core (w:World) (pv xv:Value) (p:ProgV) (x:List RatV) (hp:IsPrg w pv p) (hx:Raws w xv x):Calls Tryz.prog 7 #[pv,xv] w (BoolPost w true):=by
 obtain ⟨vo,vn,vc,ro,rn,rc,rfl⟩:=hp.slicesP
 have HLn:=bH (show p.vars.length=vn/\p.rows.length=rn from by
  obtain ⟨vv,rv,e,h,h2⟩:=hp
  cases e
  obtain ⟨_,_,e,_⟩:=h.shape
  obtain ⟨_,_,e2,_⟩:=h2.shape
  cases e; cases e2
  exact ⟨rfl,rfl⟩)
 obtain ⟨xo,xc,rfl,-⟩:=hx.shape
 have hxp:=(Ext.refl (fun _=>False) w).alloc (.cells #[.slice vo vn vc,.slice ro rn rc] 25)
 have hxa:=hxp
 have HB:=bH (bI (hp.keep hxa) (bI (blk_alloc_at w (.cells #[.slice vo vn vc,.slice ro rn rc] 25)) (bI hxa trivial)))
 have HXx:=bH (fun W (hW:XF (w.alloc (.cells #[.slice vo vn vc,.slice ro rn rc] 25)) W)=>hx.keep (hxa.trans hW))
 clear hp hxa hxp hx
 obtain ⟨xn,hxn⟩:∃ n,x.length=n:=⟨_,rfl⟩
 rw [hxn] at HXx ⊢
 clear hxn
 go_enter Tryz.func7,Tryz.ntmps7
 go_upto_region 1 with fail
 generalize w.alloc (.cells #[.slice vo vn vc,.slice ro rn rc] 25)=w1 at *
 obtain ⟨pb,hpb⟩:∃ q,w.heap.size=q:=⟨_,rfl⟩
 rw [hpb] at HB ⊢
 have HPb:=bH (Nat.le_of_eq hpb)
 clear hpb
 have p0:w1.cell? ⟨pb,0,none⟩=some (.slice vo vn vc):=cellq HB.out.2.1 0 rfl
 have p1:w1.cell? ⟨pb,1,none⟩=some (.slice ro rn rc):=cellq HB.out.2.1 1 rfl
 have HC0:=bH (fun W (hW:XF w1 W)=>show Calls Tryz.prog 10 #[(.agg #[.slice vo vn vc,.slice ro rn rc]),.int .i64 6,.int .i64 8] W (BoolPost W (fewP p 6 8)) from FewP_any W (.agg #[.slice vo vn vc,.slice ro rn rc]) p 6 8 (by decide) (by decide) (HB.out.1.keep hW))
 obtain ⟨b0,hb0⟩:∃ b,fewP p 6 8=b:=⟨_,rfl⟩
 rw [hb0] at HC0
 have HG0:=bH hb0
 clear hb0
 cases b0 with
 | false =>
  go_upto_region 2 with (first | (go_at_call 9; (with_reducible refine (awake7_any _).mono ?_); rintro q2 w2 ⟨rfl,hx2⟩; replace p0:=cell_keep p0 hx2; replace p1:=cell_keep p1 hx2) | (go_at_call 10; (with_reducible refine (HC0.out _ (hx2)).mono ?_); rintro q3 w3 ⟨rfl,hx3⟩; replace p0:=cell_keep p0 hx3; replace p1:=cell_keep p1 hx3))
  go_wp2_with (go_at_call 9; refine (awake7_any _).mono ?_; rintro r8 w8 ⟨rfl,hx8⟩)
  go_ret
  exact ⟨rfl,(HB.out.2.2.1.trans (hx2.trans hx3)).trans hx8⟩
 | true =>
 have HC1:=bH (fun W (hW:XF w1 W)=>show Calls Tryz.prog 17 #[.slice xo xn xc,.int .i64 8] W (BoolPost W (shortB x 8)) from Short_any W (.slice xo xn xc) x 8 (by decide) (HXx.out W hW))
 obtain ⟨b1,hb1⟩:∃ b,shortB x 8=b:=⟨_,rfl⟩
 rw [hb1] at HC1
 have HG1:=bH hb1
 clear hb1
 cases b1 with
 | false =>
  go_upto_region 2 with (first | (go_at_call 9; (with_reducible refine (awake7_any _).mono ?_); rintro q2 w2 ⟨rfl,hx2⟩; replace p0:=cell_keep p0 hx2; replace p1:=cell_keep p1 hx2) | (go_at_call 10; (with_reducible refine (HC0.out _ (hx2)).mono ?_); rintro q3 w3 ⟨rfl,hx3⟩; replace p0:=cell_keep p0 hx3; replace p1:=cell_keep p1 hx3) | (go_at_call 17; (with_reducible refine (HC1.out _ (hx2.trans hx3)).mono ?_); rintro q4 w4 ⟨rfl,hx4⟩; replace p0:=cell_keep p0 hx4; replace p1:=cell_keep p1 hx4))
  go_wp2_with (go_at_call 9; refine (awake7_any _).mono ?_; rintro r8 w8 ⟨rfl,hx8⟩)
  go_ret
  exact ⟨rfl,(HB.out.2.2.1.trans ((hx2.trans hx3).trans hx4)).trans hx8⟩
 | true =>
 go_upto_region 3 with (first | (go_at_call 9; (with_reducible refine (awake7_any _).mono ?_); rintro q2 w2 ⟨rfl,hx2⟩; replace p0:=cell_keep p0 hx2; replace p1:=cell_keep p1 hx2) | (go_at_call 10; (with_reducible refine (HC0.out _ (hx2)).mono ?_); rintro q3 w3 ⟨rfl,hx3⟩; replace p0:=cell_keep p0 hx3; replace p1:=cell_keep p1 hx3) | (go_at_call 17; (with_reducible refine (HC1.out _ (hx2.trans hx3)).mono ?_); rintro q4 w4 ⟨rfl,hx4⟩; replace p0:=cell_keep p0 hx4; replace p1:=cell_keep p1 hx4))
 have HX:=bH ((hx2.trans hx3).trans hx4)
 clear hx2 hx3 hx4 HC0 HC1
 have HRx:=bH (fun W (hW:XF w1 W)=>show Rats W (.slice xo xn xc) (valL x) 4 from (HXx.out W hW).rats (by
  have:=HG1.out
  unfold shortB at this
  simp only [Bool.and_eq_true] at this
  exact this.2))
 obtain ⟨hT,hn6,hm6⟩:=few_parts7 HG0.out
 have HSp:=bH (fun W (hW:XF w1 W)=>Separate_any W (.agg #[.slice vo vn vc,.slice ro rn rc]) (.slice xo xn xc) p (valL x) 4 (HB.out.1.keep hW) (HRx.out W hW) (by decide) (by decide) hn6 hm6 hT)
 have HIs:=bH (fun W (hW:XF w1 W)=>Inside4_any W (.agg #[.slice vo vn vc,.slice ro rn rc]) (.slice xo xn xc) p (valL x) 4 (HB.out.1.keep hW) (HRx.out W hW) (by decide) (by decide))
 have HIg:=bH (fun W (hW:XF w1 W)=>Integral_any W (.agg #[.slice vo vn vc,.slice ro rn rc]) (.slice xo xn xc) p (valL x) 4 (HB.out.1.keep hW) (HRx.out W hW) (by decide) (by decide))
 obtain ⟨nx,hnx⟩:∃ n,(violQ p (valL x)).length=n:=⟨_,rfl⟩
 have HVi:=bH (fun W (hW:XF w1 W)=>show Calls Tryz.prog 14 #[(.agg #[.slice vo vn vc,.slice ro rn rc]),(.slice xo xn xc)] W (fun r w'=>∃ ao c,r=.returned (.slice ao nx c)/\XF W w') from (Violated4_any W (.agg #[.slice vo vn vc,.slice ro rn rc]) (.slice xo xn xc) p (valL x) 4 12 (HB.out.1.keep hW) (HRx.out W hW) (by decide) hT (by decide) (by omega) (by omega)).mono (fun r w' hh=>by obtain ⟨v,rfl,hn,hx⟩:=hh; obtain ⟨ao,c,rfl⟩:=hn.shape; exact ⟨ao,c,by rw [hnx],hx⟩))
 have HDv:=bH (fun W (q:CutQ) (hW:XF w1 W) (hq:CutAt W q) (hs:CSmall p q.c)=>show Calls Tryz.prog 12 #[(.agg #[.slice vo vn vc,.slice ro rn rc]),.agg #[.int .i64 q.c.kind,.slice q.yo q.yn q.yc,.int .i64 q.c.row,.slice q.so q.sn q.sc]] W (DrvPost W (deriveP p q.c)) from Derive_any W (.agg #[.slice vo vn vc,.slice ro rn rc]) _ p q.c (HB.out.1.keep hW) hq.isCut hs)
 have HHo:=bH (fun W (r:RowV) ta tc (hW:XF w1 W) (hok:RowOk r) (hl:r.terms.length<=1000) (ht:Tms W (.slice ta r.terms.length tc) r.terms)=>show Calls Tryz.prog 15 #[(.agg #[.slice vo vn vc,.slice ro rn rc]),.agg #[.string r.name,.int .i64 r.group,.int .i64 r.kind,.slice ta r.terms.length tc,.int .i64 r.bound],(.slice xo xn xc)] W (BoolPost W (holdsB r (clipQ p (valL x)))) from Holds_any W (.agg #[.slice vo vn vc,.slice ro rn rc]) (.slice xo xn xc) p r (valL x) 4 1000 ta tc (HB.out.1.keep hW) hok ht (HRx.out W hW) (by decide) hl (by decide) (by omega))
 go_upto_region 4 with (go_at_call 23; (with_reducible refine (HSp.out _ HX.out).mono ?_); rintro q6 w6 ⟨ov,qs,rfl,hown,hqs,hinv,-,hx6⟩)
 have hsl:=own_sl (f:=cQ) cQ_len hown
 obtain ⟨oo,oc,rfl,hmx,-,-⟩:=Sl.shape (hsl)
 have hle:=owns_le hown
 have HQ:=bH (bI hsl (bI hqs (fun (h:0<qs.length)=>show validB p=true from by
  cases hb:validB p with
  | true=>rfl
  | false=>rw [hinv hb] at h; cases h)))
 replace HX:=bH (HX.out.trans hx6)
 replace p0:=cell_keep p0 hx6
 replace p1:=cell_keep p1 hx6
 clear hx6 hown hqs hinv hsl HSp
 have HLaw:=bH (fun (h0:0<qs.length) (h1:insideB p (valL x)=true) (h2:integB p (valL x)=true)=>show nx≠0 from fun h3=>by
  obtain ⟨q,hq⟩:=List.exists_mem_of_length_pos h0
  obtain ⟨k1,k2⟩:=breaks_not (HQ.out.2.2 h0) (HQ.out.2.1 q hq).2.1
  have k3:=derive_holds (p:=p) (c:=q.c) (r:=(deriveP p q.c).1) (x:=valL x) (by rw [<- k1]) h1 (List.length_eq_zero_iff.1 (hnx.trans h3)) (integ_IntX h2)
  rw [k2] at k3
  cases k3)
 obtain ⟨n,hn⟩:∃ n,qs.length=n:=⟨_,rfl⟩
 have HN:=bH hn
 rw [List.length_map,hn] at HQ
 rw [List.length_map,hn]
 rw [hn] at HLaw hle
 clear hn hnx hT hm6
 have hmx':n<=9223372036854775807:=Nat.le_trans hle (by unfold maxLen; decide)
 go_wp2_with fail
 go_loopg [28] n (fun gg v28 wr=>∃ i:Nat,i<=n/\gg=n - i/\v28=.int .i64 i/\XF w6 wr)
 case atStart=>exact ⟨0,Nat.zero_le _,rfl,rfl,Ext.refl _ _⟩
 case round =>
  obtain ⟨i,hi,rfl,rfl,hx7⟩:=hrel
  replace p0:=cell_keep p0 hx7
  replace p1:=cell_keep p1 hx7
  by_cases hin:i<n
  ·have i0:(i:Int)<(n:Int):=by omega
   have i1:(0:Int)<=(i:Int):=by omega
   have hil:i<qs.length:=by rw [HN.out]; exact hin
   have hmem:=List.getElem_mem hil
   obtain ⟨hca,hbr,hcs⟩:=HQ.out.2.1 _ hmem
   obtain ⟨hd0,hnh⟩:=breaks_not (HQ.out.2.2 (by omega)) hbr
   obtain ⟨b,off,ho,hlt,hc⟩:=Sl.at (HQ.out.1.keep hx7) (i:=i) (r:=cQ qs[i]) (by rw [List.getElem?_map,List.getElem?_eq_getElem hil]; rfl)
   subst ho
   generalize qs[i]=q at *
   have HCa:=bH (fun W (hW:XF w6 W)=>hca.keep hW)
   have HDq:=bH (fun W (hW:XF w6 W)=>HDv.out W q (HX.out.trans hW) (HCa.out W hW) hcs)
   have HRo:=bH (derv_in hcs hd0)
   clear hmem hca hbr hcs
   obtain ⟨⟨kd,mu,cw,vs⟩,yo,yn,yc,so,sn,sc⟩:=q
   have e0:=hc 0 _ rfl
   rw [Nat.add_zero] at e0
   have e1:=hc 1 _ rfl
   have e2:=hc 2 _ rfl
   have e3:=hc 3 _ rfl
   clear hc hlt
   dsimp only at hd0 hnh HRo HDq HCa
   obtain ⟨⟨⟨nm,gr,kr,ts,br⟩,er⟩,hre⟩:∃ re,deriveP p ⟨kd,mu,cw,vs⟩=re:=⟨_,rfl⟩
   rw [hre] at hd0 hnh HRo HDq
   obtain rfl:er=0:=hd0
   obtain ⟨tn,htn⟩:∃ n,ts.length=n:=⟨_,rfl⟩
   have HDr:=bH (fun W (hW:XF w6 W)=>show Calls Tryz.prog 12 #[(.agg #[.slice vo vn vc,.slice ro rn rc]),.agg #[.int .i64 kd,.slice yo yn yc,.int .i64 cw,.slice so sn sc]] W (DrvAs W nm gr kr ts tn br 0) from (HDq.out W hW).mono (fun _ _ h=>h.as rfl htn))
   have HHr:=bH (fun W ta tc (hW:XF w1 W) (ht:Tms W (.slice ta tn tc) ts)=>show Calls Tryz.prog 15 #[(.agg #[.slice vo vn vc,.slice ro rn rc]),.agg #[.string nm,.int .i64 gr,.int .i64 kr,.slice ta tn tc,.int .i64 br],.slice xo xn xc] W (BoolPost W false) from by
    have h:=HHo.out W ⟨nm,gr,kr,ts,br⟩ ta tc hW HRo.out.1 HRo.out.2 (by rw [htn]; exact ht)
    rw [htn] at h
    rw [<- hnh]; exact h)
   have hxb:=(Ext.refl (fun _=>False) wr).alloc (.cells #[.int .i64 kd,.slice yo yn yc,.int .i64 cw,.slice so sn sc] 29)
   have HW:=bH (bI (blk_alloc_at wr (.cells #[.int .i64 kd,.slice yo yn yc,.int .i64 cw,.slice so sn sc] 29)) (hx7.trans hxb))
   clear hre htn hnh HDq HRo
   go_upto_region 7 with fail
   replace p0:=cell_keep p0 hxb
   replace p1:=cell_keep p1 hxb
   clear e0 e1 e2 e3 hxb
   generalize wr.alloc (.cells #[.int .i64 kd,.slice yo yn yc,.int .i64 cw,.slice so sn sc] 29)=w8 at *
   generalize wr.heap.size=qb at *
   have c0:=cellq HW.out.1 0 rfl
   have c1:=cellq HW.out.1 1 rfl
   have c2:=cellq HW.out.1 2 rfl
   have c3:=cellq HW.out.1 3 rfl
   go_upto_region 8 with (go_at_call 12; (with_reducible refine (HDr.out _ HW.out.2).mono ?_); rintro q9 w9 ⟨ta,tc,rfl,h9,hx9⟩)
   have hxc:=(Ext.refl (fun _=>False) w9).alloc (.cells #[.string nm,.int .i64 gr,.int .i64 kr,.slice ta tn tc,.int .i64 br] 35)
   have HR:=bH (bI (blk_alloc_at w9 (.cells #[.string nm,.int .i64 gr,.int .i64 kr,.slice ta tn tc,.int .i64 br] 35)) (bI (h9.keep hxc) ((HW.out.2.trans hx9).trans hxc)))
   replace p0:=cell_keep p0 (hx9.trans hxc)
   replace p1:=cell_keep p1 (hx9.trans hxc)
   clear c0 c1 c2 c3 h9 hx9 hxc HW HDr hx7
   generalize w9.alloc (.cells #[.string nm,.int .i64 gr,.int .i64 kr,.slice ta tn tc,.int .i64 br] 35)=w10 at *
   generalize w9.heap.size=rb at *
   have r0:=cellq HR.out.1 0 rfl
   have r1:=cellq HR.out.1 1 rfl
   have r2:=cellq HR.out.1 2 rfl
   have r3:=cellq HR.out.1 3 rfl
   have r4:=cellq HR.out.1 4 rfl
   go_wp2_with (go_at_call 15; (with_reducible refine (HHr.out _ _ _ (HX.out.trans HR.out.2.2) HR.out.2.1).mono ?_); rintro q11 w11 ⟨rfl,hx11⟩)
   go_roundg (n - (i+1))
   case measure=>omega
   case rel=>exact ⟨i+1,by omega,rfl,by go_num,HR.out.2.2.trans hx11⟩
  ·obtain rfl:i=n:=by omega
   have i0:¬ (i:Int)<(i:Int):=by omega
   by_cases hz:i=0
   ·subst hz
    go_wp2
    go_ret
    exact ⟨rfl,HB.out.2.2.1.trans (HX.out.trans hx7)⟩
   have hz1:¬ (i:Int)=0:=by omega
   replace HLaw:=bH (HLaw.out (by omega))
   obtain ⟨b8,hb8⟩:∃ b,insideB p (valL x)=b:=⟨_,rfl⟩
   rw [hb8] at HIs HLaw
   clear hb8
   cases b8 with
   | false =>
    go_wp2_with (first | (go_at_call 18; (with_reducible refine (HIs.out _ (HX.out.trans hx7)).mono ?_); rintro q8 w8 ⟨rfl,hx8⟩; replace p0:=cell_keep p0 hx8; replace p1:=cell_keep p1 hx8))
    go_ret
    exact ⟨rfl,HB.out.2.2.1.trans ((HX.out.trans hx7).trans hx8)⟩
   | true =>
   replace HLaw:=bH (HLaw.out rfl)
   obtain ⟨b9,hb9⟩:∃ b,integB p (valL x)=b:=⟨_,rfl⟩
   rw [hb9] at HIg HLaw
   clear hb9
   cases b9 with
   | false =>
    go_wp2_with (first | (go_at_call 18; (with_reducible refine (HIs.out _ (HX.out.trans hx7)).mono ?_); rintro q8 w8 ⟨rfl,hx8⟩; replace p0:=cell_keep p0 hx8; replace p1:=cell_keep p1 hx8) | (go_at_call 19; (with_reducible refine (HIg.out _ ((HX.out.trans hx7).trans hx8)).mono ?_); rintro q9 w9 ⟨rfl,hx9⟩; replace p0:=cell_keep p0 hx9; replace p1:=cell_keep p1 hx9))
    go_ret
    exact ⟨rfl,HB.out.2.2.1.trans (((HX.out.trans hx7).trans hx8).trans hx9)⟩
   | true =>
   replace HLaw:=bH (HLaw.out rfl)
   by_cases hx0:nx=0
   ·exact absurd hx0 HLaw.out
   have i0:(0:Int)<(nx:Int):=by omega
   go_wp2_with (first | (go_at_call 18; (with_reducible refine (HIs.out _ (HX.out.trans hx7)).mono ?_); rintro q8 w8 ⟨rfl,hx8⟩; replace p0:=cell_keep p0 hx8; replace p1:=cell_keep p1 hx8) | (go_at_call 19; (with_reducible refine (HIg.out _ ((HX.out.trans hx7).trans hx8)).mono ?_); rintro q9 w9 ⟨rfl,hx9⟩; replace p0:=cell_keep p0 hx9; replace p1:=cell_keep p1 hx9) | (go_at_call 14; (with_reducible refine (HVi.out _ (((HX.out.trans hx7).trans hx8).trans hx9)).mono ?_); rintro q10 w10 ⟨vo,vv,rfl,hx10⟩; replace p0:=cell_keep p0 hx10; replace p1:=cell_keep p1 hx10))
   go_ret
   exact ⟨ret_bool (by have h0:0<nx:=(by omega); simp [h0]),HB.out.2.2.1.trans ((((HX.out.trans hx7).trans hx8).trans hx9).trans hx10)⟩
end Go.Proofs.YtjaldknfeojjkaaGreat
