/-
  Texts of the proof, part 6. Conditions: each lemma names its own.
-/
import Derived.Test.YtbgienfcmdgaaaaGreatY1
import Derived.Test.YtbgienfcmdgaaaaGreatY4
import Derived.Test.YtbgienfcmdgaaaaGreatY5
import Derived.Maps.RangeWalk
set_option linter.unusedVariables false
set_option linter.unusedSimpArgs false
set_option maxRecDepth 100000
set_option maxHeartbeats 16000000
namespace Go.Proofs.YtbgienfcmdgaaaaGreat
open Go.RowKit Go.MapKept
open Go.ChangeMaps (setBlock)
def moreB (q:Option Rat) (c:Rat):Bool:=match q with | some l=>decide (c<l) | none=>false
def S0 (_:World):Prop:=True
theorem Infeasible_any (w:World) (pv yv:Value) (p:ProgV) (y:List Rat) (L T:Nat) (hp:IsPrg w pv p) (hy:Rats w yv y L) (hs:Small p T L) :
  Calls Tryz.prog 24 #[pv,yv] w (BoolPost w (infB p y)):=by
 have h1:=hs.room.one
 obtain ⟨r1,r2,r3,r4,r5,r6,r7,r8,r9⟩:=hs.room.all
 have HP:=bH hp
 obtain ⟨vv,rv,rfl,hv,hr⟩:=hp
 obtain ⟨vo,vc,rfl,-,hn,-⟩:=hv.shape
 obtain ⟨ro,rc,rfl,-,hrn,-⟩:=hr.shape
 have HV:=bH hv
 have HVal:=bH (fun W (hW:XF w W)=>Valid_any W _ p (HP.out.keep hW))
 have HSig:=bH (fun W (hW:XF w W)=>Signed_any W _ _ p y L (HP.out.keep hW) (hy.keep hW) h1 (by omega))
 have HCom:=bH (fun W (hW:XF w W)=>Combine_any W _ _ p y L T (HP.out.keep hW) (hy.keep hW) h1 hs.terms r1 r2 r3)
 have hyz:=hy.sz h1
 have hA:=combA_sz hr hyz hs.terms
 have hB:=combB_sz hr hyz
 have hD:∀ i,i<p.vars.length->Sz (-combA p y i) (sizeA p.rows.length T L+3):=fun i hi=>(hA i).neg.mono (by omega)
 have HEa:=bH (fun W (hW:XF w W) ab B (hab:blk W ab=some (.cells #[.slice (some ⟨B,0,none⟩) p.vars.length p.vars.length] 32 (0,0))) (ha:RArr W B p.vars.length (combA p y)) =>
  each_any W p.vars.length 68 #[.pointer (some ⟨ab,0,none⟩)] (fun i=>-combA p y i) r3 (enters_of Tryz.func68 (by kernel_rfl) rfl)
   (fun W' hW' i hi=>inf1_any W' ab B p.vars.length (combA p y) (sizeA p.rows.length T L+3) (blk_keep hab hW') r3 (ha.keep hW') (by omega) (by omega) (fun j _=>(hA j).mono (by omega)) i hi))
 have HLa:=bH (fun W (hW:XF w W) B (ha:RArr W B p.vars.length (fun i=>-combA p y i)) =>
  Least_any W _ _ p (listTo p.vars.length fun i=>-combA p y i) (sizeA p.rows.length T L+3) (HP.out.keep hW) (ha.rats hD (Nat.le_refl _) (by unfold maxLen; omega)) (by omega) (by omega))
 have hlz:=leastS_sz (c:=listTo p.vars.length fun i=>-combA p y i) hv (atQ_listTo_sz hD (by omega))
 have HNa:=bH (fun W u (hu:IsRat W u (combB p y))=>rneg_any W u _ (1+p.rows.length*(L+3)) (hu.reads hB) (by omega) (by omega))
 have HCa:=bH (fun W u u' q (hu:IsRat W u q) (hu':IsRat W u' (-combB p y)) (hq:Sz q (1+p.vars.length*(sizeA p.rows.length T L+3+3)))=>rcmp_any W u u' q _ (1+p.vars.length*(sizeA p.rows.length T L+3+3)+(1+p.rows.length*(L+3))) (hu.reads (hq.mono (by omega))) (hu'.reads (hB.neg.mono (by omega))) (by omega) (by omega))
 have HQ:=bH (show infB p y=(validB p && signedB p y && (emptyB p || moreB (leastQ p (listTo p.vars.length fun i=>-combA p y i)) (-combB p y))) from rfl)
 have HEm:=bH (show emptyB p=!allTo p.vars.length (fun i=>(p.v i).op || decide ((p.v i).lo<=(p.v i).up)) from rfl)
 have HLz:Hid (∀ q,leastQ p (listTo p.vars.length fun i=>-combA p y i)=some q->Sz q (1+p.vars.length*(sizeA p.rows.length T L+3+3))):=bH (fun q hq=>by
  obtain ⟨_,_,e⟩:=least_some hq
  rw [e]; exact hlz)
 clear hv hr hy hyz hA hB hD hlz HP hs r1 r2 r4 r5 r6 r7 r8 r9 h1
 obtain ⟨n,hn'⟩:∃ n,p.vars.length=n:=⟨_,rfl⟩
 have HN:=bH hn'
 rw [hn'] at hn r3 HV HVal HSig HCom HEa HLa HCa HQ HLz HEm ⊢
 clear hn'
 obtain ⟨m,hm'⟩:∃ m,p.rows.length=m:=⟨_,rfl⟩
 rw [hm'] at hrn HVal HSig HCom HLa HCa HLz ⊢
 clear hm'
 generalize (1+n*(sizeA m T L+3+3))=szl at *
 obtain ⟨f,hf⟩:∃ f,(fun i=>-combA p y i)=f:=⟨_,rfl⟩
 rw [hf] at HEa HLa HQ HLz
 clear hf
 generalize leastQ p (listTo n f)=lq at *
 obtain ⟨cB,hcB⟩:∃ cB,combB p y=cB:=⟨_,rfl⟩
 rw [hcB] at HCom HNa HCa HQ
 clear hcB
 have HB:=bH (bI (blk_alloc_at w (.cells #[.slice vo n vc,.slice ro m rc] 25)) ((Ext.refl (fun _=>False) w).alloc (.cells #[.slice vo n vc,.slice ro m rc] 25)))
 go_enter Tryz.func24,Tryz.ntmps24
 go_upto_region 1 with fail
 generalize hw1:w.alloc (.cells #[.slice vo n vc,.slice ro m rc] 25)=w1 at *
 clear hw1
 obtain ⟨pb,hpb⟩:∃ pb,w.heap.size=pb:=⟨_,rfl⟩
 have hpw:w.heap.size<=pb:=Nat.le_of_eq hpb
 rw [hpb] at HB ⊢
 clear hpb
 have z0:=cellq HB.out.1 0 rfl
 have z1:=cellq HB.out.1 1 rfl
 go_wp2_with fail
 refine (HVal.out w1 HB.out.2).mono ?_
 rintro r2 w2 ⟨rfl,hx2⟩
 have y0:=cell_keep z0 hx2
 have y1:=cell_keep z1 hx2
 have HX2:=bH hx2
 clear hx2 z0 z1
 cases hvb:validB p with
 | false =>
  rw [hvb] at HQ
  clear hvb
  go_wp2
  go_ret
  exact ⟨ret_bool (by rw [HQ.out]; rfl),HB.out.2.trans HX2.out⟩
 | true =>
  rw [hvb] at HQ
  clear hvb
  go_wp2_with fail
  refine (HSig.out w2 (HB.out.2.trans HX2.out)).mono ?_
  rintro r3' w3 ⟨rfl,hx3⟩
  have hx13:=HX2.out.trans hx3
  have hpb3:=blk_keep HB.out.1 hx13
  have HB3:=bH (bI hpb3 (HB.out.2.trans hx13))
  clear hpb3 hx13 hx3 HX2 y0 y1 HB
  cases hsb:signedB p y with
  | false =>
   rw [hsb] at HQ
   clear hsb
   go_wp2
   go_ret
   exact ⟨ret_bool (by rw [HQ.out]; rfl),HB3.out.2⟩
  | true =>
   rw [hsb] at HQ
   clear hsb
   have z0:=cellq HB3.out.1 0 rfl
   go_wp2_with fail
   go_loopg [23] n (fun gg v23 wr=>∃ i:Nat,i<=n/\gg=n - i/\v23=.int .i64 i/\allTo i (fun i=>(p.v i).op || decide ((p.v i).lo<=(p.v i).up))=true/\XF w3 wr)
   case atStart=>exact ⟨0,Nat.zero_le _,rfl,rfl,rfl,Ext.refl _ _⟩
   case round =>
    clear z0
    obtain ⟨i,hi,rfl,rfl,hall,hx⟩:=hrel
    have HX:=bH (bI hall hx)
    clear hall hx
    by_cases hin:i<n
    ·have i0:(i:Int)<(n:Int):=by omega
     obtain ⟨b,off,rfl,-,e0,e1,e2,e3,e4,-⟩:=(HV.out.keep (HB3.out.2.trans HX.out.2)).atp i (by rw [HN.out]; exact hin)
     have HBV:=bH (bI (BoxV.new wr (p.v i)) ((Ext.refl (fun _=>False) wr).alloc (.cells #[.int .i64 (p.v i).lo,.int .i64 (p.v i).up,.bool (p.v i).op,.bool (p.v i).ig,.int .i64 (p.v i).co] 63)))
     have HF:Hid (∀ b,((p.v i).op || decide ((p.v i).lo<=(p.v i).up))=b->(fun i=>(p.v i).op || decide ((p.v i).lo<=(p.v i).up)) i=b):=bH (fun b h=>h)
     go_upto_region 6 with fail
     generalize hw2:wr.alloc (.cells #[.int .i64 (p.v i).lo,.int .i64 (p.v i).up,.bool (p.v i).op,.bool (p.v i).ig,.int .i64 (p.v i).co] 63)=w5 at *
     clear hw2 e0 e1 e2 e3 e4
     obtain ⟨vb,hvb⟩:∃ vb,wr.heap.size=vb:=⟨_,rfl⟩
     rw [hvb] at HBV ⊢
     clear hvb
     obtain ⟨f0,f1,f2,-,-⟩:=HBV.out.1.facts
     have HE:=bH ((HB3.out.2.trans HX.out.2).trans HBV.out.2)
     have HE3:=bH (HX.out.2.trans HBV.out.2)
     clear HBV
     generalize (p.v i).lo=lo at *
     generalize (p.v i).up=up at *
     generalize (p.v i).op=o at *
     cases o with
     | false =>
      by_cases hlu:up<lo
      ·go_wp2
       go_ret
       refine ⟨ret_bool ?_,HE.out⟩
       rw [HQ.out,HEm.out,allTo_false (i:=i) hin (HF.out false (by rw [decide_eq_false (by omega)]; rfl))]
       rfl
      ·have HFt:=bH (HF.out true (by rw [decide_eq_true (p:=(lo<=up)) (by omega)]; rfl))
       clear HF
       go_wp2
       go_roundg (n - (i+1))
       case measure=>omega
       case rel=>exact ⟨i+1,by omega,rfl,by go_num,allTo_next HX.out.1 HFt.out,HE3.out⟩
     | true =>
      have HFt:=bH (HF.out true rfl)
      clear HF
      go_wp2
      go_roundg (n - (i+1))
      case measure=>omega
      case rel=>exact ⟨i+1,by omega,rfl,by go_num,allTo_next HX.out.1 HFt.out,HE3.out⟩
    ·obtain rfl:i=n:=by omega
     have HQ2:Hid (infB p y=moreB lq (-cB)):=bH (by
      rw [HQ.out,HEm.out,HX.out.1]; rfl)
     have HBr:=bH (bI (blk_keep HB3.out.1 HX.out.2) (HB3.out.2.trans HX.out.2))
     clear HQ HEm HX HB3
     have z0:=cellq HBr.out.1 0 rfl
     have z1:=cellq HBr.out.1 1 rfl
     go_wp2_with fail
     refine (HCom.out wr HBr.out.2).mono ?_
     rintro r5 w5 ⟨B,cv,rfl,hBw,hA5,hb5,hx5⟩
     obtain ⟨cn,ca,cl,cc,ca2,cl2,cc2,rfl⟩:=hb5.shape
     clear z0 z1
     have hxa:=(Ext.refl (fun _=>False) w5).alloc (.cells #[.slice (some ⟨B,0,none⟩) i i] 32)
     have hxb:=hxa.alloc (.cells #[.bool cn,.slice ca cl cc,.slice ca2 cl2 cc2] 31)
     have hab:blk ((w5.alloc (.cells #[.slice (some ⟨B,0,none⟩) i i] 32)).alloc (.cells #[.bool cn,.slice ca cl cc,.slice ca2 cl2 cc2] 31)) w5.heap.size=some (.cells #[.slice (some ⟨B,0,none⟩) i i] 32 (0,0)):=(blk_alloc_past _ _ _ (by simp)).trans (blk_alloc_at _ _)
     have hbb:=boxR_new (W:=w5.alloc (.cells #[.slice (some ⟨B,0,none⟩) i i] 32)) rfl cn ca cl cc ca2 cl2 cc2
     rw [World.size_alloc] at hbb
     have hp5:pb<w5.heap.size:=by have:=blk_lt HBr.out.1; have:=hx5.size; omega
     have HB4:=bH (bI (blk_keep HBr.out.1 (hx5.trans hxb)) (bI hab (bI hbb (bI (hb5.keep hxb) (bI (hA5.keep hxb) (HBr.out.2.trans (hx5.trans hxb)))))))
     clear hxa hxb hab hbb hA5 hb5 hx5 HBr
     go_upto_region 10 with fail
     generalize hw4:(w5.alloc (.cells #[.slice (some ⟨B,0,none⟩) i i] 32)).alloc (.cells #[.bool cn,.slice ca cl cc,.slice ca2 cl2 cc2] 31)=w4 at *
     obtain ⟨ab,hab⟩:∃ ab,w5.heap.size=ab:=⟨_,rfl⟩
     have hab4:ab+1<w4.heap.size:=by rw [<- hw4]; simp; omega
     rw [hab] at HB4 hp5 ⊢
     clear hab hw4
     have hS:S3 pb pb ab 0 1 0 (.slice vo i vc) (.slice ro m rc) (.slice (some ⟨B,0,none⟩) i i) w4:=⟨cellq HB4.out.1 0 rfl,cellq HB4.out.1 1 rfl,cellq HB4.out.2.1 0 rfl⟩
     have HX4:=bH HB4.out.2.2.2.2.2
     have HE:=bH (fun W (hW:XF w4 W)=>HEa.out W (HX4.out.trans hW) ab B (blk_keep HB4.out.2.1 hW) (HB4.out.2.2.2.2.1.keep hW))
     have HLs:=bH (fun W (hW:XF w4 W) B' ha=>HLa.out W (HX4.out.trans hW) B' ha)
     go_cut [9,10] (fun v9 v10 wx=>∃ bb ng a1 k1 c1 a2 k2 c2,v9=.pointer (some ⟨bb,0,none⟩)/\v10=.bool lq.isSome/\BoxR wx bb ng (.slice a1 k1 c1) (.slice a2 k2 c2)/\IsRat wx (.agg #[.bool ng,.slice a1 k1 c1,.slice a2 k2 c2]) (lq.getD 0)/\XF w4 wx)
     case first =>
      refine wp_region_held_drew (S:=(S3 pb pb ab 0 1 0 (.slice vo i vc) (.slice ro m rc) (.slice (some ⟨B,0,none⟩) i i))) (by kernel_rfl) (hS.drew) (fun hHeld=>?_)
      have hxd:=(Ext.refl (fun _=>False) w4).drew
      generalize w4.drew=wd at *
      refine ht 0 (h:=?_)
      (try go_frame)
      refine ht 1 (h:=?_)
      (try go_frame)
      refine ht 2 (h:=?_)
      (try go_frame)
      refine ht 3 (h:=?_)
      (try go_frame)
      refine held_two 4 9 rfl rfl (by kernel_rfl) (fun K hK=>?_) (fun K hK=>?_)
      ·go_simp
       go_at_call 63
       (with_reducible refine (HE.out _ hxd).mono ?_)
       rintro q1 w10 ⟨B2,rfl,hB2,hArr1,hx1⟩
       have hX1:=hxd.trans hx1
       have hL1:=HLs.out _ hX1 B2 hArr1
       refine hK.out _ _ (hS.keep hX1) (fun hHeld=>?_)
       clear hK K
       (try go_frame)
       refine held_two 5 9 rfl rfl (by kernel_rfl) (fun K hK=>?_) (fun K hK=>?_)
       ·go_simp
        go_at_call 62
        have hL2b:=HLs.out _ hX1 B2 hArr1
        (with_reducible refine hL2b.mono ?_)
        rintro q2 w20 hopt2
        obtain ⟨n12,a12,l12,c12,a12',l12',c12',rfl,hRat2,hx2⟩:=OptPost.open hopt2
        have hX2:=hX1.trans hx2
        refine hK.out _ _ (hS.keep hX2) (fun hHeld=>?_)
        clear hK K
        (try go_frame)
        refine ht 6 (h:=?_)
        (try go_frame)
        refine ht 7 (h:=?_)
        (try go_frame)
        refine ht 8 (h:=?_)
        (try go_frame)
        refine held_step 9 rfl (by kernel_rfl) (fun K hK=>?_)
        go_simp
        obtain ⟨bb,hbb⟩:∃ bb,w20.heap.size=bb:=⟨_,rfl⟩
        have hbbs:w4.heap.size<=bb:=by have:=hX2.size; omega
        have hbox3:=boxR_new (W:=w20) rfl false none 0 0 none 0 0
        have hX3:=hX2.alloc (.cells #[.bool false,.slice none 0 0,.slice none 0 0] 31)
        have hRat3:=hRat2.keep ((Ext.refl (fun _=>False) w20).alloc (.cells #[.bool false,.slice none 0 0,.slice none 0 0] 31))
        rw [hbb] at hbox3 ⊢
        clear hbb
        generalize w20.alloc (.cells #[.bool false,.slice none 0 0,.slice none 0 0] 31)=wa at *
        refine hK.out _ _ (hS.keep hX3) (fun hHeld=>?_)
        clear hK K
        (try go_frame)
        refine held_step 10 rfl (by kernel_rfl) (fun K hK=>?_)
        have np:¬ pb=bb:=by omega
        have na:¬ ab=bb:=by omega
        obtain ⟨d0,d1,d2,d3,d4,d5⟩:=hbox3.facts
        go_simp
        refine hK.out _ _ (S3.set (S3.set (S3.set (hS.keep hX3) ⟨bb,0,none⟩ _ np np na) ⟨bb,1,none⟩ _ np np na) ⟨bb,2,none⟩ _ np np na) (fun hHeld=>?_)
        clear hK K
        (try go_frame)
        refine ht 11 (h:=?_)
        (try go_frame)
        refine wpAnyH_done (by kernel_rfl) ?_ _
        have hput:=hbox3.put (neg:=n12) (no_int a12 l12 c12) (no_int a12' l12' c12')
        have HFin:=bH (bI hput.box (bI (hput.rat hRat3) (hX3.own hput.ext (fun k e=>by omega))))
        clear hput hS hHeld hbbs
        go_wp2
        go_meet
        exact ⟨bb,n12,a12,l12,c12,a12',l12',c12',rfl,rfl,HFin.out.1,HFin.out.2.1,HFin.out.2.2⟩
       ·go_simp
        obtain ⟨bb,hbb⟩:∃ bb,w10.heap.size=bb:=⟨_,rfl⟩
        have hbbs:w4.heap.size<=bb:=by have:=hX1.size; omega
        have hbox2:=boxR_new (W:=w10) rfl false none 0 0 none 0 0
        have hX2:=hX1.alloc (.cells #[.bool false,.slice none 0 0,.slice none 0 0] 31)
        have hArr2:=hArr1.keep ((Ext.refl (fun _=>False) w10).alloc (.cells #[.bool false,.slice none 0 0,.slice none 0 0] 31))
        rw [hbb] at hbox2 ⊢
        clear hbb
        generalize w10.alloc (.cells #[.bool false,.slice none 0 0,.slice none 0 0] 31)=wa at *
        refine hK.out _ _ (hS.keep hX2) (fun hHeld=>?_)
        clear hK K
        (try go_frame)
        refine held_step 5 rfl (by kernel_rfl) (fun K hK=>?_)
        go_simp
        go_at_call 62
        have hL3b:=HLs.out _ hX2 B2 hArr2
        (with_reducible refine hL3b.mono ?_)
        rintro q3 w30 hopt3
        obtain ⟨n12,a12,l12,c12,a12',l12',c12',rfl,hRat3,hx3⟩:=OptPost.open hopt3
        have hX3:=hX2.trans hx3
        have hbox3:=hbox2.keep hx3
        refine hK.out _ _ (hS.keep hX3) (fun hHeld=>?_)
        clear hK K
        (try go_frame)
        refine ht 6 (h:=?_)
        (try go_frame)
        refine ht 7 (h:=?_)
        (try go_frame)
        refine ht 8 (h:=?_)
        (try go_frame)
        refine held_step 10 rfl (by kernel_rfl) (fun K hK=>?_)
        have np:¬ pb=bb:=by omega
        have na:¬ ab=bb:=by omega
        obtain ⟨d0,d1,d2,d3,d4,d5⟩:=hbox3.facts
        go_simp
        refine hK.out _ _ (S3.set (S3.set (S3.set (hS.keep hX3) ⟨bb,0,none⟩ _ np np na) ⟨bb,1,none⟩ _ np np na) ⟨bb,2,none⟩ _ np np na) (fun hHeld=>?_)
        clear hK K
        (try go_frame)
        refine ht 11 (h:=?_)
        (try go_frame)
        refine wpAnyH_done (by kernel_rfl) ?_ _
        have hput:=hbox3.put (neg:=n12) (no_int a12 l12 c12) (no_int a12' l12' c12')
        have HFin:=bH (bI hput.box (bI (hput.rat hRat3) (hX3.own hput.ext (fun k e=>by omega))))
        clear hput hS hHeld hbbs
        go_wp2
        go_meet
        exact ⟨bb,n12,a12,l12,c12,a12',l12',c12',rfl,rfl,HFin.out.1,HFin.out.2.1,HFin.out.2.2⟩
      ·go_simp
       obtain ⟨bb,hbb⟩:∃ bb,wd.heap.size=bb:=⟨_,rfl⟩
       have hbbs:w4.heap.size<=bb:=by have:=hxd.size; omega
       have hbox1:=boxR_new (W:=wd) rfl false none 0 0 none 0 0
       have hX1:=hxd.alloc (.cells #[.bool false,.slice none 0 0,.slice none 0 0] 31)
       rw [hbb] at hbox1 ⊢
       clear hbb
       generalize wd.alloc (.cells #[.bool false,.slice none 0 0,.slice none 0 0] 31)=wa at *
       refine hK.out _ _ (hS.keep hX1) (fun hHeld=>?_)
       clear hK K
       (try go_frame)
       refine held_step 4 rfl (by kernel_rfl) (fun K hK=>?_)
       go_simp
       go_at_call 63
       (with_reducible refine (HE.out _ hX1).mono ?_)
       rintro q2 w20 ⟨B2,rfl,hB2,hArr2,hx2⟩
       have hX2:=hX1.trans hx2
       have hL2:=HLs.out _ hX2 B2 hArr2
       have hbox2:=hbox1.keep hx2
       refine hK.out _ _ (hS.keep hX2) (fun hHeld=>?_)
       clear hK K
       (try go_frame)
       refine held_step 5 rfl (by kernel_rfl) (fun K hK=>?_)
       go_simp
       go_at_call 62
       have hL3b:=HLs.out _ hX2 B2 hArr2
       (with_reducible refine hL3b.mono ?_)
       rintro q3 w30 hopt3
       obtain ⟨n12,a12,l12,c12,a12',l12',c12',rfl,hRat3,hx3⟩:=OptPost.open hopt3
       have hX3:=hX2.trans hx3
       have hbox3:=hbox2.keep hx3
       refine hK.out _ _ (hS.keep hX3) (fun hHeld=>?_)
       clear hK K
       (try go_frame)
       refine ht 6 (h:=?_)
       (try go_frame)
       refine ht 7 (h:=?_)
       (try go_frame)
       refine ht 8 (h:=?_)
       (try go_frame)
       refine held_step 10 rfl (by kernel_rfl) (fun K hK=>?_)
       have np:¬ pb=bb:=by omega
       have na:¬ ab=bb:=by omega
       obtain ⟨d0,d1,d2,d3,d4,d5⟩:=hbox3.facts
       go_simp
       refine hK.out _ _ (S3.set (S3.set (S3.set (hS.keep hX3) ⟨bb,0,none⟩ _ np np na) ⟨bb,1,none⟩ _ np np na) ⟨bb,2,none⟩ _ np np na) (fun hHeld=>?_)
       clear hK K
       (try go_frame)
       refine ht 11 (h:=?_)
       (try go_frame)
       refine wpAnyH_done (by kernel_rfl) ?_ _
       have hput:=hbox3.put (neg:=n12) (no_int a12 l12 c12) (no_int a12' l12' c12')
       have HFin:=bH (bI hput.box (bI (hput.rat hRat3) (hX3.own hput.ext (fun k e=>by omega))))
       clear hput hS hHeld hbbs
       go_wp2
       go_meet
       exact ⟨bb,n12,a12,l12,c12,a12',l12',c12',rfl,rfl,HFin.out.1,HFin.out.2.1,HFin.out.2.2⟩
     case rest =>
      clear hS HE HLs HEa HLa HCom HSig HVal
      obtain ⟨bb,ng,a1,k1,c1,a2,k2,c2,rfl,rfl,hbb,hlq,hx4⟩:=hcut
      have HB6:=bH (bI (HB4.out.2.2.1.keep hx4) (bI (HB4.out.2.2.2.1.keep hx4) (HX4.out.trans hx4)))
      have HL6:=bH (bI hbb hlq)
      clear hbb hlq hx4 HB4 HX4
      cases lq with
      | none =>
       rw [show (none:Option Rat).isSome=false from rfl]
       go_upto_region 11 with fail
       have hS:S0 wc:=trivial
       refine wp_region_held_drew (S:=S0) (by kernel_rfl) (trivial) (fun hHeld=>?_)
       refine ht 0 (h:=?_)
       (try go_frame)
       refine ht 1 (h:=?_)
       (try go_frame)
       refine held_skip 2 rfl (by kernel_rfl) (by kernel_rfl) (by kernel_rfl) (fun _ _ _ h=>h) (by rfl) (by assumption) ?_
       (try go_frame)
       refine held_skip 3 rfl (by kernel_rfl) (by kernel_rfl) (by kernel_rfl) (fun _ _ _ h=>h) (by rfl) (by assumption) ?_
       (try go_frame)
       refine held_skip 4 rfl (by kernel_rfl) (by kernel_rfl) (by kernel_rfl) (fun _ _ _ h=>h) (by rfl) (by assumption) ?_
       (try go_frame)
       refine held_skip 5 rfl (by kernel_rfl) (by kernel_rfl) (by kernel_rfl) (fun _ _ _ h=>h) (by rfl) (by assumption) ?_
       (try go_frame)
       refine held_skip 6 rfl (by kernel_rfl) (by kernel_rfl) (by kernel_rfl) (fun _ _ _ h=>h) (by rfl) (by assumption) ?_
       (try go_frame)
       refine ht 7 (h:=?_)
       (try go_frame)
       refine ht 8 (h:=?_)
       (try go_frame)
       refine wpAnyH_done (by kernel_rfl) ?_ _
       go_wp2
       go_ret
       exact ⟨ret_bool (by rw [HQ2.out]; rfl),HB6.out.2.2.drew⟩
      | some q =>
       rw [show (some q:Option Rat).isSome=true from rfl]
       have HNg:=bH (fun W (hW:XF wc W)=>HNa.out W _ (HB6.out.2.1.keep hW))
       have HCm:=bH (fun W u (hW:XF wc W) hu=>HCa.out W _ u q (HL6.out.2.keep hW) hu (HLz.out q rfl))
       obtain ⟨x0,x1,x2,-⟩:=HB6.out.1.facts
       obtain ⟨t0,t1,t2,-⟩:=HL6.out.1.facts
       have hcb:∃ cb,ab+1=cb:=⟨_,rfl⟩
       obtain ⟨cb,hcb⟩:=hcb
       rw [hcb] at HB6 x0 x1 x2 ⊢
       clear hcb hab4
       have hS:S6 bb bb bb cb cb cb 0 1 2 0 1 2 (.bool ng) (.slice a1 k1 c1) (.slice a2 k2 c2) (.bool cn) (.slice ca cl cc) (.slice ca2 cl2 cc2) wc:=⟨t0,t1,t2,x0,x1,x2⟩
       have hxw:=(Ext.refl (fun _=>False) wc)
       have hsg:=sign_gt (q - -cB)
       have HR:Hid (decide (-cB<q)=decide (0<(q - -cB).num.sign)):=bH (decide_eq_decide.2 ⟨fun h=>hsg.2 (by grind),fun h=>by have:=hsg.1 h; grind⟩)
       clear hsg x0 x1 x2 t0 t1 t2
       generalize (q - -cB).num.sign=sg at *
       go_upto_region 11 with fail
       refine wp_region_held_drew (S:=(S6 bb bb bb cb cb cb 0 1 2 0 1 2 (.bool ng) (.slice a1 k1 c1) (.slice a2 k2 c2) (.bool cn) (.slice ca cl cc) (.slice ca2 cl2 cc2))) (by kernel_rfl) (hS.drew) (fun hHeld=>?_)
       refine ht 0 (h:=?_)
       (try go_frame)
       refine ht 1 (h:=?_)
       (try go_frame)
       refine ht 2 (h:=?_)
       (try go_frame)
       refine ht 3 (h:=?_)
       (try go_frame)
       refine held_step 4 rfl (by kernel_rfl) (fun K hK=>?_)
       (go_simp; go_at_call 69; (with_reducible refine (HNg.out _ hxw.drew).mono ?_); rintro q1 w11 ⟨v11,rfl,h11,hx11⟩; have hX1:=(Ext.refl (fun _=>False) wc).drew.trans hx11; have hK1:=hS.keep hX1; have hC1:=HCm.out w11 _ hX1 h11; obtain ⟨n11,a11,l11,c11,a12,l12,c12,rfl⟩:=h11.shape)
       refine hK.out _ _ (hK1) (fun hHeld=>?_)
       clear hK K
       (try go_frame)
       refine held_step 5 rfl (by kernel_rfl) (fun K hK=>?_)
       (go_simp; go_at_call 53; (with_reducible refine hC1.mono ?_); rintro q2 w12 ⟨rfl,hx12⟩; have hX2:=hX1.trans hx12; have hK2:=hS.keep hX2)
       refine hK.out _ _ (hK2) (fun hHeld=>?_)
       clear hK K
       (try go_frame)
       refine ht 6 (h:=?_)
       (try go_frame)
       refine ht 7 (h:=?_)
       (try go_frame)
       refine ht 8 (h:=?_)
       (try go_frame)
       refine wpAnyH_done (by kernel_rfl) ?_ _
       have HXX:=bH (HB6.out.2.2.trans hX2)
       clear hX1 hX2 hK1 hK2 hS hHeld h11 hx11 hx12 hC1 hxw
       go_wp2
       go_ret
       exact ⟨ret_bool (by rw [HQ2.out]; exact HR.out.symm),HXX.out⟩
def insB (p:ProgV) (x:List Rat) (i:Nat):Bool:=decide (((p.v i).lo:Rat)<=atQ x i) && ((p.v i).op || decide (atQ x i<=((p.v i).up:Rat)))
theorem insideB_eq (p:ProgV) (x:List Rat):insideB p x=allTo p.vars.length (insB p x):=rfl
theorem insB_sign (p:ProgV) (x:List Rat) (i:Nat):insB p x i=(!decide ((atQ x i - ((p.v i).lo:Rat)).num.sign<0) && ((p.v i).op || !decide (0<(atQ x i - ((p.v i).up:Rat)).num.sign))):=by
 have hr1:=sign_lt (atQ x i - ((p.v i).lo:Rat))
 have hr2:=sign_gt (atQ x i - ((p.v i).up:Rat))
 unfold insB
 congr 1
 ·rw [<- decide_not]; exact decide_eq_decide.2 ⟨fun h h2=>by have:=hr1.1 h2; grind,fun h=>Rat.not_lt.1 (fun h2=>h (hr1.2 (by grind)))⟩
 ·congr 1
  rw [<- decide_not]; exact decide_eq_decide.2 ⟨fun h h2=>by have:=hr2.1 h2; grind,fun h=>Rat.not_lt.1 (fun h2=>h (hr2.2 (by grind)))⟩
theorem Inside_any (w:World) (pv xv:Value) (p:ProgV) (x:List Rat) (L:Nat) (hp:IsPrg w pv p) (hy:Rats w xv x L) (h1:1<=L) (hL:L<=4194000) :
  Calls Tryz.prog 122 #[pv,xv] w (BoolPost w (insideB p x)):=by
 obtain ⟨vv,rv,rfl,hr,-⟩:=hp
 obtain ⟨vo,vc,rfl,-,hn,-⟩:=hr.shape
 obtain ⟨yo,yc,rfl,-,hyn,-⟩:=hy.shape
 have HV:=bH (bI hr hy)
 obtain ⟨n,hn'⟩:∃ n,p.vars.length=n:=⟨_,rfl⟩
 have HN:=bH hn'
 have HA:=bH (fun W (hW:XF w W) (i:Nat)=>lat_any W _ x L (hy.keep hW) i)
 have HC:=bH (fun W u u' q (k:Int) (hk:InR k) (hu:Rrat W u q L) (hu':IsRat W u' (k:Rat))=>rcmp_any W u u' q (k:Rat) (L+2) (hu.mono (by omega)) (hu'.reads ((Sz.int hk).mono (by omega))) (by omega) (by omega))
 clear hr hy
 rw [hn'] at hn ⊢ HV
 clear hn'
 generalize x.length=yn at *
 go_enter Tryz.func122,Tryz.ntmps122
 go_wp2_with fail
 go_loopg [11] n (fun gg v11 wr=>∃ i:Nat,i<=n/\gg=n - i/\v11=.int .i64 i/\allTo i (insB p x)=true/\XF w wr)
 case atStart=>exact ⟨0,Nat.zero_le _,rfl,rfl,rfl,(Ext.refl _ _).alloc _⟩
 case round =>
  obtain ⟨i,hi,rfl,rfl,hall,hx⟩:=hrel
  have HX:=bH (bI hall hx)
  clear hall hx
  by_cases hin:i<n
  ·have i0:(i:Int)<(n:Int):=by omega
   have hrow:=(HV.out.1.keep HX.out.2)
   obtain ⟨b,off,rfl,hlt,e0,e1,e2,e3,e4,hok⟩:=hrow.atp i (by rw [HN.out]; exact hin)
   clear hrow
   have HA1:=bH (fun W (hW:XF wr W)=>HA.out W (HX.out.2.trans hW) i)
   have hb1:=BoxV.new wr (p.v i)
   have hx1:=(Ext.refl (fun _=>False) wr).alloc (.cells #[.int .i64 (p.v i).lo,.int .i64 (p.v i).up,.bool (p.v i).op,.bool (p.v i).ig,.int .i64 (p.v i).co] 63)
   have HB:=bH (bI hb1 (bI hx1 hok))
   clear hb1 hx1 hok
   go_upto_region 4 with fail
   obtain ⟨rb,hrb⟩:∃ rb,wr.heap.size=rb:=⟨_,rfl⟩
   rw [hrb] at HB ⊢
   generalize wr.alloc (.cells #[.int .i64 (p.v i).lo,.int .i64 (p.v i).up,.bool (p.v i).op,.bool (p.v i).ig,.int .i64 (p.v i).co] 63)=w1 at *
   clear e0 e1 e2 e3 e4
   go_wp2_with fail
   refine (HA1.out w1 HB.out.2.1).mono ?_
   rintro r2 w2 ⟨v2,rfl,h2,hx2⟩
   obtain ⟨xn,xa,xm,xc,ya,ym,yc',rfl⟩:=h2.shape
   have hx3:=hx2.alloc (.cells #[.bool xn,.slice xa xm xc,.slice ya ym yc'] 31)
   have hb3:=boxR_new (W:=w2) rfl xn xa xm xc ya ym yc'
   have h3:=h2.keep ((Ext.refl (fun _=>False) w2).alloc (.cells #[.bool xn,.slice xa xm xc,.slice ya ym yc'] 31))
   have HB3:=bH (bI hb3 (bI (HB.out.1.keep hx3) (bI h3 ((HX.out.2.trans HB.out.2.1).trans hx3))))
   have HO:=bH HB.out.2.2
   clear hb3 h3 h2 hx2 hx3 HA1 HB
   go_upto_region 5 with fail
   obtain ⟨cb,hcb⟩:∃ cb,w2.heap.size=cb:=⟨_,rfl⟩
   rw [hcb] at HB3 ⊢
   clear hcb
   generalize w2.alloc (.cells #[.bool xn,.slice xa xm xc,.slice ya ym yc'] 31)=w3 at *
   have HF1:=bH (fun W=>rfrom_any W (p.v i).lo HO.out.lo.1 HO.out.lo.2)
   have HF2:=bH (fun W=>rfrom_any W (p.v i).up HO.out.up.1 HO.out.up.2)
   have HC1:=bH (fun W u (hW:XF w3 W) hu=>HC.out W _ u _ _ HO.out.lo (HB3.out.2.2.1.keep hW) hu)
   have HC2:=bH (fun W u (hW:XF w3 W) hu=>HC.out W _ u _ _ HO.out.up (HB3.out.2.2.1.keep hW) hu)
   have HR:=bH (insB_sign p x i)
   obtain ⟨f0,f1,f2,-,-⟩:=HB3.out.2.1.facts
   obtain ⟨g0,g1,g2,-⟩:=HB3.out.1.facts
   have hS:S6 rb rb rb cb cb cb 0 1 2 0 1 2 (.int .i64 (p.v i).lo) (.int .i64 (p.v i).up) (.bool (p.v i).op) (.bool xn) (.slice xa xm xc) (.slice ya ym yc') w3:=⟨f0,f1,f2,g0,g1,g2⟩
   clear f0 f1 f2 g0 g1 g2 HC HA HO
   generalize (atQ x i - ((p.v i).lo:Rat)).num.sign=s1 at *
   generalize (atQ x i - ((p.v i).up:Rat)).num.sign=s2 at *
   generalize ((p.v i).lo:Rat)=lq at *
   generalize ((p.v i).up:Rat)=uq at *
   generalize (p.v i).lo=lo at *
   generalize (p.v i).up=up at *
   generalize (p.v i).op=o at *
   have hcase:s1<0∨(¬ s1<0/\o=true)∨(¬ s1<0/\o=false/\0<s2)∨(¬ s1<0/\o=false/\¬ 0<s2):=by cases o <;> simp <;> omega
   rcases hcase with hs | ⟨hs,rfl⟩ | ⟨hs0,rfl,hs⟩ | ⟨hs0,rfl,hs⟩
   ·have hd:decide (s1<0)=true:=decide_eq_true hs
    refine wp_region_held_drew (S:=(S6 rb rb rb cb cb cb 0 1 2 0 1 2 (.int .i64 lo) (.int .i64 up) (.bool o) (.bool xn) (.slice xa xm xc) (.slice ya ym yc'))) (by kernel_rfl) (hS.drew) (fun hHeld=>?_)
    refine ht 0 (h:=?_)
    (try go_frame)
    refine ht 1 (h:=?_)
    (try go_frame)
    refine ht 2 (h:=?_)
    (try go_frame)
    refine held_step 3 rfl (by kernel_rfl) (fun K hK=>?_)
    (go_simp; go_at_call 66; (with_reducible refine (HF1.out _).mono ?_); rintro q1 w11 ⟨v11,rfl,h11,hx11⟩; have hX1:=(Ext.refl (fun _=>False) w3).drew.trans hx11; have hK1:=hS.keep hX1; have hC1:=HC1.out w11 _ hX1 h11; obtain ⟨n11,a11,l11,c11,a12,l12,c12,rfl⟩:=h11.shape)
    refine hK.out _ _ (hK1) (fun hHeld=>?_)
    clear hK K
    (try go_frame)
    refine held_step 4 rfl (by kernel_rfl) (fun K hK=>?_)
    (go_simp; go_at_call 53; (with_reducible refine hC1.mono ?_); rintro q2 w12 ⟨rfl,hx12⟩; have hX2:=hX1.trans hx12; have hK2:=hS.keep hX2)
    refine hK.out _ _ (hK2) (fun hHeld=>?_)
    clear hK K
    (try go_frame)
    refine ht 5 (h:=?_)
    (try go_frame)
    refine ht 6 (h:=?_)
    (try go_frame)
    refine held_skip 7 rfl (by kernel_rfl) (by kernel_rfl) (by kernel_rfl) (fun _ _ _ h=>h) (by rfl) (by assumption) ?_
    (try go_frame)
    refine held_skip 8 rfl (by kernel_rfl) (by kernel_rfl) (by kernel_rfl) (fun _ _ _ h=>h) (by rfl) (by assumption) ?_
    (try go_frame)
    refine held_skip 9 rfl (by kernel_rfl) (by kernel_rfl) (by kernel_rfl) (fun _ _ _ h=>h) (by rfl) (by assumption) ?_
    (try go_frame)
    refine held_skip 10 rfl (by kernel_rfl) (by kernel_rfl) (by kernel_rfl) (fun _ _ _ h=>h) (by rfl) (by assumption) ?_
    (try go_frame)
    refine held_skip 11 rfl (by kernel_rfl) (by kernel_rfl) (by kernel_rfl) (fun _ _ _ h=>h) (by rfl) (by assumption) ?_
    (try go_frame)
    refine held_skip 12 rfl (by kernel_rfl) (by kernel_rfl) (by kernel_rfl) (fun _ _ _ h=>h) (by rfl) (by assumption) ?_
    (try go_frame)
    refine held_skip 13 rfl (by kernel_rfl) (by kernel_rfl) (by kernel_rfl) (fun _ _ _ h=>h) (by rfl) (by assumption) ?_
    (try go_frame)
    refine held_skip 14 rfl (by kernel_rfl) (by kernel_rfl) (by kernel_rfl) (fun _ _ _ h=>h) (by rfl) (by assumption) ?_
    (try go_frame)
    refine held_skip 15 rfl (by kernel_rfl) (by kernel_rfl) (by kernel_rfl) (fun _ _ _ h=>h) (by rfl) (by assumption) ?_
    (try go_frame)
    refine held_skip 16 rfl (by kernel_rfl) (by kernel_rfl) (by kernel_rfl) (fun _ _ _ h=>h) (by rfl) (by assumption) ?_
    (try go_frame)
    refine held_skip 17 rfl (by kernel_rfl) (by kernel_rfl) (by kernel_rfl) (fun _ _ _ h=>h) (by rfl) (by assumption) ?_
    (try go_frame)
    refine ht 18 (h:=?_)
    (try go_frame)
    refine wpAnyH_done (by kernel_rfl) ?_ _
    have HXX:=bH (HB3.out.2.2.2.trans hX2)
    clear hX1 hX2 h11 hx11 hx12 hC1 hK1 hK2 hS hHeld
    go_wp2
    go_ret
    exact ⟨ret_bool (allTo_false (f:=insB p x) (i:=i) (by rw [HN.out]; exact hin) (by rw [HR.out]; simp [hs])).symm,HXX.out⟩
   ·have hd:decide (s1<0)=false:=decide_eq_false hs
    refine wp_region_held_drew (S:=(S6 rb rb rb cb cb cb 0 1 2 0 1 2 (.int .i64 lo) (.int .i64 up) (.bool true) (.bool xn) (.slice xa xm xc) (.slice ya ym yc'))) (by kernel_rfl) (hS.drew) (fun hHeld=>?_)
    refine ht 0 (h:=?_)
    (try go_frame)
    refine ht 1 (h:=?_)
    (try go_frame)
    refine ht 2 (h:=?_)
    (try go_frame)
    refine held_step 3 rfl (by kernel_rfl) (fun K hK=>?_)
    (go_simp; go_at_call 66; (with_reducible refine (HF1.out _).mono ?_); rintro q1 w11 ⟨v11,rfl,h11,hx11⟩; have hX1:=(Ext.refl (fun _=>False) w3).drew.trans hx11; have hK1:=hS.keep hX1; have hC1:=HC1.out w11 _ hX1 h11; obtain ⟨n11,a11,l11,c11,a12,l12,c12,rfl⟩:=h11.shape)
    refine hK.out _ _ (hK1) (fun hHeld=>?_)
    clear hK K
    (try go_frame)
    refine held_step 4 rfl (by kernel_rfl) (fun K hK=>?_)
    (go_simp; go_at_call 53; (with_reducible refine hC1.mono ?_); rintro q2 w12 ⟨rfl,hx12⟩; have hX2:=hX1.trans hx12; have hK2:=hS.keep hX2)
    refine hK.out _ _ (hK2) (fun hHeld=>?_)
    clear hK K
    (try go_frame)
    refine ht 5 (h:=?_)
    (try go_frame)
    refine ht 6 (h:=?_)
    (try go_frame)
    refine ht 7 (h:=?_)
    (try go_frame)
    refine ht 8 (h:=?_)
    (try go_frame)
    refine ht 9 (h:=?_)
    (try go_frame)
    refine ht 10 (h:=?_)
    (try go_frame)
    refine held_skip 11 rfl (by kernel_rfl) (by kernel_rfl) (by kernel_rfl) (fun _ _ _ h=>h) (by rfl) (by assumption) ?_
    (try go_frame)
    refine held_skip 12 rfl (by kernel_rfl) (by kernel_rfl) (by kernel_rfl) (fun _ _ _ h=>h) (by rfl) (by assumption) ?_
    (try go_frame)
    refine held_skip 13 rfl (by kernel_rfl) (by kernel_rfl) (by kernel_rfl) (fun _ _ _ h=>h) (by rfl) (by assumption) ?_
    (try go_frame)
    refine held_skip 14 rfl (by kernel_rfl) (by kernel_rfl) (by kernel_rfl) (fun _ _ _ h=>h) (by rfl) (by assumption) ?_
    (try go_frame)
    refine held_skip 15 rfl (by kernel_rfl) (by kernel_rfl) (by kernel_rfl) (fun _ _ _ h=>h) (by rfl) (by assumption) ?_
    (try go_frame)
    refine held_skip 16 rfl (by kernel_rfl) (by kernel_rfl) (by kernel_rfl) (fun _ _ _ h=>h) (by rfl) (by assumption) ?_
    (try go_frame)
    refine ht 17 (h:=?_)
    (try go_frame)
    refine ht 18 (h:=?_)
    (try go_frame)
    refine wpAnyH_done (by kernel_rfl) ?_ _
    have HXX:=bH (HB3.out.2.2.2.trans hX2)
    clear hX1 hX2 h11 hx11 hx12 hC1 hK1 hK2 hS hHeld
    go_wp2
    go_roundg (n - (i+1))
    case measure=>omega
    case rel=>exact ⟨i+1,by omega,rfl,by go_num,allTo_next HX.out.1 (by rw [HR.out]; simp [hs]),HXX.out⟩
   ·have hd:decide (s1<0)=false:=decide_eq_false hs0; have hd2:decide (0<s2)=true:=decide_eq_true hs
    refine wp_region_held_drew (S:=(S6 rb rb rb cb cb cb 0 1 2 0 1 2 (.int .i64 lo) (.int .i64 up) (.bool false) (.bool xn) (.slice xa xm xc) (.slice ya ym yc'))) (by kernel_rfl) (hS.drew) (fun hHeld=>?_)
    refine ht 0 (h:=?_)
    (try go_frame)
    refine ht 1 (h:=?_)
    (try go_frame)
    refine ht 2 (h:=?_)
    (try go_frame)
    refine held_step 3 rfl (by kernel_rfl) (fun K hK=>?_)
    (go_simp; go_at_call 66; (with_reducible refine (HF1.out _).mono ?_); rintro q1 w11 ⟨v11,rfl,h11,hx11⟩; have hX1:=(Ext.refl (fun _=>False) w3).drew.trans hx11; have hK1:=hS.keep hX1; have hC1:=HC1.out w11 _ hX1 h11; obtain ⟨n11,a11,l11,c11,a12,l12,c12,rfl⟩:=h11.shape)
    refine hK.out _ _ (hK1) (fun hHeld=>?_)
    clear hK K
    (try go_frame)
    refine held_step 4 rfl (by kernel_rfl) (fun K hK=>?_)
    (go_simp; go_at_call 53; (with_reducible refine hC1.mono ?_); rintro q2 w12 ⟨rfl,hx12⟩; have hX2:=hX1.trans hx12; have hK2:=hS.keep hX2)
    refine hK.out _ _ (hK2) (fun hHeld=>?_)
    clear hK K
    (try go_frame)
    refine ht 5 (h:=?_)
    (try go_frame)
    refine ht 6 (h:=?_)
    (try go_frame)
    refine ht 7 (h:=?_)
    (try go_frame)
    refine ht 8 (h:=?_)
    (try go_frame)
    refine ht 9 (h:=?_)
    (try go_frame)
    refine ht 10 (h:=?_)
    (try go_frame)
    refine ht 11 (h:=?_)
    (try go_frame)
    refine ht 12 (h:=?_)
    (try go_frame)
    refine ht 13 (h:=?_)
    (try go_frame)
    refine held_step 14 rfl (by kernel_rfl) (fun K hK=>?_)
    (go_simp; go_at_call 66; (with_reducible refine (HF2.out _).mono ?_); rintro q3 w13 ⟨v13,rfl,h13,hx13⟩; have hX3:=hX2.trans hx13; have hK3:=hS.keep hX3; have hC2:=HC2.out w13 _ hX3 h13; obtain ⟨n13,a13,l13,c13,a14,l14,c14,rfl⟩:=h13.shape)
    refine hK.out _ _ (hK3) (fun hHeld=>?_)
    clear hK K
    (try go_frame)
    refine held_step 15 rfl (by kernel_rfl) (fun K hK=>?_)
    (go_simp; go_at_call 53; (with_reducible refine hC2.mono ?_); rintro q4 w14 ⟨rfl,hx14⟩; have hX4:=hX3.trans hx14; have hK4:=hS.keep hX4)
    refine hK.out _ _ (hK4) (fun hHeld=>?_)
    clear hK K
    (try go_frame)
    refine ht 16 (h:=?_)
    (try go_frame)
    refine ht 17 (h:=?_)
    (try go_frame)
    refine ht 18 (h:=?_)
    (try go_frame)
    refine wpAnyH_done (by kernel_rfl) ?_ _
    have HXX:=bH (HB3.out.2.2.2.trans hX4)
    clear hX1 hX2 h11 hx11 hx12 hC1 hK1 hK2 hS hHeld hX3 hX4 h13 hx13 hx14 hC2 hK3 hK4
    go_wp2
    go_ret
    exact ⟨ret_bool (allTo_false (f:=insB p x) (i:=i) (by rw [HN.out]; exact hin) (by rw [HR.out]; simp [hs])).symm,HXX.out⟩
   ·have hd:decide (s1<0)=false:=decide_eq_false hs0; have hd2:decide (0<s2)=false:=decide_eq_false hs
    refine wp_region_held_drew (S:=(S6 rb rb rb cb cb cb 0 1 2 0 1 2 (.int .i64 lo) (.int .i64 up) (.bool false) (.bool xn) (.slice xa xm xc) (.slice ya ym yc'))) (by kernel_rfl) (hS.drew) (fun hHeld=>?_)
    refine ht 0 (h:=?_)
    (try go_frame)
    refine ht 1 (h:=?_)
    (try go_frame)
    refine ht 2 (h:=?_)
    (try go_frame)
    refine held_step 3 rfl (by kernel_rfl) (fun K hK=>?_)
    (go_simp; go_at_call 66; (with_reducible refine (HF1.out _).mono ?_); rintro q1 w11 ⟨v11,rfl,h11,hx11⟩; have hX1:=(Ext.refl (fun _=>False) w3).drew.trans hx11; have hK1:=hS.keep hX1; have hC1:=HC1.out w11 _ hX1 h11; obtain ⟨n11,a11,l11,c11,a12,l12,c12,rfl⟩:=h11.shape)
    refine hK.out _ _ (hK1) (fun hHeld=>?_)
    clear hK K
    (try go_frame)
    refine held_step 4 rfl (by kernel_rfl) (fun K hK=>?_)
    (go_simp; go_at_call 53; (with_reducible refine hC1.mono ?_); rintro q2 w12 ⟨rfl,hx12⟩; have hX2:=hX1.trans hx12; have hK2:=hS.keep hX2)
    refine hK.out _ _ (hK2) (fun hHeld=>?_)
    clear hK K
    (try go_frame)
    refine ht 5 (h:=?_)
    (try go_frame)
    refine ht 6 (h:=?_)
    (try go_frame)
    refine ht 7 (h:=?_)
    (try go_frame)
    refine ht 8 (h:=?_)
    (try go_frame)
    refine ht 9 (h:=?_)
    (try go_frame)
    refine ht 10 (h:=?_)
    (try go_frame)
    refine ht 11 (h:=?_)
    (try go_frame)
    refine ht 12 (h:=?_)
    (try go_frame)
    refine ht 13 (h:=?_)
    (try go_frame)
    refine held_step 14 rfl (by kernel_rfl) (fun K hK=>?_)
    (go_simp; go_at_call 66; (with_reducible refine (HF2.out _).mono ?_); rintro q3 w13 ⟨v13,rfl,h13,hx13⟩; have hX3:=hX2.trans hx13; have hK3:=hS.keep hX3; have hC2:=HC2.out w13 _ hX3 h13; obtain ⟨n13,a13,l13,c13,a14,l14,c14,rfl⟩:=h13.shape)
    refine hK.out _ _ (hK3) (fun hHeld=>?_)
    clear hK K
    (try go_frame)
    refine held_step 15 rfl (by kernel_rfl) (fun K hK=>?_)
    (go_simp; go_at_call 53; (with_reducible refine hC2.mono ?_); rintro q4 w14 ⟨rfl,hx14⟩; have hX4:=hX3.trans hx14; have hK4:=hS.keep hX4)
    refine hK.out _ _ (hK4) (fun hHeld=>?_)
    clear hK K
    (try go_frame)
    refine ht 16 (h:=?_)
    (try go_frame)
    refine ht 17 (h:=?_)
    (try go_frame)
    refine ht 18 (h:=?_)
    (try go_frame)
    refine wpAnyH_done (by kernel_rfl) ?_ _
    have HXX:=bH (HB3.out.2.2.2.trans hX4)
    clear hX1 hX2 h11 hx11 hx12 hC1 hK1 hK2 hS hHeld hX3 hX4 h13 hx13 hx14 hC2 hK3 hK4
    go_wp2
    go_roundg (n - (i+1))
    case measure=>omega
    case rel=>exact ⟨i+1,by omega,rfl,by go_num,allTo_next HX.out.1 (by rw [HR.out]; simp [hs,hs0]),HXX.out⟩
  ·obtain rfl:i=n:=by omega
   go_wp2
   go_ret
   exact ⟨ret_bool (by rw [insideB_eq,HN.out]; exact HX.out.1.symm),HX.out.2⟩
theorem Room.rows {n m T L:Nat} (h:Room n m T L):m<=1000000:=by
 have h1:=h.all.2.2.2.1
 unfold sizeA at h1
 have:=Nat.le_mul_of_pos_right m (show 0<T*(L+3)+2 by omega)
 omega
theorem feasible_any (w:World) (pv xv:Value) (p:ProgV) (x:List Rat) (L T:Nat) (hp:IsPrg w pv p) (hy:Rats w xv x L) (hs:Small p T L) :
  Calls Tryz.prog 72 #[pv,xv] w (BoolPost w (feasB p x)):=by
 have h1:=hs.room.one
 have hm:=hs.room.rows
 obtain ⟨r1,r2,r3,r4,r5,r6,r7,r8,r9⟩:=hs.room.all
 have HP:=bH hp
 have HVal:=bH (fun W (hW:XF w W)=>Valid_any W _ p (HP.out.keep hW))
 have HIn:=bH (fun W (hW:XF w W)=>Inside_any W _ _ p x L (HP.out.keep hW) (hy.keep hW) h1 (by omega))
 have HVi:=bH (fun W (hW:XF w W)=>Violated_any W _ _ p x L T (HP.out.keep hW) (hy.keep hW) h1 hs.terms r6 hm)
 have HQ:=bH (show feasB p x=(validB p && insideB p x && decide (violQ p x=[])) from rfl)
 obtain ⟨vv,rv,rfl,hv,hr⟩:=hp
 clear hv hr hy HP hs r1 r2 r3 r4 r5 r6 r7 r8 r9 h1 hm
 have HB:=bH (bI (blk_alloc_at w (.cells #[vv,rv] 25)) ((Ext.refl (fun _=>False) w).alloc (.cells #[vv,rv] 25)))
 go_enter Tryz.func72,Tryz.ntmps72
 go_upto_region 1 with fail
 generalize hw1:w.alloc (.cells #[vv,rv] 25)=w1 at *
 clear hw1
 obtain ⟨pb,hpb⟩:∃ pb,w.heap.size=pb:=⟨_,rfl⟩
 rw [hpb] at HB ⊢
 clear hpb
 have z0:=cellq HB.out.1 0 rfl
 have z1:=cellq HB.out.1 1 rfl
 go_wp2_with fail
 refine (HVal.out w1 HB.out.2).mono ?_
 rintro r2 w2 ⟨rfl,hx2⟩
 have HX2:=bH hx2
 have y0:=cell_keep z0 hx2
 have y1:=cell_keep z1 hx2
 clear hx2 z0 z1
 cases hvb:validB p with
 | false =>
  rw [hvb] at HQ
  clear hvb
  go_wp2
  go_ret
  exact ⟨ret_bool (by rw [HQ.out]; rfl),HB.out.2.trans HX2.out⟩
 | true =>
  rw [hvb] at HQ
  clear hvb
  go_wp2_with fail
  refine (HIn.out w2 (HB.out.2.trans HX2.out)).mono ?_
  rintro r3 w3 ⟨rfl,hx3⟩
  have HX3:=bH ((HB.out.2.trans HX2.out).trans hx3)
  have x0:=cell_keep y0 hx3
  have x1:=cell_keep y1 hx3
  clear hx3 y0 y1
  cases hib:insideB p x with
  | false =>
   rw [hib] at HQ
   clear hib
   go_wp2
   go_ret
   exact ⟨ret_bool (by rw [HQ.out]; rfl),HX3.out⟩
  | true =>
   rw [hib] at HQ
   clear hib
   go_wp2_with fail
   refine (HVi.out w3 HX3.out).mono ?_
   rintro r4 w4 ⟨v4,rfl,h4,hx4⟩
   obtain ⟨ao,cap,rfl⟩:=h4.shape
   have HX4:=bH (HX3.out.trans hx4)
   clear h4 hx4 x0 x1
   have HQ2:Hid (feasB p x=decide ((violQ p x).length=0)):=bH (by
    rw [HQ.out]
    show decide (violQ p x=[])=_
    exact decide_eq_decide.2 List.length_eq_zero_iff.symm)
   clear HQ
   generalize (violQ p x).length=ln at *
   by_cases hl:ln=0
   ·subst hl
    go_wp2
    go_ret
    exact ⟨ret_bool (by rw [HQ2.out]; rfl),HX4.out⟩
   ·have hl':((ln:Int) == 0)=false:=by simpa using hl
    go_wp2
    go_ret
    exact ⟨ret_bool (by rw [HQ2.out,decide_eq_false hl]),HX4.out⟩
theorem boundQ_sz {p:ProgV} {w:World} {pv:Value} {y:List Rat} {L T:Nat} (hp:IsPrg w pv p) (hy:∀ i:Int,Sz (atQ y i) L) (hs:Small p T L) {q:Rat} (h:boundQ p y=some q):Sz q (1+p.vars.length*(sizeA p.rows.length T L+3+3)+(1+p.rows.length*(L+3))+1):=by
 obtain ⟨vv,rv,rfl,hv,hr⟩:=hp
 unfold boundQ at h
 split at h
 ·obtain ⟨l,hl,rfl⟩:=Option.map_eq_some_iff.1 h
  obtain ⟨_,_,rfl⟩:=least_some hl
  have hA:=combA_sz hr hy hs.terms
  have h2:=leastS_sz (c:=listTo p.vars.length fun i=>((p.v i).co:Rat) - combA p y i) hv (atQ_listTo_sz (L:=sizeA p.rows.length T L+3) (fun i hi=>((Sz.int (hv.ok i hi).co).sub (hA i)).mono (by omega)) (by omega))
  exact ((combB_sz hr hy).add h2).mono (by omega)
 ·cases h
theorem costQ_sz {p:ProgV} {w:World} {v:Value} {x:List Rat} {L:Nat} (hv:Vrs w v p.vars) (hx:∀ i:Int,Sz (atQ x i) L):Sz (costQ p x) (1+p.vars.length*(L+3)) :=
 sumTo_sz (M:=L+2) (fun i hi=>((Sz.int (hv.ok i hi).co).mul (hx i)).mono (by omega))
theorem Optimal_any (w:World) (pv xv yv:Value) (p:ProgV) (x y:List Rat) (L T:Nat) (hp:IsPrg w pv p) (hx:Rats w xv x L) (hy:Rats w yv y L) (hs:Small p T L) :
  Calls Tryz.prog 33 #[pv,xv,yv] w (BoolPost w (optB p x y)):=by
 have h1:=hs.room.one
 obtain ⟨r1,r2,r3,r4,r5,r6,r7,r8,r9⟩:=hs.room.all
 have HP:=bH hp
 have HFe:=bH (fun W (hW:XF w W)=>feasible_any W _ _ p x L T (HP.out.keep hW) (hx.keep hW) hs)
 have HBo:=bH (fun W (hW:XF w W)=>Bound_any W _ _ p y L T (HP.out.keep hW) (hy.keep hW) hs)
 have HCos:=bH (fun W (hW:XF w W)=>Cost_any W _ _ p x L (HP.out.keep hW) (hx.keep hW) h1 r7)
 have HQ:=bH (show optB p x y=(feasB p x && decide (boundQ p y=some (costQ p x))) from rfl)
 have HBz:=bH (fun q hq=>boundQ_sz hp (hy.sz h1) hs (q:=q) hq)
 obtain ⟨vv,rv,rfl,hv,hr⟩:=hp
 have hcz:=costQ_sz hv (hx.sz h1)
 have HCa:=bH (fun W u u' q (hu:IsRat W u q) (hq:boundQ p y=some q) (hu':IsRat W u' (costQ p x))=>rcmp_any W u u' q _ 4100000 (hu.reads ((HBz.out q hq).mono (by omega))) (hu'.reads (hcz.mono (by omega))) (by omega) (by omega))
 clear hv hr hx hy HP hs r1 r2 r3 r4 r5 r6 r7 r8 r9 h1 hcz HBz
 generalize boundQ p y=bq at *
 generalize costQ p x=cq at *
 have HB:=bH (bI (blk_alloc_at w (.cells #[vv,rv] 25)) ((Ext.refl (fun _=>False) w).alloc (.cells #[vv,rv] 25)))
 go_enter Tryz.func33,Tryz.ntmps33
 go_upto_region 1 with fail
 generalize hw1:w.alloc (.cells #[vv,rv] 25)=w1 at *
 clear hw1
 obtain ⟨pb,hpb⟩:∃ pb,w.heap.size=pb:=⟨_,rfl⟩
 rw [hpb] at HB ⊢
 clear hpb
 have z0:=cellq HB.out.1 0 rfl
 have z1:=cellq HB.out.1 1 rfl
 go_wp2_with fail
 refine (HFe.out w1 HB.out.2).mono ?_
 rintro r2 w2 ⟨rfl,hx2⟩
 have HX2:=bH (bI (blk_keep HB.out.1 hx2) (HB.out.2.trans hx2))
 clear hx2 z0 z1 HB
 cases hfb:feasB p x with
 | false =>
  rw [hfb] at HQ
  clear hfb
  go_wp2
  go_ret
  exact ⟨ret_bool (by rw [HQ.out]; rfl),HX2.out.2⟩
 | true =>
  rw [hfb] at HQ
  clear hfb
  have y0:=cellq HX2.out.1 0 rfl
  have y1:=cellq HX2.out.1 1 rfl
  go_wp2_with fail
  refine (HBo.out w2 HX2.out.2).mono ?_
  intro r3 w3 hop
  obtain ⟨ng,a1,k1,c1,a2,k2,c2,rfl,h3,hx3⟩:=hop.open
  have hxa:=hx3.alloc (.cells #[.bool ng,.slice a1 k1 c1,.slice a2 k2 c2] 31)
  have HB4:=bH (bI (blk_keep HX2.out.1 hxa) (bI (boxR_new (W:=w3) rfl ng a1 k1 c1 a2 k2 c2) (bI (h3.keep ((Ext.refl (fun _=>False) w3).alloc (.cells #[.bool ng,.slice a1 k1 c1,.slice a2 k2 c2] 31))) (HX2.out.2.trans hxa))))
  clear h3 hx3 hxa hop y0 y1 HX2
  go_upto_region 4 with fail
  generalize hw4:w3.alloc (.cells #[.bool ng,.slice a1 k1 c1,.slice a2 k2 c2] 31)=w4 at *
  clear hw4
  obtain ⟨bb,hbb⟩:∃ bb,w3.heap.size=bb:=⟨_,rfl⟩
  rw [hbb] at HB4 ⊢
  clear hbb
  cases bq with
  | none =>
   rw [show (none:Option Rat).isSome=false from rfl]
   have hS:S0 w4:=trivial
   refine wp_region_held_drew (S:=S0) (by kernel_rfl) (trivial) (fun hHeld=>?_)
   refine ht 0 (h:=?_)
   (try go_frame)
   refine ht 1 (h:=?_)
   (try go_frame)
   refine held_skip 2 rfl (by kernel_rfl) (by kernel_rfl) (by kernel_rfl) (fun _ _ _ h=>h) (by rfl) (by assumption) ?_
   (try go_frame)
   refine held_skip 3 rfl (by kernel_rfl) (by kernel_rfl) (by kernel_rfl) (fun _ _ _ h=>h) (by rfl) (by assumption) ?_
   (try go_frame)
   refine held_skip 4 rfl (by kernel_rfl) (by kernel_rfl) (by kernel_rfl) (fun _ _ _ h=>h) (by rfl) (by assumption) ?_
   (try go_frame)
   refine held_skip 5 rfl (by kernel_rfl) (by kernel_rfl) (by kernel_rfl) (fun _ _ _ h=>h) (by rfl) (by assumption) ?_
   (try go_frame)
   refine held_skip 6 rfl (by kernel_rfl) (by kernel_rfl) (by kernel_rfl) (fun _ _ _ h=>h) (by rfl) (by assumption) ?_
   (try go_frame)
   refine held_skip 7 rfl (by kernel_rfl) (by kernel_rfl) (by kernel_rfl) (fun _ _ _ h=>h) (by rfl) (by assumption) ?_
   (try go_frame)
   refine ht 8 (h:=?_)
   (try go_frame)
   refine ht 9 (h:=?_)
   (try go_frame)
   refine wpAnyH_done (by kernel_rfl) ?_ _
   go_wp2
   go_ret
   exact ⟨ret_bool (by rw [HQ.out]; rfl),HB4.out.2.2.2.drew⟩
  | some q =>
   rw [show (some q:Option Rat).isSome=true from rfl]
   have HCo:=bH (fun W (hW:XF w4 W)=>HCos.out W (HB4.out.2.2.2.trans hW))
   have HCm:=bH (fun W u (hW:XF w4 W) hu=>HCa.out W _ u q (HB4.out.2.2.1.keep hW) rfl hu)
   obtain ⟨x0,x1,x2,-⟩:=HB4.out.2.1.facts
   have hS:S5 pb pb bb bb bb 0 1 0 1 2 vv rv (.bool ng) (.slice a1 k1 c1) (.slice a2 k2 c2) w4:=⟨cellq HB4.out.1 0 rfl,cellq HB4.out.1 1 rfl,x0,x1,x2⟩
   have hxw:=(Ext.refl (fun _=>False) w4)
   have HR:Hid (optB p x y=decide ((q - cq).num.sign=0)):=bH (by
    rw [HQ.out]
    show decide (some q=some cq)=_
    exact decide_eq_decide.2 ⟨fun h=>(sign_zero _).2 (by rw [Option.some.inj h]; grind),fun h=>by have:=(sign_zero _).1 h; congr 1; grind⟩)
   clear x0 x1 x2 HQ
   generalize (q - cq).num.sign=sg at *
   refine wp_region_held_drew (S:=(S5 pb pb bb bb bb 0 1 0 1 2 vv rv (.bool ng) (.slice a1 k1 c1) (.slice a2 k2 c2))) (by kernel_rfl) (hS.drew) (fun hHeld=>?_)
   refine ht 0 (h:=?_)
   (try go_frame)
   refine ht 1 (h:=?_)
   (try go_frame)
   refine ht 2 (h:=?_)
   (try go_frame)
   refine ht 3 (h:=?_)
   (try go_frame)
   refine ht 4 (h:=?_)
   (try go_frame)
   refine held_step 5 rfl (by kernel_rfl) (fun K hK=>?_)
   (go_simp; go_at_call 54; (with_reducible refine (HCo.out _ hxw.drew).mono ?_); rintro q1 w11 ⟨v11,rfl,h11,hx11⟩; have hX1:=(Ext.refl (fun _=>False) w4).drew.trans hx11; have hK1:=hS.keep hX1; have hC1:=HCm.out w11 _ hX1 h11; obtain ⟨n11,a11,l11,c11,a12,l12,c12,rfl⟩:=h11.shape)
   refine hK.out _ _ (hK1) (fun hHeld=>?_)
   clear hK K
   (try go_frame)
   refine held_step 6 rfl (by kernel_rfl) (fun K hK=>?_)
   (go_simp; go_at_call 53; (with_reducible refine hC1.mono ?_); rintro q2 w12 ⟨rfl,hx12⟩; have hX2:=hX1.trans hx12; have hK2:=hS.keep hX2)
   refine hK.out _ _ (hK2) (fun hHeld=>?_)
   clear hK K
   (try go_frame)
   refine ht 7 (h:=?_)
   (try go_frame)
   refine ht 8 (h:=?_)
   (try go_frame)
   refine ht 9 (h:=?_)
   (try go_frame)
   refine wpAnyH_done (by kernel_rfl) ?_ _
   have HXX:=bH (HB4.out.2.2.2.trans hX2)
   clear hX1 hX2 hK1 hK2 hS hHeld h11 hx11 hx12 hC1 hxw
   by_cases hsg:sg=0
   ·have hsg':(sg == 0)=true:=by simpa using hsg
    have HSG:=bH hsg
    subst hsg
    go_wp2
    go_ret
    exact ⟨ret_bool (by rw [HR.out]; rfl),HXX.out⟩
   ·have hsg':(sg == 0)=false:=by simpa using hsg
    go_wp2
    go_ret
    exact ⟨ret_bool (by rw [HR.out,decide_eq_false hsg] <;> exact hsg'),HXX.out⟩
def rayI (p:ProgV) (z:List Rat) (i:Nat):Bool:=!decide (atQ z i<0) && (!decide (0<atQ z i) || (p.v i).op)
def zeroI (p:ProgV) (z:List Rat) (i:Nat):Bool:=kindB (p.r i).kind (dotQ (p.r i).terms (clipQ p z)) 0
theorem rayI_sign (p:ProgV) (z:List Rat) (i:Nat):rayI p z i=(!decide ((atQ z i).num.sign<0) && (!decide (0<(atQ z i).num.sign) || (p.v i).op)):=by
 unfold rayI
 rw [show decide (atQ z i<0)=decide ((atQ z i).num.sign<0) from decide_eq_decide.2 (sign_lt _).symm,show decide (0<atQ z i)=decide (0<(atQ z i).num.sign) from decide_eq_decide.2 (sign_gt _).symm]
theorem kind_zero {k:Int} {d:Rat}:kindB k d 0=if k=0 then !decide (0<d.num.sign) else if k=1 then !decide (d.num.sign<0) else decide (d.num.sign=0):=by
 rw [kind_sign,show d - 0=d from by grind]
theorem Unbounded_any (w:World) (pv xv zv:Value) (p:ProgV) (x z:List Rat) (L T:Nat) (hp:IsPrg w pv p) (hx:Rats w xv x L) (hz:Rats w zv z L) (hs:Small p T L) :
  Calls Tryz.prog 27 #[pv,xv,zv] w (BoolPost w (unbB p x z)):=by
 have h1:=hs.room.one
 obtain ⟨r1,r2,r3,r4,r5,r6,r7,r8,r9⟩:=hs.room.all
 have HP:=bH hp
 have HFe:=bH (fun W (hW:XF w W)=>feasible_any W _ _ p x L T (HP.out.keep hW) (hx.keep hW) hs)
 have HCos:=bH (fun W (hW:XF w W)=>Cost_any W _ _ p z L (HP.out.keep hW) (hz.keep hW) h1 r7)
 have HQ:=bH (show unbB p x z=(feasB p x && decide (costQ p z<0) && allTo p.vars.length (rayI p z) && allTo p.rows.length (zeroI p z)) from rfl)
 obtain ⟨vv,rv,rfl,hv,hr⟩:=hp
 obtain ⟨vo,vc,rfl,-,hvn,-⟩:=hv.shape
 obtain ⟨ro,rc,rfl,-,hrn,-⟩:=hr.shape
 obtain ⟨zo,zc,rfl,hzo,hzn,hzc⟩:=hz.shape
 have hzc63:zc<=9223372036854775807:=by
  obtain ⟨_,_,⟨_,_,e,_,h,_⟩,_⟩:=hz
  have e3:=(Value.slice.inj e).2.2
  unfold maxLen at h; omega
 have hcz:=costQ_sz hv (hz.sz h1)
 have HG:=bH (fun W u (hu:IsRat W u (costQ p z))=>rsign_any W u _ (1+p.vars.length*(L+3)) (hu.reads hcz) (by omega))
 have HGz:=bH (fun W u q (hu:Rrat W u q L)=>rsign_any W u q L hu (by omega))
 have HAt:=bH (fun W (hW:XF w W) (i:Nat)=>dat_any W _ z L (hz.keep hW) i (by omega))
 have hcl:∀ i:Int,Sz (atQ (clipQ p z) i) L:=fun i=>by
  unfold clipQ
  by_cases h:p.vars.length<=z.length
  ·exact (hz.take p.vars.length h).sz h1 i
  ·rw [List.take_of_length_le (by omega)]; exact hz.sz h1 i
 have HDz:=bH (fun i hi=>dot_sz (x:=clipQ p z) (L:=L) (hr.term_ok hi) hcl (hs.terms i hi))
 have HT:=bH hs.terms
 have HTk:=bH (fun k hk=>hz.take k hk)
 have HV:=bH (bI hv hr)
 have HKind:=bH (fun (hvb:validB p=true) i hi=>row_kind (valid_row hvb (i:=i) hi))
 clear hv hr hx hz HP hs r1 r2 r3 r4 r5 r7 r9 hcz hcl
 obtain ⟨n,hn'⟩:∃ n,p.vars.length=n:=⟨_,rfl⟩
 have HN:=bH hn'
 rw [hn'] at hvn HV HFe HCos HQ ⊢
 clear hn'
 obtain ⟨m,hm'⟩:∃ m,p.rows.length=m:=⟨_,rfl⟩
 have HM:=bH hm'
 rw [hm'] at hrn HV HFe HCos HQ HDz HT HKind ⊢
 clear hm'
 generalize hzl:z.length=zn at *
 have HZL:=bH hzl
 clear hzl
 have HB:=bH (bI (blk_alloc_at w (.cells #[.slice vo n vc,.slice ro m rc] 25)) ((Ext.refl (fun _=>False) w).alloc (.cells #[.slice vo n vc,.slice ro m rc] 25)))
 go_enter Tryz.func27,Tryz.ntmps27
 go_upto_region 1 with fail
 generalize hw1:w.alloc (.cells #[.slice vo n vc,.slice ro m rc] 25)=w1 at *
 clear hw1
 obtain ⟨pb,hpb⟩:∃ pb,w.heap.size=pb:=⟨_,rfl⟩
 rw [hpb] at HB ⊢
 clear hpb
 have z0:=cellq HB.out.1 0 rfl
 have z1:=cellq HB.out.1 1 rfl
 go_wp2_with fail
 refine (HFe.out w1 HB.out.2).mono ?_
 rintro r2 w2 ⟨rfl,hx2⟩
 have HX2:=bH (bI (blk_keep HB.out.1 hx2) (HB.out.2.trans hx2))
 clear hx2 z0 z1 HB HFe
 cases hfb:feasB p x with
 | false =>
  rw [hfb] at HQ
  clear hfb
  go_wp2
  go_ret
  exact ⟨ret_bool (by rw [HQ.out]; rfl),HX2.out.2⟩
 | true =>
  have HK:=bH (fun i hi=>HKind.out (feas_parts hfb).1 i hi)
  rw [hfb] at HQ
  clear hfb HKind
  have y0:=cellq HX2.out.1 0 rfl
  have y1:=cellq HX2.out.1 1 rfl
  go_wp2_with fail
  refine (HCos.out w2 HX2.out.2).mono ?_
  rintro r3 w3 ⟨v3,rfl,h3,hx3⟩
  have HG3:=bH (HG.out w3 v3 h3)
  have HX3:=bH hx3
  clear h3 hx3 HG HCos y0 y1
  go_wp2_with fail
  refine HG3.out.mono ?_
  rintro r4 w4 ⟨rfl,hx4⟩
  have hx24:=HX3.out.trans hx4
  have HX4:=bH (bI (blk_keep HX2.out.1 hx24) (HX2.out.2.trans hx24))
  have HC:Hid (decide (costQ p z<0)=decide ((costQ p z).num.sign<0)):=bH (decide_eq_decide.2 (sign_lt _).symm)
  clear hx4 hx24 HX3 HX2 HG3
  rw [HC.out] at HQ
  clear HC
  generalize (costQ p z).num.sign=cs at *
  by_cases hcs:cs<0
  ·have HQ2:Hid (unbB p x z=(allTo n (rayI p z) && allTo m (zeroI p z))):=bH (by rw [HQ.out,decide_eq_true hcs]; simp)
   clear HQ
   have x0:=cellq HX4.out.1 0 rfl
   go_wp2_with fail
   clear hcs
   go_loopg [27] n (fun gg v27 wr=>∃ i:Nat,i<=n/\gg=n - i/\v27=.int .i64 i/\allTo i (rayI p z)=true/\XF w4 wr)
   case atStart=>exact ⟨0,Nat.zero_le _,rfl,rfl,rfl,Ext.refl _ _⟩
   case round =>
    clear x0
    obtain ⟨i,hi,rfl,rfl,hall,hx⟩:=hrel
    have HX:=bH (bI hall hx)
    clear hall hx
    by_cases hin:i<n
    ·have i0:(i:Int)<(n:Int):=by omega
     obtain ⟨b,off,rfl,-,e0,e1,e2,e3,e4,-⟩:=(HV.out.1.keep (HX4.out.2.trans HX.out.2)).atp i (by rw [HN.out]; exact hin)
     have HBV:=bH (bI (BoxV.new wr (p.v i)) ((Ext.refl (fun _=>False) wr).alloc (.cells #[.int .i64 (p.v i).lo,.int .i64 (p.v i).up,.bool (p.v i).op,.bool (p.v i).ig,.int .i64 (p.v i).co] 63)))
     have HR:=bH (rayI_sign p z i)
     go_upto_region 6 with fail
     generalize hw5:wr.alloc (.cells #[.int .i64 (p.v i).lo,.int .i64 (p.v i).up,.bool (p.v i).op,.bool (p.v i).ig,.int .i64 (p.v i).co] 63)=w5 at *
     clear hw5 e0 e1 e2 e3 e4
     obtain ⟨vb,hvb⟩:∃ vb,wr.heap.size=vb:=⟨_,rfl⟩
     rw [hvb] at HBV ⊢
     clear hvb
     have HE:=bH ((HX4.out.2.trans HX.out.2).trans HBV.out.2)
     go_wp2_with fail
     refine (HAt.out w5 HE.out i).mono ?_
     rintro r6 w6 ⟨v6,rfl,h6,hx6⟩
     have HG6:=bH (HGz.out w6 v6 _ h6)
     have HX6:=bH hx6
     clear h6 hx6
     go_wp2_with fail
     refine HG6.out.mono ?_
     rintro r7 w7 ⟨rfl,hx7⟩
     have hx57:=HX6.out.trans hx7
     have f2:=(HBV.out.1.keep hx57).facts.2.2.1
     have HE7:=bH (HE.out.trans hx57)
     have HE4:=bH ((HX.out.2.trans HBV.out.2).trans hx57)
     clear hx7 hx57 HX6 HG6 HBV HE
     generalize (atQ z i).num.sign=sg at *
     generalize (p.v i).op=o at *
     have hcase:sg<0∨(¬ sg<0/\0<sg/\o=false)∨(¬ sg<0/\0<sg/\o=true)∨(¬ sg<0/\¬ 0<sg):=by cases o <;> simp <;> omega
     rcases hcase with hs | ⟨hs,hs2,rfl⟩ | ⟨hs,hs2,rfl⟩ | ⟨hs,hs2⟩
     ·go_wp2
      go_ret
      exact ⟨ret_bool (by rw [HQ2.out,allTo_false (i:=i) hin (by rw [HR.out]; simp [hs])]; rfl),HE7.out⟩
     ·go_wp2
      go_ret
      exact ⟨ret_bool (by rw [HQ2.out,allTo_false (i:=i) hin (by rw [HR.out]; simp [hs2])]; rfl),HE7.out⟩
     ·go_wp2
      go_roundg (n - (i+1))
      case measure=>omega
      case rel=>exact ⟨i+1,by omega,rfl,by go_num,allTo_next HX.out.1 (by rw [HR.out]; simp [hs]),HE4.out⟩
     ·go_wp2
      go_roundg (n - (i+1))
      case measure=>omega
      case rel=>exact ⟨i+1,by omega,rfl,by go_num,allTo_next HX.out.1 (by rw [HR.out]; simp [hs,hs2]),HE4.out⟩
    ·obtain rfl:i=n:=by omega
     have HQ3:Hid (unbB p x z=allTo m (zeroI p z)):=bH (by rw [HQ2.out,HX.out.1]; rfl)
     have HB5:=bH (bI (blk_keep HX4.out.1 HX.out.2) (HX4.out.2.trans HX.out.2))
     clear HQ2 HX HX4 hin
     have x0:=cellq HB5.out.1 0 rfl
     have x1:=cellq HB5.out.1 1 rfl
     go_upto_region 10 with fail
     go_cut [2] (fun v2 wx=>Rats w v2 (clipQ p z) L/\wx=wr)
     case first =>
      have HCk:Hid (clipQ p z=z.take i):=bH (by unfold clipQ; rw [HN.out])
      cases zo with
      | none =>
       have hc0:zc=0:=hzo rfl
       subst hc0
       obtain rfl:zn=0:=by omega
       clear hzo
       go_wp2
       all_goals
        go_meet
        refine ⟨?_,rfl⟩
        rw [HCk.out,List.take_of_length_le (by rw [HZL.out]; omega),<- List.take_of_length_le (i:=0) (l:=z) (by rw [HZL.out]; exact Nat.le_refl _)]
        exact HTk.out 0 (Nat.le_refl _)
      | some a =>
       clear hzo
       by_cases h:i<=zn
       ·have h':(i:Int)<=(zn:Int):=by omega
        have hm:min (zn:Int) (i:Int)=(i:Int):=by omega
        go_wp2
        all_goals
         go_meet
         refine ⟨?_,rfl⟩
         rw [HCk.out]
         exact HTk.out i h
       ·have h':(zn:Int)<(i:Int):=by omega
        have hm:min (zn:Int) (i:Int)=(zn:Int):=by omega
        go_wp2
        all_goals
         go_meet
         refine ⟨?_,rfl⟩
         rw [HCk.out,List.take_of_length_le (by rw [HZL.out]; omega),<- List.take_of_length_le (i:=zn) (l:=z) (by rw [HZL.out]; exact Nat.le_refl _)]
         exact HTk.out zn (Nat.le_refl _)
     case rest =>
      obtain ⟨hcl,rfl⟩:=hcut
      obtain ⟨co,cc,rfl,-,-,-⟩:=hcl.shape
      have HCl:=bH hcl
      clear hcl
      have HD:=bH (fun W (hW:XF w W) i (hi:i<m) ta tc (htm:Tms w (.slice ta (p.r i).terms.length tc) (p.r i).terms)=>Dot_any W _ _ _ (clipQ p z) L (htm.keep hW) (HCl.out.keep hW) h1 (by
       have:=Nat.mul_le_mul_right (L+3) (HT.out i hi)
       omega))
      clear HTk
      generalize (clipQ p z).length=cn at *
      go_wp2_with fail
      clear x0 x1
      go_loopg [59] m (fun gg v59 wq=>∃ k:Nat,k<=m/\gg=m - k/\v59=.int .i64 k/\allTo k (zeroI p z)=true/\XF w wq)
      case atStart=>exact ⟨0,Nat.zero_le _,rfl,rfl,rfl,HB5.out.2⟩
      case round =>
       obtain ⟨k,hk,rfl,rfl,hall,hx⟩:=hrel
       have HX:=bH (bI hall hx)
       clear hall hx
       by_cases hkm:k<m
       ·have k0:(k:Int)<(m:Int):=by omega
        obtain ⟨b,off,ta,tc,rfl,-,e0,e1,e2,e3,e4,-,htm⟩:=HV.out.2.atp k (by rw [HM.out]; exact hkm)
        replace e0:=cell_keep e0 HX.out.2
        replace e1:=cell_keep e1 HX.out.2
        replace e2:=cell_keep e2 HX.out.2
        replace e3:=cell_keep e3 HX.out.2
        replace e4:=cell_keep e4 HX.out.2
        have HDk:=bH (fun W hW=>HD.out W hW k hkm ta tc htm)
        have HDs:=bH (HDz.out k hkm)
        have HKk:=bH (HK.out k hkm)
        have HR0:=bH (show zeroI p z k=_ from kind_zero)
        clear htm
        obtain ⟨tl,htl⟩:∃ tl,(p.r k).terms.length=tl:=⟨_,rfl⟩
        rw [htl] at e3 HDk
        clear htl
        obtain ⟨D,hD⟩:∃ D,dotQ (p.r k).terms (clipQ p z)=D:=⟨_,rfl⟩
        rw [hD] at HDk HDs HR0
        clear hD
        obtain ⟨kd,hkd⟩:∃ kd,(p.r k).kind=kd:=⟨_,rfl⟩
        rw [hkd] at e2 HR0 HKk
        clear hkd
        generalize (p.r k).name=nm at *
        generalize (p.r k).group=gr at *
        generalize (p.r k).bound=bd at *
        have HB6:=bH (bI (blk_alloc_at wr (.cells #[.string nm,.int .i64 gr,.int .i64 kd,.slice ta tl tc,.int .i64 bd] 58)) ((Ext.refl (fun _=>False) wr).alloc (.cells #[.string nm,.int .i64 gr,.int .i64 kd,.slice ta tl tc,.int .i64 bd] 58)))
        go_upto_region 14 with fail
        generalize hw6:wr.alloc (.cells #[.string nm,.int .i64 gr,.int .i64 kd,.slice ta tl tc,.int .i64 bd] 58)=w6 at *
        clear hw6 e0 e1 e2 e3 e4
        obtain ⟨rb,hrb⟩:∃ rb,wr.heap.size=rb:=⟨_,rfl⟩
        rw [hrb] at HB6 ⊢
        clear hrb
        have t3:=cellq HB6.out.1 3 rfl
        go_wp2_with fail
        refine (HDk.out w6 (HX.out.2.trans HB6.out.2)).mono ?_
        rintro r7 w7 ⟨v7,rfl,h7,hx7⟩
        have HG7:=bH (rsign_any w7 v7 D (1+T*(L+3)) (h7.reads HDs.out) (by omega))
        have HX7:=bH hx7
        clear h7 hx7 t3 HDk HDs
        go_wp2_with fail
        refine HG7.out.mono ?_
        rintro r8 w8 ⟨rfl,hx8⟩
        have hx68:=HX7.out.trans hx8
        have t2:=cell_keep (cellq HB6.out.1 2 rfl) hx68
        have HE8:=bH ((HX.out.2.trans HB6.out.2).trans hx68)
        clear hx8 hx68 HX7 HG7 HB6
        generalize D.num.sign=sg at *
        have hkk:=HKk.out
        have hcase:(kd=0/\0<sg)∨(kd=0/\¬ 0<sg)∨(kd=1/\sg<0)∨(kd=1/\¬ sg<0)∨(kd=2/\¬ sg=0)∨(kd=2/\sg=0):=by omega
        clear hkk HKk
        rcases hcase with ⟨rfl,hs⟩ | ⟨rfl,hs⟩ | ⟨rfl,hs⟩ | ⟨rfl,hs⟩ | ⟨rfl,hs⟩ | ⟨rfl,hs⟩
        ·go_wp2
         go_ret
         exact ⟨ret_bool (by rw [HQ3.out,allTo_false (i:=k) hkm (by rw [HR0.out]; simp [hs])]),HE8.out⟩
        ·go_wp2
         go_roundg (m - (k+1))
         case measure=>omega
         case rel=>exact ⟨k+1,by omega,rfl,by go_num,allTo_next HX.out.1 (by rw [HR0.out]; simp [hs]),HE8.out⟩
        ·go_wp2
         go_ret
         exact ⟨ret_bool (by rw [HQ3.out,allTo_false (i:=k) hkm (by rw [HR0.out]; simp [hs])]),HE8.out⟩
        ·go_wp2
         go_roundg (m - (k+1))
         case measure=>omega
         case rel=>exact ⟨k+1,by omega,rfl,by go_num,allTo_next HX.out.1 (by rw [HR0.out]; simp [hs]),HE8.out⟩
        ·have s1:(sg == 0)=false:=by simpa using hs
         have s2:(sg != 0)=true:=by simpa using hs
         go_wp2
         go_ret
         exact ⟨ret_bool (by rw [HQ3.out,allTo_false (i:=k) hkm (by rw [HR0.out]; simp [hs])]),HE8.out⟩
        ·have HS0:=bH hs
         subst hs
         go_wp2
         go_roundg (m - (k+1))
         case measure=>omega
         case rel=>exact ⟨k+1,by omega,rfl,by go_num,allTo_next HX.out.1 (by rw [HR0.out]; simp),HE8.out⟩
       ·obtain rfl:k=m:=by omega
        go_wp2
        go_ret
        exact ⟨ret_bool (by rw [HQ3.out]; exact HX.out.1.symm),HX.out.2⟩
  ·go_wp2
   go_ret
   exact ⟨ret_bool (by rw [HQ.out,decide_eq_false (p:=cs<0) (by omega)]; simp),HX4.out.2⟩
section
variable {α:Type}
def iget:List (Int × α)->Int->Option α
 | [],_=>none
 | (k,v) :: r,s=>if k=s then some v else iget r s
def iput:List (Int × α)->Int->α->List (Int × α)
 | [],s,v=>[(s,v)]
 | (k,x) :: r,s,v=>if k=s then (k,v) :: r else (k,x) :: iput r s v
theorem iget_none {l:List (Int × α)} {s:Int} (h:iget l s=none):∀ p ∈ l,p.1≠s:=by
 induction l with
 | nil=>intro p hp; cases hp
 | cons q r ih =>
  obtain ⟨a,b⟩:=q
  simp only [iget] at h
  split at h
  ·cases h
  ·rename_i hn
   intro p hp
   rcases List.mem_cons.1 hp with rfl | hp
   ·exact hn
   ·exact ih h p hp
end
def IntMap (es:Array MapEntry) (l:List (Int × Value)):Prop :=
 es.toList.map (fun e=>(e.key,e.val))=l.map fun p=>(Value.int .i64 p.1,p.2)
theorem findNow_int (s:Int):∀ (es:List MapEntry) (l:List (Int × Value)) (i:Nat),es.map (fun e=>(e.key,e.val))=(l.map fun p=>(Value.int .i64 p.1,p.2)) ->
  (iget l s=none/\Instr.findNow (.int .i64) (.int .i64 s) es i=some none/\∀ v,iput l s v=l++[(s,v)]) ∨
  ∃ j e v,iget l s=some v/\Instr.findNow (.int .i64) (.int .i64 s) es i=some (some (i+j,v))/\es[j]?=some e/\e.key=.int .i64 s /\
   ∀ u,(es.modify j fun e=>{ e with key:=.int .i64 s,val:=u }).map (fun e=>(e.key,e.val))=(iput l s u).map fun p=>(Value.int .i64 p.1,p.2)
 | [],[],i,_=>.inl ⟨rfl,rfl,fun _=>rfl⟩
 | [],_ :: _,_,h=>by simp at h
 | _ :: _,[],_,h=>by simp at h
 | e :: es,(k,v) :: l,i,h=>by
  simp only [List.map_cons,List.cons.injEq,Prod.mk.injEq] at h
  obtain ⟨⟨hk,hv⟩,hr⟩:=h
  by_cases hs:k=s
  ·subst hs
   refine .inr ⟨0,e,v,by simp [iget],by simp [Instr.findNow,Instr.sameNow,hk,hv],rfl,hk,fun u=>?_⟩
   simp [iput,hr]
  ·have hne:(s == k)=false:=by
    cases hq:s == k
    ·rfl
    ·exact absurd (eq_of_beq hq).symm hs
   rcases findNow_int s es l (i+1) hr with ⟨h1,h2,h3⟩ | ⟨j,e',v',h1,h2,h3,h4,h5⟩
   ·exact .inl ⟨by simp [iget,hs,h1],by simp [Instr.findNow,Instr.sameNow,hk,hne,h2],fun v=>by simp [iput,hs,h3]⟩
   ·refine .inr ⟨j+1,e',v',by simp [iget,hs,h1],by simp [Instr.findNow,Instr.sameNow,hk,hne,h2]; omega,by simpa using h3,h4,fun u=>?_⟩
    have:=h5 u
    simp [iput,hs,hk,hv,this]
section
variable {P:Program} {t k e:TypeId} {w:World} {b:Nat} {es:Array MapEntry} {clock:Nat} {l:List (Int × Value)}
theorem run_lookup_int (ht:P.underlying t=some (.map k e)) (hk:P.underlying k=some (.int .i64)) (hb:blk w b=some (.map es clock)) (hl:IntMap es l)
  {z:Value} (hz:(zeroValue e).run P w=.ok z w) (s:Int) (ok:Bool) :
  (Instr.lookup t (.map (some b)) (.int .i64 s) ok).run P w=.ok (if ok then .tuple #[(iget l s).getD z,.bool (iget l s).isSome] else (iget l s).getD z) w:=by
 rcases findNow_int s es.toList l 0 hl with ⟨h1,h2,_⟩ | ⟨j,e',v,h1,h2,_⟩
 ·simp [Instr.lookup,run_underlying ht,MapKept.run_getObj_map hb,MapKept.run_checkKey hk (show IsKey (.int .i64) (.int .i64 s) from rfl),MapKept.run_findKey hk h2,Result.andThen,hz,h1]
 ·simp [Instr.lookup,run_underlying ht,MapKept.run_getObj_map hb,MapKept.run_checkKey hk (show IsKey (.int .i64) (.int .i64 s) from rfl),MapKept.run_findKey hk h2,Result.andThen,h1]
theorem run_update_int (ht:P.underlying t=some (.map k e)) (hk:P.underlying k=some (.int .i64)) (hl:IntMap es l) (hst:Stamped es clock) (s:Int) (u:Value) :
  ∃ es' clock',(∀ w:World,blk w b=some (.map es clock)->(Instr.mapUpdate t (.map (some b)) (.int .i64 s) u).run P w=.ok () (setBlock w b (.map es' clock')))/\IntMap es' (iput l s u)/\Stamped es' clock':=by
 rcases findNow_int s es.toList l 0 hl with ⟨h1,h2,h3⟩ | ⟨j,e',v,h1,h2,h4,h5,h6⟩
 ·refine ⟨es.push { key:=.int .i64 s,val:=u,born:=clock },clock+1,fun w hb=>?_,?_,?_⟩
  ·simp [Instr.mapUpdate,run_underlying ht,MapKept.run_getObj_map hb,MapKept.run_checkKey hk (show IsKey (.int .i64) (.int .i64 s) from rfl),MapKept.run_findKey hk h2,Result.andThen,MapKept.run_setObj_map _ hb,ChangeMaps.setBlock]
  ·unfold IntMap at *
   simp [hl,h3]
  ·refine stamped_push hst (fun x hx e=>?_)
   have:(x.key,x.val) ∈ es.toList.map (fun e=>(e.key,e.val)):=List.mem_map.2 ⟨x,hx,rfl⟩
   rw [hl] at this
   obtain ⟨p,hp,hpe⟩:=List.mem_map.1 this
   refine iget_none h1 p hp ?_
   have hk2:Value.int .i64 p.1=x.key:=congrArg Prod.fst hpe
   rw [e] at hk2
   exact (Value.int.inj hk2).2
 ·refine ⟨es.modify j fun e=>{ e with key:=.int .i64 s,val:=u },clock,fun w hb=>?_,?_,?_⟩
  ·have h4':es[j]?=some e':=by simpa using h4
   simp only [Nat.zero_add] at h2
   simp [Instr.mapUpdate,run_underlying ht,MapKept.run_getObj_map hb,MapKept.run_checkKey hk (show IsKey (.int .i64) (.int .i64 s) from rfl),MapKept.run_findKey hk h2,Result.andThen,MapKept.run_setObj_map _ hb,ChangeMaps.setBlock,h4',h5,run_keyThatStays (show IsKey (.int .i64) (.int .i64 s) from rfl)]
  ·unfold IntMap
   have:=h6 u
   rw [Array.toList_modify]
   exact this
  ·refine stamped_modify hst j _ (fun _ _=>rfl) (fun x _ hx=>?_)
   have h4':es[j]?=some e':=by simpa using h4
   rw [h4'] at hx
   cases hx
   exact h5.symm
end
abbrev S10 (b0 b1 b2 b3 b4 b5 b6 b7 b8 b9 o0 o1 o2 o3 o4 o5 o6 o7 o8 o9:Nat) (x0 x1 x2 x3 x4 x5 x6 x7 x8 x9:Value) (W:World):Prop:=W.cell? ⟨b0,o0,none⟩=some x0/\W.cell? ⟨b1,o1,none⟩=some x1/\W.cell? ⟨b2,o2,none⟩=some x2/\W.cell? ⟨b3,o3,none⟩=some x3/\W.cell? ⟨b4,o4,none⟩=some x4/\W.cell? ⟨b5,o5,none⟩=some x5/\W.cell? ⟨b6,o6,none⟩=some x6/\W.cell? ⟨b7,o7,none⟩=some x7/\W.cell? ⟨b8,o8,none⟩=some x8/\W.cell? ⟨b9,o9,none⟩=some x9
section
variable {b0 b1 b2 b3 b4 b5 b6 b7 b8 b9 o0 o1 o2 o3 o4 o5 o6 o7 o8 o9:Nat} {x0 x1 x2 x3 x4 x5 x6 x7 x8 x9:Value} {W:World}
theorem S10.drew (h:S10 b0 b1 b2 b3 b4 b5 b6 b7 b8 b9 o0 o1 o2 o3 o4 o5 o6 o7 o8 o9 x0 x1 x2 x3 x4 x5 x6 x7 x8 x9 W):S10 b0 b1 b2 b3 b4 b5 b6 b7 b8 b9 o0 o1 o2 o3 o4 o5 o6 o7 o8 o9 x0 x1 x2 x3 x4 x5 x6 x7 x8 x9 W.drew:=h
theorem S10.keep {W':World} (h:S10 b0 b1 b2 b3 b4 b5 b6 b7 b8 b9 o0 o1 o2 o3 o4 o5 o6 o7 o8 o9 x0 x1 x2 x3 x4 x5 x6 x7 x8 x9 W) (hx:XF W W'):S10 b0 b1 b2 b3 b4 b5 b6 b7 b8 b9 o0 o1 o2 o3 o4 o5 o6 o7 o8 o9 x0 x1 x2 x3 x4 x5 x6 x7 x8 x9 W':=⟨cell_keep h.1 hx,cell_keep h.2.1 hx,cell_keep h.2.2.1 hx,cell_keep h.2.2.2.1 hx,cell_keep h.2.2.2.2.1 hx,cell_keep h.2.2.2.2.2.1 hx,cell_keep h.2.2.2.2.2.2.1 hx,cell_keep h.2.2.2.2.2.2.2.1 hx,cell_keep h.2.2.2.2.2.2.2.2.1 hx,cell_keep h.2.2.2.2.2.2.2.2.2 hx⟩
end
structure OutV where
 kind:Int
 val:Rat
 pt:List Rat
 mu:List Rat
 ray:List Rat
def IsOut (w:World) (v:Value) (o:OutV) (L:Nat):Prop:=∃ neg a1 m1 c1 a2 m2 c2 pv mv rv,v=.agg #[.int .i64 o.kind,.bool neg,.slice a1 m1 c1,.slice a2 m2 c2,pv,mv,rv]/\Rrat w (.agg #[.bool neg,.slice a1 m1 c1,.slice a2 m2 c2]) o.val L/\Rats w pv o.pt L/\Rats w mv o.mu L/\Rats w rv o.ray L/\InR o.kind
theorem IsOut.keep {w w':World} {v:Value} {o:OutV} {L:Nat} (h:IsOut w v o L) (hx:XF w w'):IsOut w' v o L:=by
 obtain ⟨neg,a1,m1,c1,a2,m2,c2,pv,mv,rv,e,h1,h2,h3,h4,h5⟩:=h
 exact ⟨neg,a1,m1,c1,a2,m2,c2,pv,mv,rv,e,h1.keep hx,h2.keep hx,h3.keep hx,h4.keep hx,h5⟩
def chk1 (p:ProgV) (o:OutV):Bool:=decide (o.pt.length=p.vars.length) && decide (o.mu.length=p.rows.length) && decide (o.ray.length=0) && optB p o.pt o.mu && decide (o.val=costQ p o.pt)
def chk2 (p:ProgV) (o:OutV):Bool:=decide (o.val=0) && decide (o.pt.length+o.ray.length=0) && decide (o.mu.length=p.rows.length) && infB p o.mu
def chk3 (p:ProgV) (o:OutV):Bool:=decide (o.val=0) && decide (o.mu.length=0) && decide (o.pt.length=p.vars.length) && decide (o.ray.length=p.vars.length) && unbB p o.pt o.ray
structure Caught (w:World) (ob pb nb mb tb:Nat) (p:ProgV) (o:OutV) (L:Nat) (vv rv pv ov:Value):Prop where
 prg:IsPrg w (.agg #[vv,rv]) p
 out:IsOut w ov o L
 pb:blk w pb=some (.cells #[vv,rv] 25 (0,0))
 ob:∃ cs,ov=.agg cs/\blk w ob=some (.cells cs 34 (0,0))
 nb:blk w nb=some (.cells #[.int .i64 (p.vars.length:Int)] 3 (0,0))
 mb:blk w mb=some (.cells #[.int .i64 (p.rows.length:Int)] 3 (0,0))
 tb:blk w tb=some (.cells #[.bool (!decide (o.val=0))] 4 (0,0))
theorem check1_any (w:World) (ob pb nb mb tb:Nat) (p:ProgV) (o:OutV) (L T:Nat) (vv rv pv ov:Value) (h:Caught w ob pb nb mb tb p o L vv rv pv ov) (hs:Small p T L) :
  Calls Tryz.prog 52 #[.pointer (some ⟨ob,0,none⟩),.pointer (some ⟨nb,0,none⟩),.pointer (some ⟨mb,0,none⟩),.pointer (some ⟨pb,0,none⟩)] w (BoolPost w (chk1 p o)):=by
 have h1:=hs.room.one
 obtain ⟨r1,r2,r3,r4,r5,r6,r7,r8,r9⟩:=hs.room.all
 obtain ⟨neg,a1,m1,c1,a2,m2,c2,ptv,muv,rav,rfl,hval,hpt,hmu,hra,hk⟩:=h.out
 obtain ⟨cs,e,hob⟩:=h.ob
 cases e
 obtain ⟨po,pc,rfl,-,hpn,-⟩:=hpt.shape
 obtain ⟨mo,mc,rfl,-,hmn,-⟩:=hmu.shape
 obtain ⟨zo,zc,rfl,-,hzn,-⟩:=hra.shape
 have hS:S10 ob ob ob ob ob ob nb mb pb pb 1 2 3 4 5 6 0 0 0 1 (.bool neg) (.slice a1 m1 c1) (.slice a2 m2 c2) (.slice po o.pt.length pc) (.slice mo o.mu.length mc) (.slice zo o.ray.length zc) (.int .i64 p.vars.length) (.int .i64 p.rows.length) vv rv w :=
  ⟨cellq hob 1 rfl,cellq hob 2 rfl,cellq hob 3 rfl,cellq hob 4 rfl,cellq hob 5 rfl,cellq hob 6 rfl,cellq h.nb 0 rfl,cellq h.mb 0 rfl,cellq h.pb 0 rfl,cellq h.pb 1 rfl⟩
 have HO:=bH (fun W (hW:XF w W)=>Optimal_any W _ _ _ p o.pt o.mu L T (h.prg.keep hW) (hpt.keep hW) (hmu.keep hW) hs)
 have HC:=bH (fun W (hW:XF w W)=>Cost_any W _ _ p o.pt L (h.prg.keep hW) (hpt.keep hW) h1 r7)
 have hcz:Sz (costQ p o.pt) (1+p.vars.length*(L+3)):=by
  obtain ⟨_,_,e,hv,_⟩:=h.prg
  exact costQ_sz hv (hpt.sz h1)
 have HR:=bH (fun W u (hW:XF w W) (hu:IsRat W u (costQ p o.pt))=>rcmp_any W _ u o.val _ 4100000 ((hval.keep hW).mono (by omega)) (hu.reads (hcz.mono (by omega))) (by omega) (by omega))
 have HQ:=bH (show chk1 p o=(decide (o.pt.length=p.vars.length) && decide (o.mu.length=p.rows.length) && decide (o.ray.length=0) && optB p o.pt o.mu && decide (o.val=costQ p o.pt)) from rfl)
 clear h hval hpt hmu hra hk hob hs r1 r2 r3 r4 r5 r6 r7 r8 r9 h1 hcz
 have HZ:=bH (show decide (o.val=costQ p o.pt)=decide ((o.val - costQ p o.pt).num.sign=0) from decide_eq_decide.2 ⟨fun h=>(sign_zero _).2 (by rw [h]; grind),fun h=>by have:=(sign_zero _).1 h; grind⟩)
 rw [HZ.out] at HQ
 clear HZ
 generalize (o.val - costQ p o.pt).num.sign=sg at *
 generalize costQ p o.pt=cq at *
 generalize p.vars.length=n at *
 generalize p.rows.length=m at *
 generalize o.pt.length=pn at *
 generalize o.mu.length=mn at *
 generalize o.ray.length=zn at *
 go_enter Tryz.func52,Tryz.ntmps52
 go_upto_region 1 with fail
 by_cases e1:pn=n
 ·subst e1
  by_cases e2:mn=m
  ·subst e2
   by_cases e3:zn=0
   ·subst e3
    cases ho:optB p o.pt o.mu with
    | false =>
     rw [ho] at HO HQ
     clear ho
     refine wp_region_held_drew (S:=(S10 ob ob ob ob ob ob nb mb pb pb 1 2 3 4 5 6 0 0 0 1 (.bool neg) (.slice a1 m1 c1) (.slice a2 m2 c2) (.slice po pn pc) (.slice mo mn mc) (.slice zo 0 zc) (.int .i64 pn) (.int .i64 mn) vv rv)) (by kernel_rfl) (hS.drew) (fun hHeld=>?_)
     refine ht 0 (h:=?_)
     (try go_frame)
     refine ht 1 (h:=?_)
     (try go_frame)
     refine ht 2 (h:=?_)
     (try go_frame)
     refine ht 3 (h:=?_)
     (try go_frame)
     refine ht 4 (h:=?_)
     (try go_frame)
     refine ht 5 (h:=?_)
     (try go_frame)
     refine ht 6 (h:=?_)
     (try go_frame)
     refine ht 7 (h:=?_)
     (try go_frame)
     refine ht 8 (h:=?_)
     (try go_frame)
     refine ht 9 (h:=?_)
     (try go_frame)
     refine ht 10 (h:=?_)
     (try go_frame)
     refine ht 11 (h:=?_)
     (try go_frame)
     refine ht 12 (h:=?_)
     (try go_frame)
     refine ht 13 (h:=?_)
     (try go_frame)
     refine ht 14 (h:=?_)
     (try go_frame)
     refine ht 15 (h:=?_)
     (try go_frame)
     refine ht 16 (h:=?_)
     (try go_frame)
     refine ht 17 (h:=?_)
     (try go_frame)
     refine ht 18 (h:=?_)
     (try go_frame)
     refine ht 19 (h:=?_)
     (try go_frame)
     refine ht 20 (h:=?_)
     (try go_frame)
     refine ht 21 (h:=?_)
     (try go_frame)
     refine ht 22 (h:=?_)
     (try go_frame)
     refine ht 23 (h:=?_)
     (try go_frame)
     refine held_step 24 rfl (by kernel_rfl) (fun K hK=>?_)
     (go_simp; go_at_call 33; (with_reducible refine (HO.out _ (Ext.refl (fun _=>False) w).drew).mono ?_); rintro q1 w11 ⟨rfl,hx11⟩; have hX1:=(Ext.refl (fun _=>False) w).drew.trans hx11; have hK1:=hS.keep hX1)
     refine hK.out _ _ (hK1) (fun hHeld=>?_)
     clear hK K
     (try go_frame)
     refine ht 25 (h:=?_)
     (try go_frame)
     refine ht 26 (h:=?_)
     (try go_frame)
     refine held_skip 27 rfl (by kernel_rfl) (by kernel_rfl) (by kernel_rfl) (fun _ _ _ h=>h) (by rfl) (by assumption) ?_
     (try go_frame)
     refine held_skip 28 rfl (by kernel_rfl) (by kernel_rfl) (by kernel_rfl) (fun _ _ _ h=>h) (by rfl) (by assumption) ?_
     (try go_frame)
     refine held_skip 29 rfl (by kernel_rfl) (by kernel_rfl) (by kernel_rfl) (fun _ _ _ h=>h) (by rfl) (by assumption) ?_
     (try go_frame)
     refine held_skip 30 rfl (by kernel_rfl) (by kernel_rfl) (by kernel_rfl) (fun _ _ _ h=>h) (by rfl) (by assumption) ?_
     (try go_frame)
     refine held_skip 31 rfl (by kernel_rfl) (by kernel_rfl) (by kernel_rfl) (fun _ _ _ h=>h) (by rfl) (by assumption) ?_
     (try go_frame)
     refine held_skip 32 rfl (by kernel_rfl) (by kernel_rfl) (by kernel_rfl) (fun _ _ _ h=>h) (by rfl) (by assumption) ?_
     (try go_frame)
     refine held_skip 33 rfl (by kernel_rfl) (by kernel_rfl) (by kernel_rfl) (fun _ _ _ h=>h) (by rfl) (by assumption) ?_
     (try go_frame)
     refine held_skip 34 rfl (by kernel_rfl) (by kernel_rfl) (by kernel_rfl) (fun _ _ _ h=>h) (by rfl) (by assumption) ?_
     (try go_frame)
     refine ht 35 (h:=?_)
     (try go_frame)
     refine ht 36 (h:=?_)
     (try go_frame)
     refine wpAnyH_done (by kernel_rfl) ?_ _
     have HX:=bH hX1
     clear hX1 hx11 hK1 hS hHeld
     go_wp2
     go_ret
     exact ⟨ret_bool (by rw [HQ.out]; simp),HX.out⟩
    | true =>
     rw [ho] at HO HQ
     clear ho
     by_cases e4:sg=0
     ·have e4':(sg == 0)=true:=by simpa using e4
      refine wp_region_held_drew (S:=(S10 ob ob ob ob ob ob nb mb pb pb 1 2 3 4 5 6 0 0 0 1 (.bool neg) (.slice a1 m1 c1) (.slice a2 m2 c2) (.slice po pn pc) (.slice mo mn mc) (.slice zo 0 zc) (.int .i64 pn) (.int .i64 mn) vv rv)) (by kernel_rfl) (hS.drew) (fun hHeld=>?_)
      refine ht 0 (h:=?_)
      (try go_frame)
      refine ht 1 (h:=?_)
      (try go_frame)
      refine ht 2 (h:=?_)
      (try go_frame)
      refine ht 3 (h:=?_)
      (try go_frame)
      refine ht 4 (h:=?_)
      (try go_frame)
      refine ht 5 (h:=?_)
      (try go_frame)
      refine ht 6 (h:=?_)
      (try go_frame)
      refine ht 7 (h:=?_)
      (try go_frame)
      refine ht 8 (h:=?_)
      (try go_frame)
      refine ht 9 (h:=?_)
      (try go_frame)
      refine ht 10 (h:=?_)
      (try go_frame)
      refine ht 11 (h:=?_)
      (try go_frame)
      refine ht 12 (h:=?_)
      (try go_frame)
      refine ht 13 (h:=?_)
      (try go_frame)
      refine ht 14 (h:=?_)
      (try go_frame)
      refine ht 15 (h:=?_)
      (try go_frame)
      refine ht 16 (h:=?_)
      (try go_frame)
      refine ht 17 (h:=?_)
      (try go_frame)
      refine ht 18 (h:=?_)
      (try go_frame)
      refine ht 19 (h:=?_)
      (try go_frame)
      refine ht 20 (h:=?_)
      (try go_frame)
      refine ht 21 (h:=?_)
      (try go_frame)
      refine ht 22 (h:=?_)
      (try go_frame)
      refine ht 23 (h:=?_)
      (try go_frame)
      refine held_step 24 rfl (by kernel_rfl) (fun K hK=>?_)
      (go_simp; go_at_call 33; (with_reducible refine (HO.out _ (Ext.refl (fun _=>False) w).drew).mono ?_); rintro q1 w11 ⟨rfl,hx11⟩; have hX1:=(Ext.refl (fun _=>False) w).drew.trans hx11; have hK1:=hS.keep hX1)
      refine hK.out _ _ (hK1) (fun hHeld=>?_)
      clear hK K
      (try go_frame)
      refine ht 25 (h:=?_)
      (try go_frame)
      refine ht 26 (h:=?_)
      (try go_frame)
      refine ht 27 (h:=?_)
      (try go_frame)
      refine ht 28 (h:=?_)
      (try go_frame)
      refine ht 29 (h:=?_)
      (try go_frame)
      refine ht 30 (h:=?_)
      (try go_frame)
      refine ht 31 (h:=?_)
      (try go_frame)
      refine held_step 32 rfl (by kernel_rfl) (fun K hK=>?_)
      (go_simp; go_at_call 54; (with_reducible refine (HC.out _ hX1).mono ?_); rintro q2 w12 ⟨v12,rfl,h12,hx12⟩; have hX2:=hX1.trans hx12; have hK2:=hS.keep hX2; have hC:=HR.out w12 _ hX2 h12; obtain ⟨n12,a12,l12,c12,a12',l12',c12',rfl⟩:=h12.shape)
      refine hK.out _ _ (hK2) (fun hHeld=>?_)
      clear hK K
      (try go_frame)
      refine held_step 33 rfl (by kernel_rfl) (fun K hK=>?_)
      (go_simp; go_at_call 53; (with_reducible refine hC.mono ?_); rintro q3 w13 ⟨rfl,hx13⟩; have hX3:=hX2.trans hx13; have hK3:=hS.keep hX3)
      refine hK.out _ _ (hK3) (fun hHeld=>?_)
      clear hK K
      (try go_frame)
      refine ht 34 (h:=?_)
      (try go_frame)
      refine ht 35 (h:=?_)
      (try go_frame)
      refine ht 36 (h:=?_)
      (try go_frame)
      refine wpAnyH_done (by kernel_rfl) ?_ _
      have HX:=bH hX3
      clear hX1 hx11 hK1 hX2 hx12 hK2 hX3 hx13 hK3 h12 hC hS hHeld
      have HE:=bH e4
      go_wp2
      go_ret
      exact ⟨ret_bool (by rw [HQ.out,HE.out]; simp),HX.out⟩
     ·have e4':(sg == 0)=false:=by simpa using e4
      refine wp_region_held_drew (S:=(S10 ob ob ob ob ob ob nb mb pb pb 1 2 3 4 5 6 0 0 0 1 (.bool neg) (.slice a1 m1 c1) (.slice a2 m2 c2) (.slice po pn pc) (.slice mo mn mc) (.slice zo 0 zc) (.int .i64 pn) (.int .i64 mn) vv rv)) (by kernel_rfl) (hS.drew) (fun hHeld=>?_)
      refine ht 0 (h:=?_)
      (try go_frame)
      refine ht 1 (h:=?_)
      (try go_frame)
      refine ht 2 (h:=?_)
      (try go_frame)
      refine ht 3 (h:=?_)
      (try go_frame)
      refine ht 4 (h:=?_)
      (try go_frame)
      refine ht 5 (h:=?_)
      (try go_frame)
      refine ht 6 (h:=?_)
      (try go_frame)
      refine ht 7 (h:=?_)
      (try go_frame)
      refine ht 8 (h:=?_)
      (try go_frame)
      refine ht 9 (h:=?_)
      (try go_frame)
      refine ht 10 (h:=?_)
      (try go_frame)
      refine ht 11 (h:=?_)
      (try go_frame)
      refine ht 12 (h:=?_)
      (try go_frame)
      refine ht 13 (h:=?_)
      (try go_frame)
      refine ht 14 (h:=?_)
      (try go_frame)
      refine ht 15 (h:=?_)
      (try go_frame)
      refine ht 16 (h:=?_)
      (try go_frame)
      refine ht 17 (h:=?_)
      (try go_frame)
      refine ht 18 (h:=?_)
      (try go_frame)
      refine ht 19 (h:=?_)
      (try go_frame)
      refine ht 20 (h:=?_)
      (try go_frame)
      refine ht 21 (h:=?_)
      (try go_frame)
      refine ht 22 (h:=?_)
      (try go_frame)
      refine ht 23 (h:=?_)
      (try go_frame)
      refine held_step 24 rfl (by kernel_rfl) (fun K hK=>?_)
      (go_simp; go_at_call 33; (with_reducible refine (HO.out _ (Ext.refl (fun _=>False) w).drew).mono ?_); rintro q1 w11 ⟨rfl,hx11⟩; have hX1:=(Ext.refl (fun _=>False) w).drew.trans hx11; have hK1:=hS.keep hX1)
      refine hK.out _ _ (hK1) (fun hHeld=>?_)
      clear hK K
      (try go_frame)
      refine ht 25 (h:=?_)
      (try go_frame)
      refine ht 26 (h:=?_)
      (try go_frame)
      refine ht 27 (h:=?_)
      (try go_frame)
      refine ht 28 (h:=?_)
      (try go_frame)
      refine ht 29 (h:=?_)
      (try go_frame)
      refine ht 30 (h:=?_)
      (try go_frame)
      refine ht 31 (h:=?_)
      (try go_frame)
      refine held_step 32 rfl (by kernel_rfl) (fun K hK=>?_)
      (go_simp; go_at_call 54; (with_reducible refine (HC.out _ hX1).mono ?_); rintro q2 w12 ⟨v12,rfl,h12,hx12⟩; have hX2:=hX1.trans hx12; have hK2:=hS.keep hX2; have hC:=HR.out w12 _ hX2 h12; obtain ⟨n12,a12,l12,c12,a12',l12',c12',rfl⟩:=h12.shape)
      refine hK.out _ _ (hK2) (fun hHeld=>?_)
      clear hK K
      (try go_frame)
      refine held_step 33 rfl (by kernel_rfl) (fun K hK=>?_)
      (go_simp; go_at_call 53; (with_reducible refine hC.mono ?_); rintro q3 w13 ⟨rfl,hx13⟩; have hX3:=hX2.trans hx13; have hK3:=hS.keep hX3)
      refine hK.out _ _ (hK3) (fun hHeld=>?_)
      clear hK K
      (try go_frame)
      refine ht 34 (h:=?_)
      (try go_frame)
      refine ht 35 (h:=?_)
      (try go_frame)
      refine ht 36 (h:=?_)
      (try go_frame)
      refine wpAnyH_done (by kernel_rfl) ?_ _
      have HX:=bH hX3
      clear hX1 hx11 hK1 hX2 hx12 hK2 hX3 hx13 hK3 h12 hC hS hHeld
      go_wp2
      go_ret
      exact ⟨ret_bool (by rw [HQ.out,decide_eq_false e4]; simp),HX.out⟩
   ·have e3':((zn:Int) == 0)=false:=by simpa using e3
    refine wp_region_held_drew (S:=(S10 ob ob ob ob ob ob nb mb pb pb 1 2 3 4 5 6 0 0 0 1 (.bool neg) (.slice a1 m1 c1) (.slice a2 m2 c2) (.slice po pn pc) (.slice mo mn mc) (.slice zo zn zc) (.int .i64 pn) (.int .i64 mn) vv rv)) (by kernel_rfl) (hS.drew) (fun hHeld=>?_)
    refine ht 0 (h:=?_)
    (try go_frame)
    refine ht 1 (h:=?_)
    (try go_frame)
    refine ht 2 (h:=?_)
    (try go_frame)
    refine ht 3 (h:=?_)
    (try go_frame)
    refine ht 4 (h:=?_)
    (try go_frame)
    refine ht 5 (h:=?_)
    (try go_frame)
    refine ht 6 (h:=?_)
    (try go_frame)
    refine ht 7 (h:=?_)
    (try go_frame)
    refine ht 8 (h:=?_)
    (try go_frame)
    refine ht 9 (h:=?_)
    (try go_frame)
    refine ht 10 (h:=?_)
    (try go_frame)
    refine ht 11 (h:=?_)
    (try go_frame)
    refine ht 12 (h:=?_)
    (try go_frame)
    refine ht 13 (h:=?_)
    (try go_frame)
    refine ht 14 (h:=?_)
    (try go_frame)
    refine ht 15 (h:=?_)
    (try go_frame)
    refine ht 16 (h:=?_)
    (try go_frame)
    refine ht 17 (h:=?_)
    (try go_frame)
    refine ht 18 (h:=?_)
    (try go_frame)
    refine held_skip 19 rfl (by kernel_rfl) (by kernel_rfl) (by kernel_rfl) (fun _ _ _ h=>h) (by rfl) (by assumption) ?_
    (try go_frame)
    refine held_skip 20 rfl (by kernel_rfl) (by kernel_rfl) (by kernel_rfl) (fun _ _ _ h=>h) (by rfl) (by assumption) ?_
    (try go_frame)
    refine held_skip 21 rfl (by kernel_rfl) (by kernel_rfl) (by kernel_rfl) (fun _ _ _ h=>h) (by rfl) (by assumption) ?_
    (try go_frame)
    refine held_skip 22 rfl (by kernel_rfl) (by kernel_rfl) (by kernel_rfl) (fun _ _ _ h=>h) (by rfl) (by assumption) ?_
    (try go_frame)
    refine held_skip 23 rfl (by kernel_rfl) (by kernel_rfl) (by kernel_rfl) (fun _ _ _ h=>h) (by rfl) (by assumption) ?_
    (try go_frame)
    refine held_skip 24 rfl (by kernel_rfl) (by kernel_rfl) (by kernel_rfl) (fun _ _ _ h=>h) (by rfl) (by assumption) ?_
    (try go_frame)
    refine ht 25 (h:=?_)
    (try go_frame)
    refine ht 26 (h:=?_)
    (try go_frame)
    refine held_skip 27 rfl (by kernel_rfl) (by kernel_rfl) (by kernel_rfl) (fun _ _ _ h=>h) (by rfl) (by assumption) ?_
    (try go_frame)
    refine held_skip 28 rfl (by kernel_rfl) (by kernel_rfl) (by kernel_rfl) (fun _ _ _ h=>h) (by rfl) (by assumption) ?_
    (try go_frame)
    refine held_skip 29 rfl (by kernel_rfl) (by kernel_rfl) (by kernel_rfl) (fun _ _ _ h=>h) (by rfl) (by assumption) ?_
    (try go_frame)
    refine held_skip 30 rfl (by kernel_rfl) (by kernel_rfl) (by kernel_rfl) (fun _ _ _ h=>h) (by rfl) (by assumption) ?_
    (try go_frame)
    refine held_skip 31 rfl (by kernel_rfl) (by kernel_rfl) (by kernel_rfl) (fun _ _ _ h=>h) (by rfl) (by assumption) ?_
    (try go_frame)
    refine held_skip 32 rfl (by kernel_rfl) (by kernel_rfl) (by kernel_rfl) (fun _ _ _ h=>h) (by rfl) (by assumption) ?_
    (try go_frame)
    refine held_skip 33 rfl (by kernel_rfl) (by kernel_rfl) (by kernel_rfl) (fun _ _ _ h=>h) (by rfl) (by assumption) ?_
    (try go_frame)
    refine held_skip 34 rfl (by kernel_rfl) (by kernel_rfl) (by kernel_rfl) (fun _ _ _ h=>h) (by rfl) (by assumption) ?_
    (try go_frame)
    refine ht 35 (h:=?_)
    (try go_frame)
    refine ht 36 (h:=?_)
    (try go_frame)
    refine wpAnyH_done (by kernel_rfl) ?_ _
    clear hS hHeld
    go_wp2
    go_ret
    exact ⟨ret_bool (by rw [HQ.out,decide_eq_false e3]; simp),(Ext.refl _ w).drew⟩
  ·have e2':((mn:Int) == (m:Int))=false:=by rw [beq_eq_false_iff_ne]; omega
   refine wp_region_held_drew (S:=(S10 ob ob ob ob ob ob nb mb pb pb 1 2 3 4 5 6 0 0 0 1 (.bool neg) (.slice a1 m1 c1) (.slice a2 m2 c2) (.slice po pn pc) (.slice mo mn mc) (.slice zo zn zc) (.int .i64 pn) (.int .i64 m) vv rv)) (by kernel_rfl) (hS.drew) (fun hHeld=>?_)
   refine ht 0 (h:=?_)
   (try go_frame)
   refine ht 1 (h:=?_)
   (try go_frame)
   refine ht 2 (h:=?_)
   (try go_frame)
   refine ht 3 (h:=?_)
   (try go_frame)
   refine ht 4 (h:=?_)
   (try go_frame)
   refine ht 5 (h:=?_)
   (try go_frame)
   refine ht 6 (h:=?_)
   (try go_frame)
   refine ht 7 (h:=?_)
   (try go_frame)
   refine ht 8 (h:=?_)
   (try go_frame)
   refine ht 9 (h:=?_)
   (try go_frame)
   refine ht 10 (h:=?_)
   (try go_frame)
   refine ht 11 (h:=?_)
   (try go_frame)
   refine ht 12 (h:=?_)
   (try go_frame)
   refine held_skip 13 rfl (by kernel_rfl) (by kernel_rfl) (by kernel_rfl) (fun _ _ _ h=>h) (by rfl) (by assumption) ?_
   (try go_frame)
   refine held_skip 14 rfl (by kernel_rfl) (by kernel_rfl) (by kernel_rfl) (fun _ _ _ h=>h) (by rfl) (by assumption) ?_
   (try go_frame)
   refine held_skip 15 rfl (by kernel_rfl) (by kernel_rfl) (by kernel_rfl) (fun _ _ _ h=>h) (by rfl) (by assumption) ?_
   (try go_frame)
   refine held_skip 16 rfl (by kernel_rfl) (by kernel_rfl) (by kernel_rfl) (fun _ _ _ h=>h) (by rfl) (by assumption) ?_
   (try go_frame)
   refine ht 17 (h:=?_)
   (try go_frame)
   refine ht 18 (h:=?_)
   (try go_frame)
   refine held_skip 19 rfl (by kernel_rfl) (by kernel_rfl) (by kernel_rfl) (fun _ _ _ h=>h) (by rfl) (by assumption) ?_
   (try go_frame)
   refine held_skip 20 rfl (by kernel_rfl) (by kernel_rfl) (by kernel_rfl) (fun _ _ _ h=>h) (by rfl) (by assumption) ?_
   (try go_frame)
   refine held_skip 21 rfl (by kernel_rfl) (by kernel_rfl) (by kernel_rfl) (fun _ _ _ h=>h) (by rfl) (by assumption) ?_
   (try go_frame)
   refine held_skip 22 rfl (by kernel_rfl) (by kernel_rfl) (by kernel_rfl) (fun _ _ _ h=>h) (by rfl) (by assumption) ?_
   (try go_frame)
   refine held_skip 23 rfl (by kernel_rfl) (by kernel_rfl) (by kernel_rfl) (fun _ _ _ h=>h) (by rfl) (by assumption) ?_
   (try go_frame)
   refine held_skip 24 rfl (by kernel_rfl) (by kernel_rfl) (by kernel_rfl) (fun _ _ _ h=>h) (by rfl) (by assumption) ?_
   (try go_frame)
   refine ht 25 (h:=?_)
   (try go_frame)
   refine ht 26 (h:=?_)
   (try go_frame)
   refine held_skip 27 rfl (by kernel_rfl) (by kernel_rfl) (by kernel_rfl) (fun _ _ _ h=>h) (by rfl) (by assumption) ?_
   (try go_frame)
   refine held_skip 28 rfl (by kernel_rfl) (by kernel_rfl) (by kernel_rfl) (fun _ _ _ h=>h) (by rfl) (by assumption) ?_
   (try go_frame)
   refine held_skip 29 rfl (by kernel_rfl) (by kernel_rfl) (by kernel_rfl) (fun _ _ _ h=>h) (by rfl) (by assumption) ?_
   (try go_frame)
   refine held_skip 30 rfl (by kernel_rfl) (by kernel_rfl) (by kernel_rfl) (fun _ _ _ h=>h) (by rfl) (by assumption) ?_
   (try go_frame)
   refine held_skip 31 rfl (by kernel_rfl) (by kernel_rfl) (by kernel_rfl) (fun _ _ _ h=>h) (by rfl) (by assumption) ?_
   (try go_frame)
   refine held_skip 32 rfl (by kernel_rfl) (by kernel_rfl) (by kernel_rfl) (fun _ _ _ h=>h) (by rfl) (by assumption) ?_
   (try go_frame)
   refine held_skip 33 rfl (by kernel_rfl) (by kernel_rfl) (by kernel_rfl) (fun _ _ _ h=>h) (by rfl) (by assumption) ?_
   (try go_frame)
   refine held_skip 34 rfl (by kernel_rfl) (by kernel_rfl) (by kernel_rfl) (fun _ _ _ h=>h) (by rfl) (by assumption) ?_
   (try go_frame)
   refine ht 35 (h:=?_)
   (try go_frame)
   refine ht 36 (h:=?_)
   (try go_frame)
   refine wpAnyH_done (by kernel_rfl) ?_ _
   clear hS hHeld
   go_wp2
   go_ret
   exact ⟨ret_bool (by rw [HQ.out,decide_eq_false e2]; simp),(Ext.refl _ w).drew⟩
 ·have e1':((pn:Int) == (n:Int))=false:=by rw [beq_eq_false_iff_ne]; omega
  refine wp_region_held_drew (S:=(S10 ob ob ob ob ob ob nb mb pb pb 1 2 3 4 5 6 0 0 0 1 (.bool neg) (.slice a1 m1 c1) (.slice a2 m2 c2) (.slice po pn pc) (.slice mo mn mc) (.slice zo zn zc) (.int .i64 n) (.int .i64 m) vv rv)) (by kernel_rfl) (hS.drew) (fun hHeld=>?_)
  refine ht 0 (h:=?_)
  (try go_frame)
  refine ht 1 (h:=?_)
  (try go_frame)
  refine ht 2 (h:=?_)
  (try go_frame)
  refine ht 3 (h:=?_)
  (try go_frame)
  refine ht 4 (h:=?_)
  (try go_frame)
  refine ht 5 (h:=?_)
  (try go_frame)
  refine held_skip 6 rfl (by kernel_rfl) (by kernel_rfl) (by kernel_rfl) (fun _ _ _ h=>h) (by rfl) (by assumption) ?_
  (try go_frame)
  refine held_skip 7 rfl (by kernel_rfl) (by kernel_rfl) (by kernel_rfl) (fun _ _ _ h=>h) (by rfl) (by assumption) ?_
  (try go_frame)
  refine held_skip 8 rfl (by kernel_rfl) (by kernel_rfl) (by kernel_rfl) (fun _ _ _ h=>h) (by rfl) (by assumption) ?_
  (try go_frame)
  refine held_skip 9 rfl (by kernel_rfl) (by kernel_rfl) (by kernel_rfl) (fun _ _ _ h=>h) (by rfl) (by assumption) ?_
  (try go_frame)
  refine held_skip 10 rfl (by kernel_rfl) (by kernel_rfl) (by kernel_rfl) (fun _ _ _ h=>h) (by rfl) (by assumption) ?_
  (try go_frame)
  refine ht 11 (h:=?_)
  (try go_frame)
  refine ht 12 (h:=?_)
  (try go_frame)
  refine held_skip 13 rfl (by kernel_rfl) (by kernel_rfl) (by kernel_rfl) (fun _ _ _ h=>h) (by rfl) (by assumption) ?_
  (try go_frame)
  refine held_skip 14 rfl (by kernel_rfl) (by kernel_rfl) (by kernel_rfl) (fun _ _ _ h=>h) (by rfl) (by assumption) ?_
  (try go_frame)
  refine held_skip 15 rfl (by kernel_rfl) (by kernel_rfl) (by kernel_rfl) (fun _ _ _ h=>h) (by rfl) (by assumption) ?_
  (try go_frame)
  refine held_skip 16 rfl (by kernel_rfl) (by kernel_rfl) (by kernel_rfl) (fun _ _ _ h=>h) (by rfl) (by assumption) ?_
  (try go_frame)
  refine ht 17 (h:=?_)
  (try go_frame)
  refine ht 18 (h:=?_)
  (try go_frame)
  refine held_skip 19 rfl (by kernel_rfl) (by kernel_rfl) (by kernel_rfl) (fun _ _ _ h=>h) (by rfl) (by assumption) ?_
  (try go_frame)
  refine held_skip 20 rfl (by kernel_rfl) (by kernel_rfl) (by kernel_rfl) (fun _ _ _ h=>h) (by rfl) (by assumption) ?_
  (try go_frame)
  refine held_skip 21 rfl (by kernel_rfl) (by kernel_rfl) (by kernel_rfl) (fun _ _ _ h=>h) (by rfl) (by assumption) ?_
  (try go_frame)
  refine held_skip 22 rfl (by kernel_rfl) (by kernel_rfl) (by kernel_rfl) (fun _ _ _ h=>h) (by rfl) (by assumption) ?_
  (try go_frame)
  refine held_skip 23 rfl (by kernel_rfl) (by kernel_rfl) (by kernel_rfl) (fun _ _ _ h=>h) (by rfl) (by assumption) ?_
  (try go_frame)
  refine held_skip 24 rfl (by kernel_rfl) (by kernel_rfl) (by kernel_rfl) (fun _ _ _ h=>h) (by rfl) (by assumption) ?_
  (try go_frame)
  refine ht 25 (h:=?_)
  (try go_frame)
  refine ht 26 (h:=?_)
  (try go_frame)
  refine held_skip 27 rfl (by kernel_rfl) (by kernel_rfl) (by kernel_rfl) (fun _ _ _ h=>h) (by rfl) (by assumption) ?_
  (try go_frame)
  refine held_skip 28 rfl (by kernel_rfl) (by kernel_rfl) (by kernel_rfl) (fun _ _ _ h=>h) (by rfl) (by assumption) ?_
  (try go_frame)
  refine held_skip 29 rfl (by kernel_rfl) (by kernel_rfl) (by kernel_rfl) (fun _ _ _ h=>h) (by rfl) (by assumption) ?_
  (try go_frame)
  refine held_skip 30 rfl (by kernel_rfl) (by kernel_rfl) (by kernel_rfl) (fun _ _ _ h=>h) (by rfl) (by assumption) ?_
  (try go_frame)
  refine held_skip 31 rfl (by kernel_rfl) (by kernel_rfl) (by kernel_rfl) (fun _ _ _ h=>h) (by rfl) (by assumption) ?_
  (try go_frame)
  refine held_skip 32 rfl (by kernel_rfl) (by kernel_rfl) (by kernel_rfl) (fun _ _ _ h=>h) (by rfl) (by assumption) ?_
  (try go_frame)
  refine held_skip 33 rfl (by kernel_rfl) (by kernel_rfl) (by kernel_rfl) (fun _ _ _ h=>h) (by rfl) (by assumption) ?_
  (try go_frame)
  refine held_skip 34 rfl (by kernel_rfl) (by kernel_rfl) (by kernel_rfl) (fun _ _ _ h=>h) (by rfl) (by assumption) ?_
  (try go_frame)
  refine ht 35 (h:=?_)
  (try go_frame)
  refine ht 36 (h:=?_)
  (try go_frame)
  refine wpAnyH_done (by kernel_rfl) ?_ _
  clear hS hHeld
  go_wp2
  go_ret
  exact ⟨ret_bool (by rw [HQ.out,decide_eq_false e1]; simp),(Ext.refl _ w).drew⟩
theorem check2_any (w:World) (ob pb nb mb tb:Nat) (p:ProgV) (o:OutV) (L T:Nat) (vv rv pv ov:Value) (h:Caught w ob pb nb mb tb p o L vv rv pv ov) (hs:Small p T L) :
  Calls Tryz.prog 55 #[.pointer (some ⟨tb,0,none⟩),.pointer (some ⟨ob,0,none⟩),.pointer (some ⟨mb,0,none⟩),.pointer (some ⟨pb,0,none⟩)] w (BoolPost w (chk2 p o)):=by
 obtain ⟨neg,a1,m1,c1,a2,m2,c2,ptv,muv,rav,rfl,hval,hpt,hmu,hra,hk⟩:=h.out
 obtain ⟨cs,e,hob⟩:=h.ob
 cases e
 obtain ⟨po,pc,rfl,-,hpn,-⟩:=hpt.shape
 obtain ⟨mo,mc,rfl,-,hmn,-⟩:=hmu.shape
 obtain ⟨zo,zc,rfl,-,hzn,-⟩:=hra.shape
 have hlen:o.pt.length<=4611686018427387903/\o.ray.length<=4611686018427387903∨True:=.inr trivial
 have t0:=cellq h.tb 0 rfl
 have x4:=cellq hob 4 rfl
 have x5:=cellq hob 5 rfl
 have x6:=cellq hob 6 rfl
 have y0:=cellq h.mb 0 rfl
 have z0:=cellq h.pb 0 rfl
 have z1:=cellq h.pb 1 rfl
 have HI:=bH (Infeasible_any w _ _ p o.mu L T h.prg hmu hs)
 have HQ:=bH (show chk2 p o=(decide (o.val=0) && decide (o.pt.length+o.ray.length=0) && decide (o.mu.length=p.rows.length) && infB p o.mu) from rfl)
 clear h hval hpt hmu hra hk hob hs hlen
 generalize p.rows.length=m at *
 generalize o.pt.length=pn at *
 generalize o.mu.length=mn at *
 generalize o.ray.length=zn at *
 by_cases e0:o.val=0
 ·rw [decide_eq_true e0] at t0 HQ
  clear e0
  by_cases e1:pn=0
  ·subst e1
   by_cases e1b:zn=0
   ·subst e1b
    by_cases e2:mn=m
    ·subst e2
     go_enter Tryz.func55,Tryz.ntmps55
     go_wp2_with fail
     refine HI.out.mono ?_
     rintro r2 w2 ⟨rfl,hx2⟩
     have HX:=bH hx2
     clear hx2 t0 x4 x5 x6 y0 z0 z1
     go_wp2
     go_ret
     exact ⟨ret_bool (by rw [HQ.out]; simp),HX.out⟩
    ·have e2':((mn:Int) == (m:Int))=false:=by rw [beq_eq_false_iff_ne]; omega
     go_enter Tryz.func55,Tryz.ntmps55
     go_wp2
     go_ret
     exact ⟨ret_bool (by rw [HQ.out,decide_eq_false e2]; simp),Ext.refl _ w⟩
   ·have e1':((zn:Int) == 0)=false:=by simpa using e1b
    go_enter Tryz.func55,Tryz.ntmps55
    go_wp2
    go_ret
    exact ⟨ret_bool (by rw [HQ.out,decide_eq_false (p:=(0+zn=0)) (by omega)]; simp),Ext.refl _ w⟩
  ·have ew:(wrap64 ((pn:Int)+(zn:Int)) == 0)=false:=by
    have:¬ wrap64 ((pn:Int)+(zn:Int))=0:=by unfold wrap64; omega
    simpa using this
   go_enter Tryz.func55,Tryz.ntmps55
   go_wp2
   all_goals
    go_ret
    exact ⟨ret_bool (by rw [HQ.out,decide_eq_false (p:=(pn+zn=0)) (by omega)]; simp),Ext.refl _ w⟩
 ·rw [decide_eq_false e0] at t0 HQ
  clear e0
  go_enter Tryz.func55,Tryz.ntmps55
  go_wp2
  go_ret
  exact ⟨ret_bool (by rw [HQ.out]; simp),Ext.refl _ w⟩
theorem check3_any (w:World) (ob pb nb mb tb:Nat) (p:ProgV) (o:OutV) (L T:Nat) (vv rv pv ov:Value) (h:Caught w ob pb nb mb tb p o L vv rv pv ov) (hs:Small p T L) :
  Calls Tryz.prog 56 #[.pointer (some ⟨tb,0,none⟩),.pointer (some ⟨ob,0,none⟩),.pointer (some ⟨nb,0,none⟩),.pointer (some ⟨pb,0,none⟩)] w (BoolPost w (chk3 p o)):=by
 obtain ⟨neg,a1,m1,c1,a2,m2,c2,ptv,muv,rav,rfl,hval,hpt,hmu,hra,hk⟩:=h.out
 obtain ⟨cs,e,hob⟩:=h.ob
 cases e
 obtain ⟨po,pc,rfl,-,hpn,-⟩:=hpt.shape
 obtain ⟨mo,mc,rfl,-,hmn,-⟩:=hmu.shape
 obtain ⟨zo,zc,rfl,-,hzn,-⟩:=hra.shape
 have t0:=cellq h.tb 0 rfl
 have x4:=cellq hob 4 rfl
 have x5:=cellq hob 5 rfl
 have x6:=cellq hob 6 rfl
 have y0:=cellq h.nb 0 rfl
 have z0:=cellq h.pb 0 rfl
 have z1:=cellq h.pb 1 rfl
 have HI:=bH (Unbounded_any w _ _ _ p o.pt o.ray L T h.prg hpt hra hs)
 have HQ:=bH (show chk3 p o=(decide (o.val=0) && decide (o.mu.length=0) && decide (o.pt.length=p.vars.length) && decide (o.ray.length=p.vars.length) && unbB p o.pt o.ray) from rfl)
 clear h hval hpt hmu hra hk hob hs
 generalize p.vars.length=n at *
 generalize o.pt.length=pn at *
 generalize o.mu.length=mn at *
 generalize o.ray.length=zn at *
 by_cases e0:o.val=0
 ·rw [decide_eq_true e0] at t0 HQ
  clear e0
  by_cases e1:mn=0
  ·subst e1
   by_cases e2:pn=n
   ·subst e2
    by_cases e3:zn=pn
    ·subst e3
     go_enter Tryz.func56,Tryz.ntmps56
     go_wp2_with fail
     refine HI.out.mono ?_
     rintro r2 w2 ⟨rfl,hx2⟩
     have HX:=bH hx2
     clear hx2 t0 x4 x5 x6 y0 z0 z1
     go_wp2
     go_ret
     exact ⟨ret_bool (by rw [HQ.out]; simp),HX.out⟩
    ·have e3':((zn:Int) == (pn:Int))=false:=by rw [beq_eq_false_iff_ne]; omega
     go_enter Tryz.func56,Tryz.ntmps56
     go_wp2
     go_ret
     exact ⟨ret_bool (by rw [HQ.out,decide_eq_false e3]; simp),Ext.refl _ w⟩
   ·have e2':((pn:Int) == (n:Int))=false:=by rw [beq_eq_false_iff_ne]; omega
    go_enter Tryz.func56,Tryz.ntmps56
    go_wp2
    go_ret
    exact ⟨ret_bool (by rw [HQ.out,decide_eq_false e2]; simp),Ext.refl _ w⟩
  ·have e1':((mn:Int) == 0)=false:=by simpa using e1
   go_enter Tryz.func56,Tryz.ntmps56
   go_wp2
   go_ret
   exact ⟨ret_bool (by rw [HQ.out,decide_eq_false e1]; simp),Ext.refl _ w⟩
 ·rw [decide_eq_false e0] at t0 HQ
  clear e0
  go_enter Tryz.func56,Tryz.ntmps56
  go_wp2
  go_ret
  exact ⟨ret_bool (by rw [HQ.out]; simp),Ext.refl _ w⟩
def chkB (p:ProgV) (o:OutV):Bool:=if o.kind=0 then chk1 p o else if o.kind=1 then chk2 p o else chk3 p o
def checkE (p:ProgV) (o:OutV):Int:=if validB p && decide (0<=o.kind) && decide (o.kind<=2) then (if chkB p o then 0 else 13) else 1
def ErrPost (w:World) (e:Int) (r:Ending) (w':World):Prop:=r=.returned (.int .i64 e)/\XF w w'
theorem Check_any (w:World) (pv ov:Value) (p:ProgV) (o:OutV) (L T:Nat) (hp:IsPrg w pv p) (ho:IsOut w ov o L) (hs:Small p T L) :
  Calls Tryz.prog 19 #[pv,ov] w (ErrPost w (checkE p o)):=by
 have h1:=hs.room.one
 obtain ⟨r1,r2,r3,r4,r5,r6,r7,r8,r9⟩:=hs.room.all
 have HP:=bH (bI hp (bI ho hs))
 obtain ⟨vv,rv,rfl,hv,hr⟩:=hp
 obtain ⟨vo,vc,rfl,-,hvn,-⟩:=hv.shape
 obtain ⟨ro,rc,rfl,-,hrn,-⟩:=hr.shape
 obtain ⟨neg,a1,m1,c1,a2,m2,c2,ptv,muv,rav,rfl,hval,hpt,hmu,hra,hk⟩:=ho
 obtain ⟨po,pc,rfl,-,hpn,-⟩:=hpt.shape
 obtain ⟨mo,mc,rfl,-,hmn,-⟩:=hmu.shape
 obtain ⟨zo,zc,rfl,-,hzn,-⟩:=hra.shape
 have HG:=bH (fun W (hW:XF w W)=>rsign_any W _ o.val L (hval.keep hW) (by omega))
 have HV:=bH (fun W (hW:XF w W)=>Valid_any W _ p (HP.out.1.keep hW))
 clear hv hr hpt hmu hra hval hs r1 r2 r3 r4 r5 r6 r7 r8 r9 h1
 generalize hpl:o.pt.length=pn at *
 generalize hml:o.mu.length=mn at *
 generalize hzl:o.ray.length=zn at *
 clear hpl hml hzl
 obtain ⟨kd,hkd⟩:∃ kd,o.kind=kd:=⟨_,rfl⟩
 have HK:=bH hkd
 rw [hkd] at hk HP ⊢
 clear hkd
 obtain ⟨n,hn'⟩:∃ n,p.vars.length=n:=⟨_,rfl⟩
 have HN:=bH hn'
 rw [hn'] at HP HV ⊢ hvn
 obtain ⟨m,hm'⟩:∃ m,p.rows.length=m:=⟨_,rfl⟩
 have HM:=bH hm'
 rw [hm'] at HP HV ⊢ hrn
 clear hn' hm'
 go_enter Tryz.func19,Tryz.ntmps19
 have b0:blk ((w.alloc (.cells #[.slice vo n vc,.slice ro m rc] 25)).alloc (.cells #[.int .i64 kd,.bool neg,.slice a1 m1 c1,.slice a2 m2 c2,.slice po pn pc,.slice mo mn mc,.slice zo zn zc] 34)) w.heap.size=some (.cells #[.slice vo n vc,.slice ro m rc] 25 (0,0)):=(blk_alloc_past _ _ _ (by simp)).trans (blk_alloc_at _ _)
 have b1:=blk_alloc_at (w.alloc (.cells #[.slice vo n vc,.slice ro m rc] 25)) (.cells #[.int .i64 kd,.bool neg,.slice a1 m1 c1,.slice a2 m2 c2,.slice po pn pc,.slice mo mn mc,.slice zo zn zc] 34)
 rw [World.size_alloc] at b1
 have hx1:=((Ext.refl (fun _=>False) w).alloc (.cells #[.slice vo n vc,.slice ro m rc] 25)).alloc (.cells #[.int .i64 kd,.bool neg,.slice a1 m1 c1,.slice a2 m2 c2,.slice po pn pc,.slice mo mn mc,.slice zo zn zc] 34)
 have HB:=bH (bI b0 (bI b1 hx1))
 clear b0 b1 hx1
 go_upto_region 1 with fail
 generalize hw1:(w.alloc (.cells #[.slice vo n vc,.slice ro m rc] 25)).alloc (.cells #[.int .i64 kd,.bool neg,.slice a1 m1 c1,.slice a2 m2 c2,.slice po pn pc,.slice mo mn mc,.slice zo zn zc] 34)=w1 at *
 clear hw1
 obtain ⟨pb,hpb⟩:∃ pb,w.heap.size=pb:=⟨_,rfl⟩
 rw [hpb] at HB ⊢
 clear hpb
 have z0:=cellq HB.out.1 0 rfl
 have z1:=cellq HB.out.1 1 rfl
 go_cut [5,6] (fun v5 v6 wx=>∃ nb mb,v5=.pointer (some ⟨nb,0,none⟩)/\v6=.pointer (some ⟨mb,0,none⟩)/\blk wx nb=some (.cells #[.int .i64 (n:Int)] 3 (0,0))/\blk wx mb=some (.cells #[.int .i64 (m:Int)] 3 (0,0))/\XF w1 wx)
 case first =>
  have hS:S2 pb pb 0 1 (.slice vo n vc) (.slice ro m rc) w1:=⟨z0,z1⟩
  have hplt:=blk_lt HB.out.1
  clear z0 z1
  refine wp_region_held_drew (S:=(S2 pb pb 0 1 (.slice vo n vc) (.slice ro m rc))) (by kernel_rfl) (hS.drew) (fun hHeld=>?_)
  have hxd:=(Ext.refl (fun _=>False) w1).drew
  generalize w1.drew=wd at *
  refine ht 0 (h:=?_)
  (try go_frame)
  refine ht 1 (h:=?_)
  (try go_frame)
  refine ht 2 (h:=?_)
  (try go_frame)
  refine ht 3 (h:=?_)
  (try go_frame)
  refine ht 4 (h:=?_)
  (try go_frame)
  refine ht 5 (h:=?_)
  (try go_frame)
  refine held_two 6 7 rfl rfl (by kernel_rfl) (fun K hK=>?_) (fun K hK=>?_)
  ·go_simp
   obtain ⟨nb,hnb⟩:∃ nb,wd.heap.size=nb:=⟨_,rfl⟩
   have hbnb1:=blk_alloc_at wd (.cells #[.int .i64 0] 3)
   have hX1:=hxd.alloc (.cells #[.int .i64 0] 3)
   have hwnb:w1.heap.size<=nb:=by have:=hxd.size; omega
   have hpnb:¬ pb=nb:=by omega
   rw [hnb] at hbnb1 ⊢
   clear hnb
   generalize wd.alloc (.cells #[.int .i64 0] 3)=wa1 at *
   refine hK.out _ _ (hS.keep hX1) (fun hHeld=>?_)
   clear hK K
   (try go_frame)
   refine held_step 7 rfl (by kernel_rfl) (fun K hK=>?_)
   go_simp
   obtain ⟨mb,hmb⟩:∃ mb,wa1.heap.size=mb:=⟨_,rfl⟩
   have hbmb2:=blk_alloc_at wa1 (.cells #[.int .i64 0] 3)
   have hX2:=hX1.alloc (.cells #[.int .i64 0] 3)
   have hwmb:w1.heap.size<=mb:=by have:=hX1.size; omega
   have hpmb:¬ pb=mb:=by omega
   have hne:nb<mb:=by have:=blk_lt hbnb1; omega
   have hbnb2:=blk_keep hbnb1 ((Ext.refl (fun _=>False) wa1).alloc (.cells #[.int .i64 0] 3))
   rw [hmb] at hbmb2 ⊢
   clear hmb
   generalize wa1.alloc (.cells #[.int .i64 0] 3)=wa2 at *
   refine hK.out _ _ (hS.keep hX2) (fun hHeld=>?_)
   clear hK K
   (try go_frame)
   refine held_step 8 rfl (by kernel_rfl) (fun K hK=>?_)
   have fc8:=cellq hbnb2 0 rfl
   have ff8:=free_of_cells hbnb2 0
   go_simp
   have hbnb3:=blk_setCell_same hbnb2 0 (.int .i64 (n:Int))
   have hbmb3:=(blk_setCell_other wa2 ⟨nb,0,none⟩ (.int .i64 (n:Int)) mb (by show mb≠nb; omega)).trans hbmb2
   have hX3:XF w1 (wa2.setCell ⟨nb,0,none⟩ (.int .i64 (n:Int))):=hX2.setCell _ (fun h=>absurd h (by show ¬ nb<w1.heap.size; omega))
   have hK3:S2 pb pb 0 1 (.slice vo n vc) (.slice ro m rc) (wa2.setCell ⟨nb,0,none⟩ (.int .i64 (n:Int))):=S2.set (hS.keep hX2) ⟨nb,0,none⟩ _ hpnb hpnb
   generalize wa2.setCell ⟨nb,0,none⟩ (.int .i64 (n:Int))=wa3 at *
   refine hK.out _ _ (hK3) (fun hHeld=>?_)
   clear hK K
   (try go_frame)
   clear fc8 ff8
   refine held_step 9 rfl (by kernel_rfl) (fun K hK=>?_)
   have fc9:=cellq hbmb3 0 rfl
   have ff9:=free_of_cells hbmb3 0
   go_simp
   have hbmb4:=blk_setCell_same hbmb3 0 (.int .i64 (m:Int))
   have hbnb4:=(blk_setCell_other wa3 ⟨mb,0,none⟩ (.int .i64 (m:Int)) nb (by show nb≠mb; omega)).trans hbnb3
   have hX4:XF w1 (wa3.setCell ⟨mb,0,none⟩ (.int .i64 (m:Int))):=hX3.setCell _ (fun h=>absurd h (by show ¬ mb<w1.heap.size; omega))
   have hK4:S2 pb pb 0 1 (.slice vo n vc) (.slice ro m rc) (wa3.setCell ⟨mb,0,none⟩ (.int .i64 (m:Int))):=S2.set hK3 ⟨mb,0,none⟩ _ hpmb hpmb
   generalize wa3.setCell ⟨mb,0,none⟩ (.int .i64 (m:Int))=wa4 at *
   refine hK.out _ _ (hK4) (fun hHeld=>?_)
   clear hK K
   (try go_frame)
   clear fc9 ff9
   refine wpAnyH_done (by kernel_rfl) ?_ _
   clear hS hHeld
   go_wp2
   go_meet
   exact ⟨nb,mb,rfl,rfl,hbnb4,hbmb4,hX4⟩
  ·go_simp
   obtain ⟨mb,hmb⟩:∃ mb,wd.heap.size=mb:=⟨_,rfl⟩
   have hbmb1:=blk_alloc_at wd (.cells #[.int .i64 0] 3)
   have hX1:=hxd.alloc (.cells #[.int .i64 0] 3)
   have hwmb:w1.heap.size<=mb:=by have:=hxd.size; omega
   have hpmb:¬ pb=mb:=by omega
   rw [hmb] at hbmb1 ⊢
   clear hmb
   generalize wd.alloc (.cells #[.int .i64 0] 3)=wa1 at *
   refine hK.out _ _ (hS.keep hX1) (fun hHeld=>?_)
   clear hK K
   (try go_frame)
   refine held_step 6 rfl (by kernel_rfl) (fun K hK=>?_)
   go_simp
   obtain ⟨nb,hnb⟩:∃ nb,wa1.heap.size=nb:=⟨_,rfl⟩
   have hbnb2:=blk_alloc_at wa1 (.cells #[.int .i64 0] 3)
   have hX2:=hX1.alloc (.cells #[.int .i64 0] 3)
   have hwnb:w1.heap.size<=nb:=by have:=hX1.size; omega
   have hpnb:¬ pb=nb:=by omega
   have hne:mb<nb:=by have:=blk_lt hbmb1; omega
   have hbmb2:=blk_keep hbmb1 ((Ext.refl (fun _=>False) wa1).alloc (.cells #[.int .i64 0] 3))
   rw [hnb] at hbnb2 ⊢
   clear hnb
   generalize wa1.alloc (.cells #[.int .i64 0] 3)=wa2 at *
   refine hK.out _ _ (hS.keep hX2) (fun hHeld=>?_)
   clear hK K
   (try go_frame)
   refine held_step 8 rfl (by kernel_rfl) (fun K hK=>?_)
   have fc8:=cellq hbnb2 0 rfl
   have ff8:=free_of_cells hbnb2 0
   go_simp
   have hbnb3:=blk_setCell_same hbnb2 0 (.int .i64 (n:Int))
   have hbmb3:=(blk_setCell_other wa2 ⟨nb,0,none⟩ (.int .i64 (n:Int)) mb (by show mb≠nb; omega)).trans hbmb2
   have hX3:XF w1 (wa2.setCell ⟨nb,0,none⟩ (.int .i64 (n:Int))):=hX2.setCell _ (fun h=>absurd h (by show ¬ nb<w1.heap.size; omega))
   have hK3:S2 pb pb 0 1 (.slice vo n vc) (.slice ro m rc) (wa2.setCell ⟨nb,0,none⟩ (.int .i64 (n:Int))):=S2.set (hS.keep hX2) ⟨nb,0,none⟩ _ hpnb hpnb
   generalize wa2.setCell ⟨nb,0,none⟩ (.int .i64 (n:Int))=wa3 at *
   refine hK.out _ _ (hK3) (fun hHeld=>?_)
   clear hK K
   (try go_frame)
   clear fc8 ff8
   refine held_step 9 rfl (by kernel_rfl) (fun K hK=>?_)
   have fc9:=cellq hbmb3 0 rfl
   have ff9:=free_of_cells hbmb3 0
   go_simp
   have hbmb4:=blk_setCell_same hbmb3 0 (.int .i64 (m:Int))
   have hbnb4:=(blk_setCell_other wa3 ⟨mb,0,none⟩ (.int .i64 (m:Int)) nb (by show nb≠mb; omega)).trans hbnb3
   have hX4:XF w1 (wa3.setCell ⟨mb,0,none⟩ (.int .i64 (m:Int))):=hX3.setCell _ (fun h=>absurd h (by show ¬ mb<w1.heap.size; omega))
   have hK4:S2 pb pb 0 1 (.slice vo n vc) (.slice ro m rc) (wa3.setCell ⟨mb,0,none⟩ (.int .i64 (m:Int))):=S2.set hK3 ⟨mb,0,none⟩ _ hpmb hpmb
   generalize wa3.setCell ⟨mb,0,none⟩ (.int .i64 (m:Int))=wa4 at *
   refine hK.out _ _ (hK4) (fun hHeld=>?_)
   clear hK K
   (try go_frame)
   clear fc9 ff9
   refine wpAnyH_done (by kernel_rfl) ?_ _
   clear hS hHeld
   go_wp2
   go_meet
   exact ⟨nb,mb,rfl,rfl,hbnb4,hbmb4,hX4⟩
 case rest =>
  clear z0 z1
  obtain ⟨nb,mb,rfl,rfl,hnb,hmb,hx2⟩:=hcut
  have HB2:=bH (bI (blk_keep HB.out.1 hx2) (bI (blk_keep HB.out.2.1 hx2) (bI hnb (bI hmb (HB.out.2.2.trans hx2)))))
  clear hnb hmb hx2 HB
  have y1:=cellq HB2.out.2.1 1 rfl
  have y2:=cellq HB2.out.2.1 2 rfl
  have y3:=cellq HB2.out.2.1 3 rfl
  go_wp2_with fail
  refine (HG.out wc HB2.out.2.2.2.2).mono ?_
  rintro r3 w3 ⟨rfl,hx3⟩
  have hb3:=blk_alloc_at w3 (.cells #[.bool (!decide (o.val=0))] 4)
  have hxa:=hx3.alloc (.cells #[.bool (!decide (o.val=0))] 4)
  have HCt:Hid (∀ tb,w3.heap.size=tb->∀ W,XF (w3.alloc (.cells #[.bool (!decide (o.val=0))] 4)) W->Caught W (pb+1) pb nb mb tb p o L (.slice vo n vc) (.slice ro m rc) .nilFunc (.agg #[.int .i64 kd,.bool neg,.slice a1 m1 c1,.slice a2 m2 c2,.slice po pn pc,.slice mo mn mc,.slice zo zn zc])):=bH (fun tb htb W hW=>by
   have hx:=hxa.trans hW
   refine ⟨HP.out.1.keep (HB2.out.2.2.2.2.trans hx),HP.out.2.1.keep (HB2.out.2.2.2.2.trans hx),blk_keep HB2.out.1 hx,⟨_,rfl,blk_keep HB2.out.2.1 hx⟩,?_,?_,by rw [<- htb]; exact blk_keep hb3 hW⟩
   ·rw [HN.out]; exact blk_keep HB2.out.2.2.1 hx
   ·rw [HM.out]; exact blk_keep HB2.out.2.2.2.1 hx)
  have hsz:=sign_zero o.val
  have HX3:=bH (HB2.out.2.2.2.2.trans hxa)
  have x0:=cell_keep (cellq HB2.out.2.1 0 rfl) hxa
  have q0:=cell_keep (cellq HB2.out.1 0 rfl) hxa
  have q1:=cell_keep (cellq HB2.out.1 1 rfl) hxa
  have hsg:(o.val.num.sign != 0)=!decide (o.val=0):=by
   by_cases h:o.val=0
   ·rw [h]; rfl
   ·have h2:¬ o.val.num.sign=0:=fun e=>h (hsz.1 e)
    rw [decide_eq_false h]; simpa using h2
  clear y1 y2 y3 hx3 hb3 hxa hsz
  go_upto_region 3 with fail
  obtain ⟨tb,htb⟩:∃ tb,w3.heap.size=tb:=⟨_,rfl⟩
  have HC:=bH (HCt.out tb htb)
  have hw3:w3.heap.size+1=(w3.alloc (.cells #[.bool (!decide (o.val=0))] 4)).heap.size:=by simp
  rw [htb] at hw3 ⊢
  clear HCt htb
  generalize w3.alloc (.cells #[.bool (!decide (o.val=0))] 4)=w4 at *
  clear hsg hw3
  have hmm:=@run_makeMap Tryz.prog
  obtain ⟨f1,hf1⟩:∃ f,(Value.func (.func 52) #[] #[.pointer (some ⟨pb+1,0,none⟩),.pointer (some ⟨nb,0,none⟩),.pointer (some ⟨mb,0,none⟩),.pointer (some ⟨pb,0,none⟩)])=f:=⟨_,rfl⟩
  obtain ⟨f2,hf2⟩:∃ f,(Value.func (.func 55) #[] #[.pointer (some ⟨tb,0,none⟩),.pointer (some ⟨pb+1,0,none⟩),.pointer (some ⟨mb,0,none⟩),.pointer (some ⟨pb,0,none⟩)])=f:=⟨_,rfl⟩
  obtain ⟨f3,hf3⟩:∃ f,(Value.func (.func 56) #[] #[.pointer (some ⟨tb,0,none⟩),.pointer (some ⟨pb+1,0,none⟩),.pointer (some ⟨nb,0,none⟩),.pointer (some ⟨pb,0,none⟩)])=f:=⟨_,rfl⟩
  obtain ⟨es1,cl1,hu1,hm1,hs1⟩:=run_update_int (P:=Tryz.prog) (b:=w4.heap.size) Tryz.underlying84 Tryz.underlying3 (show IntMap #[] [] from rfl) (stamped_empty 0) 0 f1
  obtain ⟨es2,cl2,hu2,hm2,hs2⟩:=run_update_int (P:=Tryz.prog) (b:=w4.heap.size) Tryz.underlying84 Tryz.underlying3 hm1 hs1 1 f2
  obtain ⟨es3,cl3,hu3,hm3,hs3⟩:=run_update_int (P:=Tryz.prog) (b:=w4.heap.size) Tryz.underlying84 Tryz.underlying3 hm2 hs2 2 f3
  have hb1:=blk_setBlock_same (blk_alloc_at w4 (.map #[] 0)) (.map es1 cl1)
  have hb2:=blk_setBlock_same hb1 (.map es2 cl2)
  have hb3:=blk_setBlock_same hb2 (.map es3 cl3)
  have hxm:XF w4 (setBlock (setBlock (setBlock (w4.alloc (.map #[] 0)) w4.heap.size (.map es1 cl1)) w4.heap.size (.map es2 cl2)) w4.heap.size (.map es3 cl3)) :=
   ((((Ext.refl _ w4).alloc _).setBlock _ _ (fun h=>absurd h (Nat.lt_irrefl _))).setBlock _ _ (fun h=>absurd h (Nat.lt_irrefl _))).setBlock _ _ (fun h=>absurd h (Nat.lt_irrefl _))
  have HU:=bH (bI hu1 (bI hu2 hu3))
  have HBs:=bH (bI hb1 (bI hb2 hb3))
  have HM3:=bH hm3
  have HXm:=bH hxm
  clear hu1 hu2 hu3 hm1 hm2 hm3 hs1 hs2 hs3 hb1 hb2 hb3 hxm
  go_upto_region 4 with fail
  rw [HU.out.1 _ (blk_alloc_at w4 (.map #[] 0))]
  go_upto_region 4 with fail
  rw [HU.out.2.1 _ HBs.out.1]
  go_upto_region 4 with fail
  rw [HU.out.2.2 _ HBs.out.2.1]
  go_upto_region 4 with fail
  have HB5:=bH HBs.out.2.2
  generalize setBlock (setBlock (setBlock (w4.alloc (.map #[] 0)) w4.heap.size (.map es1 cl1)) w4.heap.size (.map es2 cl2)) w4.heap.size (.map es3 cl3)=w5 at *
  have hlk:=fun s=>run_lookup_int (P:=Tryz.prog) Tryz.underlying84 Tryz.underlying3 HB5.out HM3.out (z:=.nilFunc) (Tryz.zeroValue35 w5) s false
  generalize w4.heap.size=mk at *
  replace x0:=cell_keep x0 HXm.out
  replace q0:=cell_keep q0 HXm.out
  replace q1:=cell_keep q1 HXm.out
  have HX5:=bH (HX3.out.trans HXm.out)
  have HC5:=bH (fun W (hW:XF w5 W)=>HC.out W (HXm.out.trans hW))
  have HQ:=bH (show checkE p o=if validB p && decide (0<=kd) && decide (kd<=2) then (if (if kd=0 then chk1 p o else if kd=1 then chk2 p o else chk3 p o) then 0 else 13) else 1 from (by unfold checkE chkB; rw [HK.out]))
  have HSm:=bH HP.out.2.2
  clear HU HBs HM3 HXm HC HX3 HB5 hmm HP HB2 HG
  have hlv:(Instr.lookup 84 (.map (some mk)) (.int .i64 kd) false).run Tryz.prog w5=.ok (if kd=0 then f1 else if kd=1 then f2 else if kd=2 then f3 else .nilFunc) w5:=by
   rw [hlk kd]
   show Result.ok ((iget [(0,f1),(1,f2),(2,f3)] kd).getD .nilFunc) w5=_
   congr 1
   unfold iget iget iget iget
   by_cases k0:kd=0
   ·rw [if_pos k0,if_pos k0.symm]; rfl
   ·rw [if_neg k0,if_neg (Ne.symm k0)]
    by_cases k1:kd=1
    ·rw [if_pos k1,if_pos k1.symm]; rfl
    ·rw [if_neg k1,if_neg (Ne.symm k1)]
     by_cases k2:kd=2
     ·rw [if_pos k2,if_pos k2.symm]; rfl
     ·rw [if_neg k2,if_neg (Ne.symm k2)]; rfl
  clear hlk
  have HVa:=bH (HV.out w5 HX5.out)
  clear HV
  have hnil:∀ W:World,(binOp BinOp.eql 35 .nilFunc .nilFunc).run Tryz.prog W=.ok (.bool true) W:=fun _=>by kernel_rfl
  have hnn:∀ (g:Nat) (caps:Array Value) (W:World),(binOp BinOp.eql 35 (.func (.func g) #[] caps) .nilFunc).run Tryz.prog W=.ok (.bool false) W:=fun _ _ _=>by kernel_rfl
  have eg1:=enters_of Tryz.func52 (by kernel_rfl) rfl
  have eg2:=enters_of Tryz.func55 (by kernel_rfl) rfl
  have eg3:=enters_of Tryz.func56 (by kernel_rfl) rfl
  by_cases k0:kd=0
  ·subst k0
   rw [if_pos rfl] at hlv
   subst hf1
   go_wp2_with fail
   refine HVa.out.mono ?_
   rintro r6 w6 ⟨rfl,hx6⟩
   have HX6:=bH hx6
   clear hx6 hlv x0 q0 q1
   cases hvb:validB p with
   | false =>
    rw [hvb] at HQ
    clear hvb
    go_wp2
    go_ret
    exact ⟨ret_int (by rw [HQ.out]; rfl),HX5.out.trans HX6.out⟩
   | true =>
    rw [hvb] at HQ
    clear hvb
    have H1:=bH (check1_any w6 _ _ _ _ _ p o L T _ _ _ _ (HC5.out w6 HX6.out) HSm.out)
    go_wp2_with fail
    refine H1.out.mono ?_
    rintro r7 w7 ⟨rfl,hx7⟩
    have HX7:=bH (HX6.out.trans hx7)
    clear hx7
    cases hc:chk1 p o with
    | true =>
     rw [hc] at HQ
     clear hc
     go_wp2
     go_ret
     exact ⟨ret_int (by rw [HQ.out]; rfl),HX5.out.trans HX7.out⟩
    | false =>
     rw [hc] at HQ
     clear hc
     go_wp2
     go_ret
     exact ⟨ret_int (by rw [HQ.out]; rfl),HX5.out.trans HX7.out⟩
  ·by_cases k1:kd=1
   ·subst k1
    rw [if_neg (by decide),if_pos rfl] at hlv
    subst hf2
    go_wp2_with fail
    refine HVa.out.mono ?_
    rintro r6 w6 ⟨rfl,hx6⟩
    have HX6:=bH hx6
    clear hx6 hlv x0 q0 q1
    cases hvb:validB p with
    | false =>
     rw [hvb] at HQ
     clear hvb
     go_wp2
     go_ret
     exact ⟨ret_int (by rw [HQ.out]; rfl),HX5.out.trans HX6.out⟩
    | true =>
     rw [hvb] at HQ
     clear hvb
     have H1:=bH (check2_any w6 _ _ _ _ _ p o L T _ _ _ _ (HC5.out w6 HX6.out) HSm.out)
     go_wp2_with fail
     refine H1.out.mono ?_
     rintro r7 w7 ⟨rfl,hx7⟩
     have HX7:=bH (HX6.out.trans hx7)
     clear hx7
     cases hc:chk2 p o with
     | true =>
      rw [hc] at HQ
      clear hc
      go_wp2
      go_ret
      exact ⟨ret_int (by rw [HQ.out]; rfl),HX5.out.trans HX7.out⟩
     | false =>
      rw [hc] at HQ
      clear hc
      go_wp2
      go_ret
      exact ⟨ret_int (by rw [HQ.out]; rfl),HX5.out.trans HX7.out⟩
   ·by_cases k2:kd=2
    ·subst k2
     rw [if_neg (by decide),if_neg (by decide),if_pos rfl] at hlv
     subst hf3
     go_wp2_with fail
     refine HVa.out.mono ?_
     rintro r6 w6 ⟨rfl,hx6⟩
     have HX6:=bH hx6
     clear hx6 hlv x0 q0 q1
     cases hvb:validB p with
     | false =>
      rw [hvb] at HQ
      clear hvb
      go_wp2
      go_ret
      exact ⟨ret_int (by rw [HQ.out]; rfl),HX5.out.trans HX6.out⟩
     | true =>
      rw [hvb] at HQ
      clear hvb
      have H1:=bH (check3_any w6 _ _ _ _ _ p o L T _ _ _ _ (HC5.out w6 HX6.out) HSm.out)
      go_wp2_with fail
      refine H1.out.mono ?_
      rintro r7 w7 ⟨rfl,hx7⟩
      have HX7:=bH (HX6.out.trans hx7)
      clear hx7
      cases hc:chk3 p o with
      | true =>
       rw [hc] at HQ
       clear hc
       go_wp2
       go_ret
       exact ⟨ret_int (by rw [HQ.out]; rfl),HX5.out.trans HX7.out⟩
      | false =>
       rw [hc] at HQ
       clear hc
       go_wp2
       go_ret
       exact ⟨ret_int (by rw [HQ.out]; rfl),HX5.out.trans HX7.out⟩
    ·rw [if_neg k0,if_neg k1,if_neg k2] at hlv
     have HF:Hid (checkE p o=1):=bH (by
      rw [HQ.out]
      have hb:(decide (0<=kd) && decide (kd<=2))=false:=by
       by_cases h:0<=kd
       ·rw [decide_eq_false (p:=(kd<=2)) (by omega)]; simp
       ·rw [decide_eq_false h]; rfl
      rw [Bool.and_assoc,hb]; simp)
     clear HQ k0 k1 k2
     go_wp2_with fail
     refine HVa.out.mono ?_
     rintro r6 w6 ⟨rfl,hx6⟩
     have HX6:=bH hx6
     clear hx6 hlv x0 q0 q1
     cases hvb:validB p with
     | false =>
      clear hvb
      go_wp2
      go_ret
      exact ⟨ret_int HF.out.symm,HX5.out.trans HX6.out⟩
     | true =>
      clear hvb
      go_wp2
      go_ret
      exact ⟨ret_int HF.out.symm,HX5.out.trans HX6.out⟩
def fewRow (k:Nat) (r:RowV):Bool:=decide (r.terms.length<=2*k) && decide (r.name.size<=100)
def fewP (p:ProgV) (k m:Nat):Bool:=p.rows.all (fewRow k) && decide (p.vars.length<=k) && decide (p.rows.length<=m)
theorem FewP_any (w:World) (pv:Value) (p:ProgV) (k m:Nat) (hk:k<=1000000) (hm:m<=1000000) (hp:IsPrg w pv p):Calls Tryz.prog 39 #[pv,.int .i64 k,.int .i64 m] w (BoolPost w (fewP p k m)):=by
 obtain ⟨vv,rv,rfl,hv,hr⟩:=hp
 obtain ⟨vo,vc,rfl,-,hvn,-⟩:=hv.shape
 obtain ⟨ro,rc,rfl,-,hrn,-⟩:=hr.shape
 have HV:=bH hr
 have HF:=bH (show fewP p k m=(p.rows.all (fewRow k) && decide (p.vars.length<=k) && decide (p.rows.length<=m)) from rfl)
 clear hv hr
 generalize p.vars.length=vn at *
 obtain ⟨n,hn'⟩:∃ n,p.rows.length=n:=⟨_,rfl⟩
 have HN:=bH hn'
 rw [hn'] at hrn HV HF ⊢
 clear hn'
 have HB:=bH (bI (blk_alloc_at w (.cells #[.slice vo vn vc,.slice ro n rc] 25)) ((Ext.refl (fun _=>False) w).alloc (.cells #[.slice vo vn vc,.slice ro n rc] 25)))
 go_enter Tryz.func39,Tryz.ntmps39
 go_upto_region 1 with fail
 generalize hw1:w.alloc (.cells #[.slice vo vn vc,.slice ro n rc] 25)=w1 at *
 clear hw1
 obtain ⟨pb,hpb⟩:∃ pb,w.heap.size=pb:=⟨_,rfl⟩
 rw [hpb] at HB ⊢
 clear hpb
 go_wp2_with fail
 go_loopg [7] n (fun gg v7 wr=>∃ i:Nat,i<=n/\gg=n - i/\v7=.int .i64 i/\(p.rows.take i).all (fewRow k)=true/\XF w1 wr)
 case atStart=>exact ⟨0,Nat.zero_le _,rfl,rfl,rfl,Ext.refl _ _⟩
 case round =>
  obtain ⟨i,hi,rfl,rfl,hall,hx⟩:=hrel
  have HX:=bH (bI hall hx)
  clear hall hx
  have z0:=cell_keep (cellq HB.out.1 0 rfl) HX.out.2
  have z1:=cell_keep (cellq HB.out.1 1 rfl) HX.out.2
  by_cases hin:i<n
  ·have i0:(i:Int)<(n:Int):=by omega
   have i1:(0:Int)<=(i:Int):=by omega
   have HI:Hid (i<p.rows.length):=bH (by rw [HN.out]; exact hin)
   obtain ⟨b,off,ta,tc,rfl,-,e0,e1,e2,e3,e4,hok,htm⟩:=(HV.out.keep (HB.out.2.trans HX.out.2)).atp i HI.out
   have hns:(p.r i).name.size<=9223372036854775807:=by have:=hok.name; unfold maxLen at this; omega
   obtain ⟨-,-,-,-,htn,-⟩:=htm.shape
   have HR:=bH (show fewRow k (p.rows.getD i row0)=(decide ((p.r i).terms.length<=2*k) && decide ((p.r i).name.size<=100)) from rfl)
   clear hok htm
   generalize (p.r i).terms.length=tl at *
   generalize (p.r i).name=nm at *
   obtain ⟨kk,hkk⟩:∃ kk,2*k=kk:=⟨_,rfl⟩
   have hk2:(2:Int)*(k:Int)=(kk:Int):=by omega
   rw [hkk] at HR
   have hkk63:kk<=9223372036854775807:=by omega
   clear hkk
   by_cases q1:kk<tl
   ·have q1':(kk:Int)<(tl:Int):=by omega
    go_wp2
    go_ret
    exact ⟨ret_bool (by rw [HF.out,all_fails (d:=row0) HI.out (by rw [HR.out,decide_eq_false (p:=tl<=kk) (by omega)]; rfl)]; rfl),HB.out.2.trans HX.out.2⟩
   ·have q1':¬ (kk:Int)<(tl:Int):=by omega
    by_cases q2:100<nm.size
    ·have q2':(100:Int)<(nm.size:Int):=by omega
     go_wp2
     go_ret
     exact ⟨ret_bool (by rw [HF.out,all_fails (d:=row0) HI.out (by rw [HR.out,decide_eq_false (p:=nm.size<=100) (by omega)]; simp)]; rfl),HB.out.2.trans HX.out.2⟩
    ·have q2':¬ (100:Int)<(nm.size:Int):=by omega
     go_wp2
     go_roundg (n - (i+1))
     case measure=>omega
     case rel=>exact ⟨i+1,by omega,rfl,by go_num,all_next (d:=row0) HI.out HX.out.1 (by rw [HR.out,decide_eq_true (p:=tl<=kk) (by omega),decide_eq_true (p:=nm.size<=100) (by omega)]; rfl),HX.out.2⟩
  ·obtain rfl:i=n:=by omega
   have HF2:Hid (fewP p k m=(decide (vn<=k) && decide (i<=m))):=bH (by
    have:=HX.out.1
    rw [List.take_of_length_le (by rw [HN.out]; exact Nat.le_refl _)] at this
    rw [HF.out,this]; rfl)
   by_cases q1:vn<=k
   ·have q1':(vn:Int)<=(k:Int):=by omega
    by_cases q2:i<=m
    ·have q2':(i:Int)<=(m:Int):=by omega
     go_wp2
     go_ret
     exact ⟨ret_bool (by rw [HF2.out,decide_eq_true q1,decide_eq_true q2]; rfl),HB.out.2.trans HX.out.2⟩
    ·have q2':¬ (i:Int)<=(m:Int):=by omega
     go_wp2
     go_ret
     exact ⟨ret_bool (by rw [HF2.out,decide_eq_true q1,decide_eq_false q2]; rfl),HB.out.2.trans HX.out.2⟩
   ·have q1':¬ (vn:Int)<=(k:Int):=by omega
    go_wp2
    go_ret
    exact ⟨ret_bool (by rw [HF2.out,decide_eq_false q1]; rfl),HB.out.2.trans HX.out.2⟩
def NoD (xs:List Value):Prop:=∀ u ∈ xs,∀ d,u≠.int .u32 d
theorem noDig_cells {w:World} {g:Nat} {cur:Array Value} {t:TypeId} {fr:Nat × Nat} (h:blk w g=some (.cells cur t fr)) (hn:NoD cur.toList):NoDig w g:=fun i d hc=>by
 rw [cell_of_cells h] at hc
 exact hn _ (by rw [<- Array.getElem?_toList] at hc; exact List.mem_of_getElem? hc) d rfl
theorem NoDig.cells {w:World} {g:Nat} {cur:Array Value} {t:TypeId} {fr:Nat × Nat} (hn:NoDig w g) (h:blk w g=some (.cells cur t fr)):NoD cur.toList:=fun u hu d e=>by
 obtain ⟨i,hi,rfl⟩:=List.getElem_of_mem hu
 refine hn i d ?_
 rw [cell_of_cells h,<- Array.getElem?_toList,List.getElem?_eq_getElem hi,e]
theorem NoD.append {xs ys:List Value} (h:NoD xs) (k:NoD ys):NoD (xs++ys):=fun u hu=>(List.mem_append.1 hu).elim (h u) (k u)
theorem NoD.take {xs:List Value} (h:NoD xs) (n:Nat):NoD (xs.take n):=fun u hu=>h u (List.mem_of_mem_take hu)
theorem NoD.drop {xs:List Value} (h:NoD xs) (n:Nat):NoD (xs.drop n):=fun u hu=>h u (List.mem_of_mem_drop hu)
theorem noD_zero {z:Array Value} (h:NoD z.toList) (n:Nat):NoD (Builtin.zeroCells z n).toList:=fun u hu=>by
 unfold Builtin.zeroCells at hu
 rw [Array.toList_map] at hu
 obtain ⟨i,hi,rfl⟩:=List.mem_map.1 hu
 have hi':i<n*z.size:=by simpa using hi
 have hz:0<z.size:=Nat.pos_of_ne_zero (fun e=>by rw [e] at hi'; simp at hi')
 have hm:i % z.size<z.size:=Nat.mod_lt _ hz
 rw [getElem!_pos z _ hm]
 exact h _ (by rw [<- Array.getElem_toList]; exact List.getElem_mem _)
section
variable {P:Program}
theorem append_noDig (w:World) (base:Nat) (t ty e:TypeId) (i:TypeInfo) (z:Value) (ht:P.underlying t=some (.slice e)) (hi:P.info? e=some i) (hz:i.zero=some z)
  (hzs:z.cells.size=i.size) (hzn:NoD z.cells.toList)
  (v:Value) (n:Nat) (xs:List Value) (hown:w.ownsRow base e i.size v n xs) (hnd:∀ g,v.ownBlock=some g->NoDig w g) (hxs:NoD xs)
  (a:Addr) (m c:Nat) (news:List Value) (hl:news.length=m*i.size) (hnews:∀ j u,news[j]?=some u->w.cell? (a.add j)=some u) (h1:∀ u ∈ news,u.oneCell'=true) (hnn:NoD news) (hm:0<m)
  (h63:n+m<=maxLen) (hbytes:(n+m)*i.bytes<=140737488355328) :
  ∀ v' w',(Builtin.append_ #[t,t] ty #[v,.slice (some a) m c]).run P w=.ok v' w'->∀ g,v'.ownBlock=some g->NoDig w' g:=by
 intro v' w' hrun g' hg'
 have hsmall:n+m<=9223372036854775807:=by simp only [maxLen] at h63; omega
 rcases hown.2 with ⟨rfl,rfl⟩ | ⟨g,cap,cur,rfl,hbg,hg,hnc,hcm,hcs,htake⟩
 ·have hr:=run_append_nil (P:=P) w t ty e i z ht hi hz a m c news hl hnews hm (by omega) (by have hb:=hbytes; simp only [Nat.zero_add] at hb; omega)
  rw [hr] at hrun
  injection hrun with h2 h3
  subst h2 h3
  cases hg'
  refine noDig_cells (show blk (w.drew.alloc _) w.heap.size=some _ from blk_alloc_at w.drew _) ?_
  rw [Array.toList_append]
  exact (by simpa using hnn:NoD news.toArray.toList).append (noD_zero hzn _)
 ·by_cases hroom:n+m<=cap
  ·have hfit:n*i.size+news.length<=cur.size:=by rw [hl,hcs,<- Nat.add_mul]; exact Nat.mul_le_mul_right _ hroom
   have hr:=run_append_room (P:=P) w t ty e i ht hi g n cap cur hg a m c news hl hnews h1 hroom hfit
   rw [hr] at hrun
   injection hrun with h2 h3
   subst h2 h3
   cases hg'
   have hc:=(hnd g rfl).cells (show blk w g=some _ from hg)
   refine noDig_cells (show blk (w.setRow g _) g=some _ from setRow_heap w g cur _ e _ hg) ?_
   exact ((hc.take _).append hnn).append (hc.drop _)
  ·have holds:∀ j u,xs[j]?=some u->w.cell? ((⟨g,0,none⟩:Addr).add j)=some u:=hown.cells (g:=g) rfl
   have hr:=run_append_grow (P:=P) w t ty e i z ht hi hz ⟨g,0,none⟩ n cap xs hown.1 holds a m c news hl hnews (by omega) (by omega) (growslice_fits (by omega) hbytes)
   rw [hr] at hrun
   injection hrun with h2 h3
   subst h2 h3
   cases hg'
   refine noDig_cells (show blk (w.drew.alloc _) w.heap.size=some _ from blk_alloc_at w.drew _) ?_
   rw [Array.toList_append,Array.toList_append]
   exact (hxs.append (by simpa using hnn:NoD news.toArray.toList)).append (noD_zero hzn _)
end
structure RatC where
 ng:Bool
 a1:Option Addr
 m1:Nat
 c1:Nat
 a2:Option Addr
 m2:Nat
 c2:Nat
def RatC.cells (x:RatC):List Value:=[.bool x.ng,.slice x.a1 x.m1 x.c1,.slice x.a2 x.m2 x.c2]
def RatC.v (x:RatC):Value:=.agg #[.bool x.ng,.slice x.a1 x.m1 x.c1,.slice x.a2 x.m2 x.c2]
theorem ratC_noD (x:RatC):NoD x.cells:=fun u hu d e=>by
 subst e
 simp [RatC.cells] at hu
theorem ratC_one (x:RatC):∀ u ∈ x.cells,u.oneCell'=true:=fun u hu=>by
 simp [RatC.cells] at hu
 rcases hu with rfl | rfl | rfl <;> rfl
theorem ratsC_noD (cs:List RatC):NoD (cs.flatMap RatC.cells):=fun u hu=>by
 obtain ⟨x,hx,hu⟩:=List.mem_flatMap.1 hu
 exact ratC_noD x u hu
def ROwn (w:World) (base:Nat) (v:Value) (l:List Rat) (L:Nat):Prop :=
 ∃ cs:List RatC,cs.length=l.length/\w.ownsRow base 31 3 v l.length (cs.flatMap RatC.cells)/\(∀ g,v.ownBlock=some g->NoDig w g)/\∀ (i:Nat) c q,cs[i]?=some c->l[i]?=some q->Rrat w c.v q L
theorem ROwn.shape {w:World} {base:Nat} {v:Value} {l:List Rat} {L:Nat} (h:ROwn w base v l L):∃ ao cap,v=.slice ao l.length cap:=by
 obtain ⟨cs,_,h1,_⟩:=h
 exact ownsRow_shape h1
theorem ROwn.lt {w:World} {base:Nat} {v:Value} {l:List Rat} {L:Nat} (h:ROwn w base v l L):∀ g,v.ownBlock=some g->base<=g/\g<w.heap.size:=by
 obtain ⟨cs,_,h1,_⟩:=h
 exact h1.lt
theorem ROwn.past {S:Nat->Prop} {w w':World} {base:Nat} {v:Value} {l:List Rat} {L:Nat} (h:ROwn w base v l L) (hx:Ext S w w') (hn:∀ g,v.ownBlock=some g->¬ S g) (hr:∀ u d,Rds w u d->Rds w' u d):ROwn w' base v l L:=by
 have hlt:=h.lt
 obtain ⟨cs,h1,h2,h3,h4⟩:=h
 refine ⟨cs,h1,ownsRow_ext h2 hx hn,fun g hg i d hc=>h3 g hg i d ?_,fun i c q hc hq=>?_⟩
 ·rw [<- hx.cell (p:=⟨g,i,none⟩) (hlt g hg).2 (hn g hg)]; exact hc
 ·obtain ⟨n,m,d,l,k,g1,g2,g3,g4,g5⟩:=h4 i c q hc hq
  exact ⟨n,m,d,l,k,g1,hr _ _ g2,g3,hr _ _ g4,g5⟩
theorem ROwn.keep {w w':World} {base:Nat} {v:Value} {l:List Rat} {L:Nat} (h:ROwn w base v l L) (hx:XF w w'):ROwn w' base v l L:=h.past hx (fun _ _ h=>h) (fun _ _ hr=>hr.keep hx)
theorem ROwn.rats {w:World} {base:Nat} {v:Value} {l:List Rat} {L:Nat} (h:ROwn w base v l L):Rats w v l L:=by
 obtain ⟨cs,h1,h2,h3,h4⟩:=h
 rcases h2.2 with ⟨rfl,h0⟩ | ⟨g,cap,cur,rfl,hb,hg,hnc,hcm,hcs,htake⟩
 ·have hl:=List.eq_nil_of_length_eq_zero h0
  subst hl
  exact Rats.nil w L
 ·refine ⟨cs.map RatC.cells,by rw [List.length_map,h1],⟨some ⟨g,0,none⟩,cap,by rw [List.length_map,h1],by rw [List.length_map,h1]; exact hnc,hcm,(fun e=>by cases e),fun hp=>⟨g,0,rfl,(Array.getElem?_eq_some_iff.1 hg).1,fun i r hi j u hu=>?_⟩⟩,fun i c q hc hq=>?_⟩
  ·rw [List.getElem?_map] at hi
   obtain ⟨x,hx,rfl⟩:=Option.map_eq_some_iff.1 hi
   have hil:i<cs.length:=(List.getElem?_eq_some_iff.1 hx).1
   have hj:j<3:=(List.getElem?_eq_some_iff.1 hu).1
   have hget:=fm_get (f:=RatC.cells) (m:=3) (fun _=>rfl) cs i hx j hj
   rw [<- htake] at hget
   rw [Nat.zero_add,cell_of_cells (show blk w g=some _ from hg),<- Array.getElem?_toList,<- hu,<- hget,List.getElem?_take,if_pos (by
    have:i<l.length:=by omega
    omega)]
  ·rw [List.getElem?_map] at hc
   obtain ⟨x,hx,rfl⟩:=Option.map_eq_some_iff.1 hc
   exact h4 i x q hx hq
theorem run_append_rat (w:World) (base:Nat) (v:Value) (l:List Rat) (L:Nat) (x:RatC) (q:Rat) (ad:Addr) (c:Nat) (ty:TypeId) (h:ROwn w base v l L) (hq:Rrat w x.v q L) (hsrc:∀ j u,x.cells[j]?=some u->w.cell? (ad.add j)=some u) (hl:l.length<=1000000) (hbase:base<=w.heap.size) :
  ∃ v' w',(Builtin.append_ #[32,32] ty #[v,.slice (some ad) 1 c]).run Tryz.prog w=.ok v' w'/\ROwn w' base v' (l++[q]) L/\Ext (fun k=>v.ownBlock=some k) w w'/\(∀ u d,Rds w u d->Rds w' u d):=by
 obtain ⟨i0,hi,hz0,hz1,hz2⟩:=info_parts Tryz.infoRat
 obtain ⟨cs,h1,h2,h3,h4⟩:=h
 have h2':w.ownsRow base 31 i0.size v l.length (cs.flatMap RatC.cells):=by rw [hz1]; exact h2
 have hsz:(Value.agg #[.bool false,.slice none 0 0,.slice none 0 0]).cells.size=i0.size:=by rw [hz1]; rfl
 have hzn:NoD (Value.agg #[.bool false,.slice none 0 0,.slice none 0 0]).cells.toList:=ratC_noD ⟨false,none,0,0,none,0,0⟩
 have hbt:(l.length+1)*i0.bytes<=140737488355328:=by rw [hz2]; omega
 have h63:l.length+1<=maxLen:=by unfold maxLen; omega
 obtain ⟨v',w',hr,g1,g2,_,g5⟩:=run_append_own_at (P:=Tryz.prog) w base 32 ty 31 i0 _ i0.size i0.bytes Tryz.underlying32 hi hz0 rfl rfl hsz (by rw [hz1]; decide) v l.length _ h2' ad 1 c x.cells (by rw [hz1]; rfl) hsrc (ratC_one x) h63 hbt hbase
 have hx:Ext (fun k=>v.ownBlock=some k) w w':=(Ext.refl (fun k=>v.ownBlock=some k) w).grown g2 (fun k hk _=>hk)
 have hrd:∀ u d,Rds w u d->Rds w' u d:=fun u d hu=>hu.past hx (fun k _ hk=>h3 k hk)
 have hnd:=append_noDig (P:=Tryz.prog) w base 32 ty 31 i0 _ Tryz.underlying32 hi hz0 hsz hzn v l.length _ h2' h3 (ratsC_noD cs) ad 1 c x.cells (by rw [hz1]; rfl) hsrc (ratC_one x) (ratC_noD x) (by omega) h63 hbt v' w' hr
 refine ⟨v',w',hr,⟨cs++[x],by rw [List.length_append,List.length_append,h1]; rfl,?_,hnd,fun i c' q' hc' hq'=>?_⟩,hx,hrd⟩
 ·rw [List.length_append,List.flatMap_append,List.flatMap_cons,List.flatMap_nil,List.append_nil]
  rw [hz1] at g1
  exact g1
 ·have hkeep:∀ {c:RatC} {q:Rat},Rrat w c.v q L->Rrat w' c.v q L:=fun hh=>by
   obtain ⟨n,m,d,l,k,e1,e2,e3,e4,e5⟩:=hh
   exact ⟨n,m,d,l,k,e1,hrd _ _ e2,e3,hrd _ _ e4,e5⟩
  by_cases hi':i<cs.length
  ·rw [List.getElem?_append_left hi'] at hc'
   rw [List.getElem?_append_left (by omega)] at hq'
   exact hkeep (h4 i c' q' hc' hq')
  ·rw [List.getElem?_append_right (by omega)] at hc' hq'
   have e:i - cs.length=0:=by
    have:=(List.getElem?_eq_some_iff.1 hc').1
    simp at this
    omega
   rw [e] at hc'
   rw [show i - l.length=0 from by omega] at hq'
   cases hc'; cases hq'
   exact hkeep hq
theorem wpList_append_rat {w:World} {ops:Array Oper} {rest:List Oper} {o:Oper} {a:Act} {Q:Exit->Act->World->Prop} (hgd:o.guard=none) (s x:Operand)
  (ho:o.op=.call { callee:=.builtin .append,args:=#[s,x],argTypes:=#[32,32] })
  (base:Nat) (v:Value) (l:List Rat) (L:Nat) (hs:a.eval s=v) (hown:ROwn w base v l L) (e:RatC) (q:Rat) (hq:Rrat w e.v q L) (ad:Addr) (c:Nat) (hx:a.eval x=.slice (some ad) 1 c) (hsrc:∀ j u,e.cells[j]?=some u->w.cell? (ad.add j)=some u) (hl:l.length<=1000000) (hbase:base<=w.heap.size)
  (h:∀ v' w',ROwn w' base v' (l++[q]) L->Ext (fun k=>v.ownBlock=some k) w w'->(∀ u d,Rds w u d->Rds w' u d)->wpList Tryz.prog ops Q rest (a.put o.dst v') w') :
  wpList Tryz.prog ops Q (o :: rest) a w:=by
 refine wpList_plain hgd fun K hK=>?_
 obtain ⟨v',w',hr,h2,h3,h5⟩:=run_append_rat w base v l L e q ad c o.type hown hq hsrc hl hbase
 unfold Oper.wp execOp
 simp only [ho,resolve,invoke,builtin,Sem.run_bind,Sem.run_pure,Result.andThen_ok,List.map_toArray,List.map_cons,List.map_nil,hs,hx,hr]
 exact hK _ _ (h v' w' h2 h3 h5)
theorem ROwn.empty {w:World} {g base:Nat} (L:Nat) (h:blk w g=some (.cells #[] 31 (0,0))) (hb:base<=g):ROwn w base (.slice (some ⟨g,0,none⟩) 0 0) [] L :=
 ⟨[],rfl,ownsRow_empty 3 hb h,(fun g' e=>by cases e; exact noDig_cells h (fun u hu=>by cases hu)),(fun i c q h=>by simp at h)⟩
def RatsPost (w:World) (l:List Rat) (L:Nat) (r:Ending) (w':World):Prop:=∃ v,r=.returned v/\Rats w' v l L/\XF w w'
theorem ext_own {w0 w w':World} {v:Value} (h:XF w0 w) (hx:Ext (fun k=>v.ownBlock=some k) w w') (hb:∀ g,v.ownBlock=some g->w0.heap.size<=g):XF w0 w' :=
 h.own hx (fun k hk=>hb k hk)
end Go.Proofs.YtbgienfcmdgaaaaGreat
