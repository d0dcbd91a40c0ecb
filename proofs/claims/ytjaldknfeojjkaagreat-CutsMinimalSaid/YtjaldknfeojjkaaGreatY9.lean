/-
  Texts of the proof, part 9. Conditions: each lemma names its own.
-/
import Derived.Test.YtjaldknfeojjkaaGreatY3
import Derived.Test.YtjaldknfeojjkaaGreatY4
import Derived.Test.YtjaldknfeojjkaaGreatY5
import Derived.Test.YtjaldknfeojjkaaGreatY8
import Derived.OpenShut
import Derived.ShutString
import Derived.ChangeOld
import Derived.Deep.Slices
import Derived.Lib.SmallJoins
import Derived.Maps.RangeWalk
set_option linter.unusedVariables false
set_option linter.unusedSimpArgs false
set_option maxRecDepth 100000
set_option maxHeartbeats 16000000
namespace Go.Proofs.YtjaldknfeojjkaaGreat
open Go.RowKit Go.MapKept
open Go.ChangeMaps (setBlock)
def CovR (p:ProgV) (row:Int) (x:List Rat) (c:CutV) (ok:Bool):Prop :=
 ((0<=row/\row<p.rows.length/\validB p=true)/\CovIs p row x c ok)∨(¬ (0<=row/\row<p.rows.length/\validB p=true)/\ok=false/\c=⟨0,[],0,[]⟩)
def CoverPost (w:World) (p:ProgV) (row:Int) (x:List Rat) (r:Ending) (w':World):Prop:=∃ sv c ok,r=.returned (.tuple #[.agg #[.int .i64 c.kind,.slice none 0 0,.int .i64 c.row,sv],.bool ok])/\IRow w' w.heap.size sv c.vars/\c.mul=[]/\CovR p row x c ok/\XF w w'
theorem Cover_any (w:World) (pv xv:Value) (p:ProgV) (row:Int) (x:List Rat) (L:Nat) (hp:IsPrg w pv p) (hx:Rats w xv x L) (h1:1<=L) (hL:L<=4194304) (hn:p.vars.length<=6) (hl:∀ i,i<p.rows.length->(p.r i).terms.length<=12) :
  Calls Tryz.prog 20 #[pv,.int .i64 row,xv] w (CoverPost w p row x):=by
 have HVa:=bH (fun W (hW:XF w W)=>Valid_any W pv p (hp.keep hW))
 have HMi:=bH (fun W (hW:XF w W) (i:Nat) (hi:i<p.rows.length) (hval:validB p=true)=>minimal_any W pv xv p i x L (hp.keep hW) hval hi (hx.keep hW) h1 hL hn (hl i hi))
 obtain ⟨vv,rv,rfl,hpv,hpr⟩:=hp
 obtain ⟨vo,vc,rfl,-,-,-⟩:=hpv.shape
 obtain ⟨ro,rc,rfl,-,-,-⟩:=hpr.shape
 obtain ⟨xo,xc,rfl,-,-,-⟩:=hx.shape
 obtain ⟨VB,hVB⟩:∃ x,validB p=x:=⟨_,rfl⟩
 have HVB:=bH hVB
 rw [hVB] at HVa HMi
 obtain ⟨n,hn'⟩:∃ x,p.vars.length=x:=⟨_,rfl⟩
 obtain ⟨m,hm'⟩:∃ x,p.rows.length=x:=⟨_,rfl⟩
 obtain ⟨xn,hxn⟩:∃ y,x.length=y:=⟨_,rfl⟩
 have HM:=bH hm'
 rw [hn',hm'] at HVa HMi
 rw [hxn] at HMi
 rw [hn',hm',hxn]
 clear hpv hpr hx hn hl hn' hm' hxn hVB
 have hxa:=(Ext.refl (fun _=>False) w).alloc (.cells #[.slice vo n vc,.slice ro m rc] 25)
 have hxb:=(Ext.refl (fun _=>False) (w.alloc (.cells #[.slice vo n vc,.slice ro m rc] 25))).alloc (.cells #[.int .i64 0,.slice none 0 0,.int .i64 0,.slice none 0 0] 29)
 have hb1:=blk_keep (blk_alloc_at w (.cells #[.slice vo n vc,.slice ro m rc] 25)) hxb
 have hb2:blk ((w.alloc (.cells #[.slice vo n vc,.slice ro m rc] 25)).alloc (.cells #[.int .i64 0,.slice none 0 0,.int .i64 0,.slice none 0 0] 29)) (w.heap.size+1)=some (.cells #[.int .i64 0,.slice none 0 0,.int .i64 0,.slice none 0 0] 29 (0,0)):=by
  have h:=blk_alloc_at (w.alloc (.cells #[.slice vo n vc,.slice ro m rc] 25)) (.cells #[.int .i64 0,.slice none 0 0,.int .i64 0,.slice none 0 0] 29)
  rwa [World.size_alloc] at h
 have HB:=bH hb1
 have HZ:=bH hb2
 have HX:=bH (hxa.trans hxb)
 have HLo:=bH (show w.heap.size<=w.heap.size+1 by omega)
 clear hxa hxb hb1 hb2
 go_enter Tryz.func20,Tryz.ntmps20
 go_upto_region 1 with fail
 generalize (w.alloc (.cells #[.slice vo n vc,.slice ro m rc] 25)).alloc (.cells #[.int .i64 0,.slice none 0 0,.int .i64 0,.slice none 0 0] 29)=w1 at *
 generalize w.heap.size+1=cb at *
 obtain ⟨pb,hpb⟩:∃ q,w.heap.size=q:=⟨_,rfl⟩
 rw [hpb] at HB ⊢
 clear hpb
 have p0:=cellq HB.out 0 rfl
 have p1:=cellq HB.out 1 rfl
 by_cases hr0:row<0
 ·have HEx:=bH (show ¬ (0<=row/\row<p.rows.length/\validB p=true) from fun h=>by omega)
  clear p0
  have HP:=bH (cut_put HZ.out (.int .i64 0) (.slice none 0 0) (.int .i64 0) (.slice none 0 0))
  have y0:=free_of_cells HZ.out
  have z0:=cellq HZ.out 0 rfl
  have z1:=cellq HZ.out 1 rfl
  have z2:=cellq HZ.out 2 rfl
  have z3:=cellq HZ.out 3 rfl
  go_wp2
  generalize (((w1.setCell ⟨cb,0,none⟩ (.int .i64 0)).setCell ⟨cb,1,none⟩ (.slice none 0 0)).setCell ⟨cb,2,none⟩ (.int .i64 0)).setCell ⟨cb,3,none⟩ (.slice none 0 0)=w9 at *
  have g0:=cellq HP.out.1 0 rfl
  have g1:=cellq HP.out.1 1 rfl
  have g2:=cellq HP.out.1 2 rfl
  have g3:=cellq HP.out.1 3 rfl
  exact bodyPost_ret (v:=.tuple #[.agg #[.int .i64 0,.slice none 0 0,.int .i64 0,.slice none 0 0],.bool false]) (by simp [results,Tryz.results20,go_sem,g0,g1,g2,g3]) rfl ⟨.slice none 0 0,⟨0,[],0,[]⟩,false,rfl,IRow.nil _ _,rfl,.inr ⟨HEx.out,rfl,rfl⟩,HX.out.own HP.out.2 (fun k e=>by rw [show k=cb from e]; exact HLo.out)⟩
 ·by_cases hr1:(m:Int)<=row
  ·have HEx:=bH (show ¬ (0<=row/\row<p.rows.length/\validB p=true) from fun h=>by have:=HM.out; omega)
   clear p0
   have HP:=bH (cut_put HZ.out (.int .i64 0) (.slice none 0 0) (.int .i64 0) (.slice none 0 0))
   have y0:=free_of_cells HZ.out
   have z0:=cellq HZ.out 0 rfl
   have z1:=cellq HZ.out 1 rfl
   have z2:=cellq HZ.out 2 rfl
   have z3:=cellq HZ.out 3 rfl
   go_wp2
   generalize (((w1.setCell ⟨cb,0,none⟩ (.int .i64 0)).setCell ⟨cb,1,none⟩ (.slice none 0 0)).setCell ⟨cb,2,none⟩ (.int .i64 0)).setCell ⟨cb,3,none⟩ (.slice none 0 0)=w9 at *
   have g0:=cellq HP.out.1 0 rfl
   have g1:=cellq HP.out.1 1 rfl
   have g2:=cellq HP.out.1 2 rfl
   have g3:=cellq HP.out.1 3 rfl
   exact bodyPost_ret (v:=.tuple #[.agg #[.int .i64 0,.slice none 0 0,.int .i64 0,.slice none 0 0],.bool false]) (by simp [results,Tryz.results20,go_sem,g0,g1,g2,g3]) rfl ⟨.slice none 0 0,⟨0,[],0,[]⟩,false,rfl,IRow.nil _ _,rfl,.inr ⟨HEx.out,rfl,rfl⟩,HX.out.own HP.out.2 (fun k e=>by rw [show k=cb from e]; exact HLo.out)⟩
  ·obtain ⟨i,rfl⟩:∃ i:Nat,row=i:=⟨row.toNat,by omega⟩
   have him:i<m:=by omega
   go_wp2_with fail
   refine (HVa.out w1 HX.out).mono ?_
   rintro r2 w2 ⟨rfl,hx2⟩
   replace HB:=bH (blk_keep HB.out hx2)
   replace HZ:=bH (blk_keep HZ.out hx2)
   replace HX:=bH (HX.out.trans hx2)
   clear p0 p1 hx2 HVa
   cases VB with
   | false =>
    have HEx:=bH (show ¬ (0<=(i:Int)/\(i:Int)<p.rows.length/\validB p=true) from fun h=>by rw [HVB.out] at h; cases h.2.2)
    have HP:=bH (cut_put HZ.out (.int .i64 0) (.slice none 0 0) (.int .i64 0) (.slice none 0 0))
    have y0:=free_of_cells HZ.out
    have z0:=cellq HZ.out 0 rfl
    have z1:=cellq HZ.out 1 rfl
    have z2:=cellq HZ.out 2 rfl
    have z3:=cellq HZ.out 3 rfl
    go_wp2
    generalize (((w2.setCell ⟨cb,0,none⟩ (.int .i64 0)).setCell ⟨cb,1,none⟩ (.slice none 0 0)).setCell ⟨cb,2,none⟩ (.int .i64 0)).setCell ⟨cb,3,none⟩ (.slice none 0 0)=w9 at *
    have g0:=cellq HP.out.1 0 rfl
    have g1:=cellq HP.out.1 1 rfl
    have g2:=cellq HP.out.1 2 rfl
    have g3:=cellq HP.out.1 3 rfl
    exact bodyPost_ret (v:=.tuple #[.agg #[.int .i64 0,.slice none 0 0,.int .i64 0,.slice none 0 0],.bool false]) (by simp [results,Tryz.results20,go_sem,g0,g1,g2,g3]) rfl ⟨.slice none 0 0,⟨0,[],0,[]⟩,false,rfl,IRow.nil _ _,rfl,.inr ⟨HEx.out,rfl,rfl⟩,HX.out.own HP.out.2 (fun k e=>by rw [show k=cb from e]; exact HLo.out)⟩
   | true =>
    have HEx:=bH (show 0<=(i:Int)/\(i:Int)<p.rows.length/\validB p=true from ⟨by omega,by rw [HM.out]; omega,HVB.out⟩)
    have HMx:=bH (HMi.out w2 HX.out i him rfl)
    have p0:=cellq HB.out 0 rfl
    have p1:=cellq HB.out 1 rfl
    go_wp2_with fail
    refine HMx.out.mono ?_
    rintro r3 w3 ⟨sv,c,ok,rfl,hir,hmul,hcov,hx3⟩
    have HR:=bH (bI hir (bI hmul (bI hcov (HX.out.trans hx3))))
    replace HZ:=bH (blk_keep HZ.out hx3)
    have HLs:=bH (Nat.le_trans HX.out.size (Nat.le_refl _))
    clear p0 p1 hir hmul hcov hx3 HMx HB
    obtain ⟨kd,hkd⟩:∃ q,c.kind=q:=⟨_,rfl⟩
    obtain ⟨cr,hcr⟩:∃ q,c.row=q:=⟨_,rfl⟩
    rw [hkd,hcr]
    have HK:=bH (bI hkd hcr)
    clear hkd hcr
    have y0:=free_of_cells HZ.out
    have z0:=cellq HZ.out 0 rfl
    have z1:=cellq HZ.out 1 rfl
    have z2:=cellq HZ.out 2 rfl
    have z3:=cellq HZ.out 3 rfl
    have HP:=bH (cut_put HZ.out (.int .i64 kd) (.slice none 0 0) (.int .i64 cr) sv)
    have HOw:=bH (show IRow _ w.heap.size sv c.vars from own_down (ownsRow_ext HR.out.1 HP.out.2 (fun g hg e=>typ_ne' (own_ty HR.out.1 g hg) ⟨_,HZ.out⟩ (by decide) e)) HLs.out)
    have HXf:=bH (HR.out.2.2.2.own HP.out.2 (fun k e=>by rw [show k=cb from e]; exact HLo.out))
    obtain ⟨so,sn,sc,rfl⟩:∃ so sn sc,sv=.slice so sn sc:=by obtain ⟨a,b,h,-⟩:=HR.out.1.inz.shape; exact ⟨_,_,_,h⟩
    go_wp2
    generalize (((w3.setCell ⟨cb,0,none⟩ (.int .i64 kd)).setCell ⟨cb,1,none⟩ (.slice none 0 0)).setCell ⟨cb,2,none⟩ (.int .i64 cr)).setCell ⟨cb,3,none⟩ (.slice so sn sc)=w9 at *
    have g0:=cellq HP.out.1 0 rfl
    have g1:=cellq HP.out.1 1 rfl
    have g2:=cellq HP.out.1 2 rfl
    have g3:=cellq HP.out.1 3 rfl
    exact bodyPost_ret (v:=.tuple #[.agg #[.int .i64 kd,.slice none 0 0,.int .i64 cr,.slice so sn sc],.bool ok]) (by simp [results,Tryz.results20,go_sem,g0,g1,g2,g3]) rfl ⟨_,c,ok,by rw [HK.out.1,HK.out.2],HOw.out,HR.out.2.1,.inl ⟨HEx.out,HR.out.2.2.1⟩,HXf.out⟩
def breaksP (p:ProgV) (c:CutV) (x:List Rat):Bool:=decide ((dervP p c).2=0) && (decide ((dervP p c).1.kind=1) && decide ((dotQ (dervP p c).1.terms x - ((dervP p c).1.bound:Rat)).num.sign<0) || decide ((dervP p c).1.kind=0) && decide (0<(dotQ (dervP p c).1.terms x - ((dervP p c).1.bound:Rat)).num.sign))
theorem limB_inR {z:Int} (h:limB z=true):InR z:=by
 unfold limB at h
 simp only [Bool.and_eq_true,decide_eq_true_eq] at h
 exact ⟨by omega,by omega⟩
theorem derv_small {p:ProgV} {c:CutV} (hs:CSmall p c):InR (dervP p c).1.bound/\(dervP p c).1.terms.length<=1000:=by
 have hz:InR row0.bound/\row0.terms.length<=1000:=⟨⟨by decide,by decide⟩,by decide⟩
 unfold dervP
 split
 ·split
  ·unfold roundP
   split
   ·split
    ·rename_i h
     unfold roundOk at h
     simp only [Bool.and_eq_true] at h
     exact ⟨limB_inR h.2,Nat.le_trans (termsTo_len _ _) (by have:=hs.vars; omega)⟩
    ·exact hz
   ·exact hz
  ·split
   ·refine ⟨?_,?_⟩
    ·have:=hs.cut
     show (-9223372036854775808:Int)<=(c.vars.length:Int) - 1/\(c.vars.length:Int) - 1<=9223372036854775807
     omega
    ·show (onesT c.vars).length<=1000
     unfold onesT
     rw [List.length_map]; exact hs.cut
   ·exact hz
 ·exact hz
theorem breaks_any (w:World) (pv cv xv:Value) (p:ProgV) (c:CutV) (x:List Rat) (L:Nat) (hp:IsPrg w pv p) (hc:IsCut w cv c 10) (hval:validB p=true) (hs:CSmall p c) (hx:Rats w xv x L) (h1:1<=L) (hL:L<=100) :
  Calls Tryz.prog 48 #[pv,cv,xv] w (BoolPost w (breaksP p c x)):=by
 have HDv:=bH (fun W (hW:XF w W)=>derive_any W pv cv p c (hp.keep hW) (hc.keep hW) hval hs)
 have HX:=bH hx
 have HSm:=bH (derv_small hs)
 have HBr:=bH (show breaksP p c x=(decide ((dervP p c).2=0) && (decide ((dervP p c).1.kind=1) && decide ((dotQ (dervP p c).1.terms x - ((dervP p c).1.bound:Rat)).num.sign<0) || decide ((dervP p c).1.kind=0) && decide (0<(dotQ (dervP p c).1.terms x - ((dervP p c).1.bound:Rat)).num.sign))) from rfl)
 obtain ⟨vv,rv,rfl,hpv,hpr⟩:=hp
 obtain ⟨vo,vc,rfl,-,-,-⟩:=hpv.shape
 obtain ⟨ro,rc,rfl,-,-,-⟩:=hpr.shape
 obtain ⟨yv,sv,rfl,hy,hv⟩:=hc
 obtain ⟨yo,yc,rfl,-,-,-⟩:=hy.shape
 obtain ⟨so,sc,rfl,hsm⟩:=hv.shape
 obtain ⟨xo,xc,rfl,-,-,-⟩:=hx.shape
 obtain ⟨BR,hBR⟩:∃ b,breaksP p c x=b:=⟨_,rfl⟩
 rw [hBR] at HBr ⊢
 obtain ⟨kd,hkd⟩:∃ x,c.kind=x:=⟨_,rfl⟩
 obtain ⟨crow,hcr⟩:∃ x,c.row=x:=⟨_,rfl⟩
 obtain ⟨n,hn⟩:∃ x,p.vars.length=x:=⟨_,rfl⟩
 obtain ⟨m,hm⟩:∃ x,p.rows.length=x:=⟨_,rfl⟩
 obtain ⟨yn,hyn⟩:∃ x,c.mul.length=x:=⟨_,rfl⟩
 obtain ⟨sl,hsl⟩:∃ x,c.vars.length=x:=⟨_,rfl⟩
 obtain ⟨xn,hxn⟩:∃ y,x.length=y:=⟨_,rfl⟩
 rw [hkd,hcr,hn,hm,hyn,hsl] at HDv
 rw [hkd,hcr,hn,hm,hyn,hsl,hxn]
 rw [hxn] at HX
 obtain ⟨re,hre⟩:∃ re,dervP p c=re:=⟨_,rfl⟩
 rw [hre] at HDv HSm HBr
 obtain ⟨⟨nm,gr,rk,ts,bd⟩,er⟩:=re
 clear hpv hpr hy hv hx hkd hcr hn hm hyn hsl hxn hsm hBR hre hs hval
 have hxa:=(Ext.refl (fun _=>False) w).alloc (.cells #[.slice vo n vc,.slice ro m rc] 25)
 have hxb:=(Ext.refl (fun _=>False) (w.alloc (.cells #[.slice vo n vc,.slice ro m rc] 25))).alloc (.cells #[.int .i64 kd,.slice yo yn yc,.int .i64 crow,.slice so sl sc] 29)
 have HXa:=bH (hxa.trans hxb)
 clear hxa hxb
 go_enter Tryz.func48,Tryz.ntmps48
 go_wp2_with fail
 refine (HDv.out _ HXa.out).mono ?_
 rintro r1 w1 ⟨tv,rfl,ht,hx1,-⟩
 obtain ⟨tao,tac,rfl,-⟩:=ht.shape
 have HT:=bH (bI ht (HXa.out.trans hx1))
 clear ht hx1 HDv
 obtain ⟨tl,htl⟩:∃ q,ts.length=q:=⟨_,rfl⟩
 have HTl:=bH htl
 dsimp only at HBr HSm HT ⊢
 rw [htl] at HT ⊢
 clear htl
 have hxr:=(Ext.refl (fun _=>False) w1).alloc (.cells #[.string nm,.int .i64 gr,.int .i64 rk,.slice tao tl tac,.int .i64 bd] 35)
 have HRb:=bH (blk_alloc_at w1 (.cells #[.string nm,.int .i64 gr,.int .i64 rk,.slice tao tl tac,.int .i64 bd] 35))
 replace HT:=bH (bI (HT.out.1.keep hxr) (HT.out.2.trans hxr))
 clear hxr
 by_cases he:er=0
 ·subst he
  have HBe:=bH (show BR=(decide (rk=1) && decide ((dotQ ts x - (bd:Rat)).num.sign<0) || decide (rk=0) && decide (0<(dotQ ts x - (bd:Rat)).num.sign)) from by rw [HBr.out,decide_eq_true (show (0:Int)=0 from rfl),Bool.true_and])
  clear HBr
  go_upto_region 4 with fail
  generalize w1.alloc (.cells #[.string nm,.int .i64 gr,.int .i64 rk,.slice tao tl tac,.int .i64 bd] 35)=w3 at *
  generalize w1.heap.size=rwb at *
  have HDo:=bH (fun W (hW:XF w3 W)=>Dot_any W _ _ ts x L (HT.out.1.keep hW) (HX.out.keep (HT.out.2.trans hW)) h1 (by
   have h:=HSm.out.2
   have:=Nat.mul_le_mul h (show L+3<=103 by omega)
   omega))
  have HDs:=bH (dot_sz (T:=1000) (fun k hk=>HT.out.1.ok k hk) (fun i=>HX.out.sz h1 i) HSm.out.2)
  have HF:=bH (fun W=>rfrom_any W bd HSm.out.1.1 HSm.out.1.2)
  have HC:=bH (fun W u u' (hu:IsRat W u (dotQ ts x)) (hu':IsRat W u' ((bd:Int):Rat))=>rcmp_any W u u' (dotQ ts x) _ (1+1000*(L+3)+2) (hu.reads (HDs.out.mono (by omega))) (hu'.reads ((Sz.int HSm.out.1).mono (by omega))) (by omega) (by omega))
  obtain ⟨S,hS⟩:∃ S,(dotQ ts x - (bd:Rat)).num.sign=S:=⟨_,rfl⟩
  rw [hS] at HC HBe
  generalize dotQ ts x=D at *
  have HBq:=bH (rfl:(bd:Rat)=(bd:Rat))
  clear HSm HDs hS
  have r3:=cq (cellq HRb.out 3 rfl)
  have r4:=cq (cellq HRb.out 4 rfl)
  refine wp_region_held_drew (S:=(XF w3)) (by kernel_rfl) ((Ext.refl _ w3).drew) (fun hHeld=>?_)
  refine ht 0 (h:=(ht 1 (h:=(ht 2 (h:=(ht 4 (h:=(ht 5 (h:=?_)))))))))
  (try go_frame)
  refine hst 3 (h:=fun K hK=>?_)
  (go_simp; go_at_call 84; (with_reducible refine (HDo.out _ hHeld).mono ?_); rintro q1 w11 ⟨v11,rfl,h11,hx11⟩; have hX1:=hHeld.trans hx11; have H11:=bH h11)
  refine hK.out _ _ (hX1) (fun hHeld=>?_)
  clear hK K
  (try go_frame)
  refine hst 6 (h:=fun K hK=>?_)
  (go_simp; go_at_call 85; (with_reducible refine (HF.out w11).mono ?_); rintro q2 w12 ⟨v12,rfl,h12,hx12⟩; have hX2:=hX1.trans hx12; have H12:=bH (bI (H11.out.keep hx12) h12))
  refine hK.out _ _ (hX2) (fun hHeld=>?_)
  clear hK K
  (try go_frame)
  refine hst 7 (h:=fun K hK=>?_)
  (go_simp; go_at_call 74; (with_reducible refine (HC.out w12 v11 v12 H12.out.1 H12.out.2).mono ?_); rintro q3 w13 ⟨rfl,hx13⟩; have hX3:=hX2.trans hx13)
  refine hK.out _ _ (hX3) (fun hHeld=>?_)
  clear hK K
  (try go_frame)
  refine ht 8 (h:=?_)
  (try go_frame)
  refine wpAnyH_done (by kernel_rfl) ?_ _
  have HXe:=bH (HT.out.2.trans hX3)
  have HRe:=bH (blk_keep HRb.out hX3)
  clear r3 r4 hX1 hX2 hX3 hx11 hx12 hx13 HDo HF HC H11 H12 HT HX hHeld
  have r2:=cellq HRe.out 2 rfl
  obtain ⟨Nn,hNn⟩:∃ b,decide (S<0)=b:=⟨_,rfl⟩
  obtain ⟨Np,hNp⟩:∃ b,decide (0<S)=b:=⟨_,rfl⟩
  rw [hNn,hNp] at HBe
  by_cases hk1:rk=1
  ·subst hk1
   have HBf:=bH (show BR=Nn from by rw [HBe.out]; simp)
   cases Nn <;> (go_wp2; go_ret; exact ⟨by rw [HBf.out]; rfl,HXe.out⟩)
  ·by_cases hk0:rk=0
   ·subst hk0
    have HBf:=bH (show BR=Np from by rw [HBe.out]; simp)
    cases Np <;> (go_wp2; go_ret; exact ⟨by rw [HBf.out]; rfl,HXe.out⟩)
   ·have HBf:=bH (show BR=false from by rw [HBe.out,decide_eq_false hk1,decide_eq_false hk0]; rfl)
    have k1:(rk == 1)=false:=by simpa using hk1
    have k2:decide (rk=1)=false:=decide_eq_false hk1
    have k3:(rk == 0)=false:=by simpa using hk0
    have k4:decide (rk=0)=false:=decide_eq_false hk0
    go_wp2
    go_ret
    exact ⟨by rw [HBf.out]; rfl,HXe.out⟩
 ·have HBe:=bH (show BR=false from by rw [HBr.out,decide_eq_false he]; rfl)
  have k1:(er == 0)=false:=by simpa using he
  have k2:decide (er=0)=false:=decide_eq_false he
  go_wp2
  go_ret
  exact ⟨by rw [HBe.out]; rfl,HT.out.2⟩
theorem reducedN_any (w:World) (v v':Value) (z:Int) (y L:Nat) (h:Rint w v z L) (h':Rint w v' (-(y:Int)) L) (hy:0<y) (hL:L<=33554432) :
  Calls Tryz.prog 153 #[v,v'] w (RatPost w (mkRat (-z) y)):=by
 have HSg:=bH (fun W (hW:XF w W)=>isign_any W v' _ L (h'.keep hW) (by omega))
 rw [show (-(y:Int)).sign = -1 from Int.sign_eq_neg_one_of_neg (by omega)] at HSg
 have HN1:=bH (fun W (hW:XF w W)=>ineg_any W v z L (h.keep hW) (by omega))
 have HN2:=bH (fun W (hW:XF w W)=>ineg_any W v' _ L (h'.keep hW) (by omega))
 rw [Int.neg_neg] at HN2
 obtain ⟨hq1,hq2⟩:=red_num (z:=-z) hy
 have hzl:(dg (-z).natAbs).length<=L:=by rw [Int.natAbs_neg]; exact h.len
 have hyl:(dg y).length<=L:=by have:=h'.len; rwa [Int.natAbs_neg,Int.natAbs_natCast] at this
 have hg:0<Nat.gcd (-z).natAbs y:=Nat.gcd_pos_of_pos_right _ hy
 have hgl:(dg (Nat.gcd (-z).natAbs y)).length<=L:=Nat.le_trans (dg_mono (Nat.gcd_le_right _ hy)) hyl
 have HQ1:=bH (fun W u (hu0:IsInt W u (-z)) ao n c (hu:IsNat W (.slice ao n c) (Nat.gcd (-z).natAbs y))=>quo_any W u (.agg #[.bool false,.slice ao n c]) (-z) ((Nat.gcd (-z).natAbs y:Nat):Int) L (hu0.reads hzl) ⟨false,_,_,rfl,hu,hgl,by rw [vl_dg]; rfl⟩ (by omega) hL)
 have HQ2:=bH (fun W u (hu0:IsInt W u (y:Int)) ao n c (hu:IsNat W (.slice ao n c) (Nat.gcd (-z).natAbs y))=>quo_any W u (.agg #[.bool false,.slice ao n c]) y ((Nat.gcd (-z).natAbs y:Nat):Int) L (hu0.reads (by rw [Int.natAbs_natCast]; exact hyl)) ⟨false,_,_,rfl,hu,hgl,by rw [vl_dg]; rfl⟩ (by omega) hL)
 unfold QuoPost at HQ1 HQ2
 simp only [hq1,hq2] at HQ1 HQ2
 have hdl:(dg (mkRat (-z) y).den).length<=L:=by
  have:(mkRat (-z) y).den<=y:=by
   have e:=hq2
   rw [tdiv_nat] at e
   have:=Nat.div_le_self y (Nat.gcd (-z).natAbs y)
   omega
  exact Nat.le_trans (dg_mono this) hyl
 have HC:=bH (fun W u u' (h1:IsNat W u (mkRat (-z) y).den) (h2:IsNat W u' 1)=>cmp_any W u u' _ _ h1 h2 (by omega) (Nat.le_trans (dg_two (n:=1) (by decide)).1 (by decide)))
 simp only [vl_dg] at HC
 have hF:∀ W,Calls Tryz.prog 155 #[.int .u64 1] W (NatPost W 1):=fun W=>from_any W 1 (by decide)
 have HF:=bH hF
 clear hF
 obtain ⟨neg,ao,m,c,l,rfl,-,-,-⟩:=h.open
 obtain ⟨neg',ao',m',c',l',rfl,-,-,-⟩:=h'.open
 have HG:=bH (fun W u u' (h1:IsNat W u (-z).natAbs) (h2:IsNat W u' y)=>gcd_any W u u' _ _ h1 h2 (by omega) (by omega))
 simp only [vl_dg] at HG
 clear hq1 hq2 hg hgl hdl h h' hzl hyl
 generalize Nat.gcd (-z).natAbs y=g at *
 generalize mkRat (-z) y=q at *
 go_enter Tryz.func153,Tryz.ntmps153
 go_upto_region 0 with fail
 go_cut [2,3,4] (fun v1 v2 v3 wx=>∃ b b' r,v1=.pointer (some ⟨b,0,none⟩)/\v2=.pointer (some ⟨b',0,none⟩)/\v3=.pointer (some ⟨r,0,none⟩)/\BoxI wx b neg (.slice ao m c)/\BoxI wx b' neg' (.slice ao' m' c')/\BoxR wx r false (.slice none 0 0) (.slice none 0 0)/\w.heap.size<=b/\b<b'/\b'<r/\XF w wx)
 case first =>
  go_wp2
  go_meet
  exact ⟨_,_,_,rfl,rfl,rfl,((boxI_new rfl neg ao m c).alloc _).alloc _,(boxI_new (by simp) neg' ao' m' c').alloc _,boxR_new (by simp) false none 0 0 none 0 0,(by omega),(by simp),(by simp),(((Ext.refl _ w).alloc _).alloc _).alloc _⟩
 case rest =>
  obtain ⟨b,b',r,rfl,rfl,rfl,hb,hb',hrb,hlb,hbb,hbr,hx⟩:=hcut
  have hle:w.heap.size<=r:=by omega
  have hne:b≠b'/\b≠r/\b'≠r:=by omega
  obtain ⟨e0,e1,_⟩:=hb'.facts
  have HB:=bH (bI hb (bI hb' (bI hrb hx)))
  clear hb hb' hrb hx
  go_wp2_with fail
  refine (HSg.out _ HB.out.2.2.2).mono ?_
  rintro r1 w1 ⟨rfl,hx1⟩
  obtain ⟨x0,x1,_⟩:=(HB.out.1.ext hx1 id).facts
  obtain ⟨y0,y1,_⟩:=(HB.out.2.1.ext hx1 id).facts
  replace HN1:=bH (fun W (hW:XF w1 W)=>HN1.out W ((HB.out.2.2.2.trans hx1).trans hW))
  replace HN2:=bH (fun W (hW:XF w1 W)=>HN2.out W ((HB.out.2.2.2.trans hx1).trans hW))
  clear e0 e1
  go_upto_region 2 with fail
  replace x0:=cq x0
  replace x1:=cq x1
  replace y0:=cq y0
  replace y1:=cq y1
  refine lbegin 4 (XF w1) (by kernel_rfl) ((Ext.refl _ w1).drew) (fun hHeld=>?_)
  refine lt 0 (h:=(lt 2 (h:=?_)))
  (try go_frame)
  refine lst 1 (h:=fun K hK=>?_)
  (go_simp; go_at_call 165; (with_reducible refine (HN1.out _ hHeld).mono ?_); rintro q1 w11 ⟨v11,rfl,h11,hx11⟩; have hX1:=hHeld.trans hx11; obtain ⟨n11,a11,l11,c11,rfl⟩:=h11.shape)
  refine hK.out _ _ (hX1) (fun hHeld=>?_)
  clear hK K
  (try go_frame)
  refine lst 3 (h:=fun K hK=>?_)
  (go_simp; go_at_call 165; (with_reducible refine (HN2.out _ hX1).mono ?_); rintro q2 w12 ⟨v12,rfl,h12,hx12⟩; have hX2:=hX1.trans hx12; obtain ⟨n12,a12,l12,c12,rfl⟩:=h12.shape)
  refine hK.out _ _ (hX2) (fun hHeld=>?_)
  clear hK K
  (try go_frame)
  have hb2:=HB.out.1.ext (hx1.trans hX2) id
  have hb2':=HB.out.2.1.ext (hx1.trans hX2) id
  obtain ⟨d0,d1,d2,d3⟩:=hb2.facts
  obtain ⟨f0,f1,f2,f3⟩:=hb2'.facts
  refine ll 4 (h:=fun K hK=>?_)
  go_simp
  refine hK.out _ _ ?_
  clear hK K
  (try go_frame)
  refine ll 5 (h:=fun K hK=>?_)
  go_simp
  refine hK.out _ _ ?_
  clear hK K
  (try go_frame)
  refine ldone (by kernel_rfl) ?_ _
  have hp1:=hb2.put (neg:=n11) (no_int a11 l11 c11)
  have hp2:=(hb2'.ext hp1.ext (fun e=>hne.1 e.symm)).put (neg:=n12) (no_int a12 l12 c12)
  have hi1:=hp2.int (hp1.int (h11.keep hx12))
  have hi2:=hp2.int (hp1.int h12)
  have HZ:=bH (bI (hp1.box.ext hp2.ext hne.1) (bI hp2.box (bI (((HB.out.2.2.1.ext (hx1.trans hX2) id).ext hp1.ext (fun e=>hne.2.1 e.symm)).ext hp2.ext (fun e=>hne.2.2 e.symm)) (((HB.out.2.2.2.trans (hx1.trans hX2)).own hp1.ext (fun k e=>by omega)).own hp2.ext (fun k e=>by omega)))))
  have HI:=bH (bI hi1 hi2)
  clear hp1 hp2 hi1 hi2 hb2 hb2' d0 d1 d2 d3 f0 f1 f2 f3 h11 h12 hx11 hx12 hX1 hX2 hx1 x0 x1 y0 y1 hHeld HN1 HN2 HB
  go_upto_region 3 with fail
  generalize (((w12.setCell ⟨b,0,none⟩ (.bool n11)).setCell ⟨b,1,none⟩ (.slice a11 l11 c11)).setCell ⟨b',0,none⟩ (.bool n12)).setCell ⟨b',1,none⟩ (.slice a12 l12 c12)=w1z at *
  have hm1:IsNat w1z (.slice a11 l11 c11) (-z).natAbs:=by
   obtain ⟨m0,h1,h2⟩:=HI.out.1
   cases h1
   exact h2
  have hm2:IsNat w1z (.slice a12 l12 c12) y:=by
   obtain ⟨m0,h1,h2⟩:=HI.out.2
   cases h1
   rw [Int.natAbs_natCast] at h2
   exact h2
  have HX1:=bH (Ext.refl (fun _=>False) w1z)
  obtain ⟨c10,c11',_⟩:=HZ.out.1.facts
  obtain ⟨e10,e11,_⟩:=HZ.out.2.1.facts
  have HG1:=bH (HG.out w1z _ _ hm1 hm2)
  clear hm1 hm2
  go_wp2_with fail
  refine HG1.out.mono ?_
  rintro r2 w2 ⟨vg,rfl,hg2,hx2⟩
  obtain ⟨aog,cg,rfl⟩:=hg2.shape
  generalize (dg g).length=ng at *
  clear c10 c11' e10 e11 HG1
  have hbg:=boxI_new (W:=w2) rfl false aog ng cg
  have hx23:=(Ext.refl (fun _=>False) w2).alloc (.cells #[.bool false,.slice aog ng cg] 62)
  have hX3:=(HX1.out.trans hx2).trans hx23
  go_upto_region 4 with fail
  obtain ⟨bg,hbge⟩:∃ bg,w2.heap.size=bg:=⟨_,rfl⟩
  rw [hbge] at hbg ⊢
  generalize w2.alloc (.cells #[.bool false,.slice aog ng cg] 62)=w3 at *
  obtain ⟨c0,c1,_⟩:=(HZ.out.1.ext hX3 id).facts
  obtain ⟨g0,g1,_⟩:=hbg.facts
  have HQ13:=bH (HQ1.out w3 _ (HI.out.1.keep hX3) aog ng cg (hg2.keep hx23))
  have HX3:=bH (bI hX3 (bI hbg (hg2.keep hx23)))
  clear hg2 hx2 hX3 hbg hx23 hbge HX1
  go_wp2_with fail
  refine HQ13.out.mono ?_
  rintro r4 w4 ⟨vn,vs,rfl,hn4,hs4,hx4⟩
  obtain ⟨nn,aon,mn,cn,rfl⟩:=hn4.shape
  obtain ⟨ns,aos,ms,cs,rfl⟩:=hs4.shape
  have hX4:=HX3.out.1.trans hx4
  clear c0 c1 g0 g1
  go_upto_region 5 with fail
  obtain ⟨bn,hbne⟩:∃ bn,w4.heap.size=bn:=⟨_,rfl⟩
  have hbn:=(boxI_new (W:=w4) rfl nn aon mn cn).alloc (.cells #[.bool ns,.slice aos ms cs] 62)
  have hx45:=((Ext.refl (fun _=>False) w4).alloc (.cells #[.bool nn,.slice aon mn cn] 62)).alloc (.cells #[.bool ns,.slice aos ms cs] 62)
  rw [hbne] at hbn ⊢
  generalize (w4.alloc (.cells #[.bool nn,.slice aon mn cn] 62)).alloc (.cells #[.bool ns,.slice aos ms cs] 62)=w5 at *
  have hX5:=hX4.trans hx45
  obtain ⟨e0,e1,_⟩:=(HZ.out.2.1.ext hX5 id).facts
  obtain ⟨g0,g1,_⟩:=(HX3.out.2.1.ext (hx4.trans hx45) id).facts
  have HQ25:=bH (HQ2.out w5 _ (HI.out.2.keep hX5) aog ng cg (HX3.out.2.2.keep (hx4.trans hx45)))
  have HX5:=bH (bI hX5 (bI (hn4.keep hx45) hbn))
  clear hX4 hx4 hX5 hx45 hbn hn4 hs4 hbne
  go_wp2_with fail
  refine HQ25.out.mono ?_
  rintro r6 w6 ⟨vd,vt,rfl,hd6,ht6,hx6⟩
  obtain ⟨nd,aod,md,cd,rfl⟩:=hd6.shape
  obtain ⟨nt,aot,mt,ct,rfl⟩:=ht6.shape
  have hX6:=HX5.out.1.trans hx6
  clear e0 e1 g0 g1
  go_upto_region 6 with fail
  obtain ⟨bd,hbde⟩:∃ bd,w6.heap.size=bd:=⟨_,rfl⟩
  have hbd:=(boxI_new (W:=w6) rfl nd aod md cd).alloc (.cells #[.bool nt,.slice aot mt ct] 62)
  have hx67:=((Ext.refl (fun _=>False) w6).alloc (.cells #[.bool nd,.slice aod md cd] 62)).alloc (.cells #[.bool nt,.slice aot mt ct] 62)
  rw [hbde] at hbd ⊢
  generalize (w6.alloc (.cells #[.bool nd,.slice aod md cd] 62)).alloc (.cells #[.bool nt,.slice aot mt ct] 62)=w7 at *
  have hX7:=hX6.trans hx67
  have hnd:IsNat w7 (.slice aod md cd) q.den:=by
   obtain ⟨m0,h1,h2⟩:=hd6.keep hx67
   cases h1
   rw [Int.natAbs_natCast] at h2
   exact h2
  have hS:S1 bd (.slice aod md cd) w7:=hbd.facts.2.1
  have HX7:=bH (bI hX7 (bI (HX5.out.2.1.keep (hx6.trans hx67)) (bI (HX5.out.2.2.ext (hx6.trans hx67) id) (bI hbd hnd))))
  clear hX6 hx6 hX7 hx67 hbd hd6 ht6 hbde hnd
  go_region_held3 (S1 bd (.slice aod md cd))
   (repeat (first | (with_reducible assumption) | (with_reducible refine S1.drew ?_)))
   (first
    | (go_at_call 155; (with_reducible refine (HF.out _).mono ?_); rintro r8 w8 ⟨v8,rfl,h8,hx8⟩; have hx78:=(Ext.refl (fun _=>False) w7).drew.trans hx8; have hK8:S1 bd (.slice aod md cd) w8:=(HX7.out.2.2.2.1.ext hx78 id).facts.2.1; have hC8:=HC.out w8 _ _ (HX7.out.2.2.2.2.keep hx78) h8)
    | (go_at_call 172; (with_reducible refine hC8.mono ?_); rintro r9 w' ⟨rfl,hw⟩; obtain rfl:=hw.symm))
  have hX8:=HX7.out.1.trans hx78
  have hr8:=HZ.out.2.2.1.ext hX8 id
  obtain ⟨d0,d1,d2,d3,d4,d5⟩:=hr8.facts
  obtain ⟨c0,c1,_⟩:=(HX7.out.2.2.1.ext hx78 id).facts
  have hn8:=HX7.out.2.1.keep hx78
  have hd8:=HX7.out.2.2.2.2.keep hx78
  have hXw:=HZ.out.2.2.2.trans hX8
  have hc1:=cmpN_one q.den
  generalize cmpN q.den 1=cq at *
  by_cases h1:q.den=1
  ·have hcq:=hc1.2 h1
   subst hcq
   have hp:=hr8.put (neg:=nn) (no_int aon mn cn) (no_int none 0 0)
   have hR0:IsRat w8 (.agg #[.bool nn,.slice aon mn cn,.slice none 0 0]) q:=IsRat.mk hn8 (by rw [h1]; exact IsNat.nil w8)
   have HR:=bH (bI (hp.rat hR0) (bI (hXw.own hp.ext (fun k e=>by omega)) hp.box))
   clear hp hR0 hn8 hd8 hr8 hXw hX8 hx8 hx78 h8 hC8 hK8 hS hc1 h1
   go_wp2
   generalize ((w8.setCell ⟨r,0,none⟩ (.bool nn)).setCell ⟨r,1,none⟩ (.slice aon mn cn)).setCell ⟨r,2,none⟩ (.slice none 0 0)=w9 at *
   obtain ⟨g0,g1,g2,_⟩:=HR.out.2.2.facts
   exact bodyPost_ret (v:=.agg #[.bool nn,.slice aon mn cn,.slice none 0 0]) (by simp [results,Tryz.results153,go_sem,g0,g1,g2]) rfl ⟨_,rfl,HR.out.1,HR.out.2.1⟩
  ·have hcq:¬ cq=0:=fun e=>h1 (hc1.1 e)
   have hp:=hr8.put (neg:=nn) (no_int aon mn cn) (no_int aod md cd)
   have hR0:IsRat w8 (.agg #[.bool nn,.slice aon mn cn,.slice aod md cd]) q:=IsRat.mk hn8 (by unfold dw; rw [if_neg h1]; exact hd8)
   have HR:=bH (bI (hp.rat hR0) (bI (hXw.own hp.ext (fun k e=>by omega)) hp.box))
   clear hp hR0 hn8 hd8 hr8 hXw hX8 hx8 hx78 h8 hC8 hS hc1 h1
   have hcb:(cq == 0)=false:=by simpa using hcq
   go_wp2
   generalize ((w8.setCell ⟨r,0,none⟩ (.bool nn)).setCell ⟨r,1,none⟩ (.slice aon mn cn)).setCell ⟨r,2,none⟩ (.slice aod md cd)=w9 at *
   obtain ⟨g0,g1,g2,_⟩:=HR.out.2.2.facts
   exact bodyPost_ret (v:=.agg #[.bool nn,.slice aon mn cn,.slice aod md cd]) (by simp [results,Tryz.results153,go_sem,g0,g1,g2]) rfl ⟨_,rfl,HR.out.1,HR.out.2.1⟩
theorem reducedQ_any (w:World) (v v':Value) (z y:Int) (L:Nat) (h:Rint w v z L) (h':Rint w v' y L) (hy:y≠0) (hL:L<=33554432) :
  Calls Tryz.prog 153 #[v,v'] w (RatPost w ((z:Rat) / (y:Rat))):=by
 by_cases hp:0<y
 ·obtain ⟨n,rfl⟩:∃ n:Nat,y=n:=⟨y.toNat,by omega⟩
  have:=reduced_any w v v' z n L h h' (by omega) hL
  rw [Rat.mkRat_eq_div] at this
  exact this
 ·obtain ⟨n,rfl⟩:∃ n:Nat,y = -(n:Int):=⟨(-y).toNat,by omega⟩
  have:=reducedN_any w v v' z n L h h' (by omega) hL
  rw [Rat.mkRat_eq_div] at this
  have e:((-z:Int):Rat) / ((n:Nat):Rat)=(z:Rat) / ((-(n:Int):Int):Rat):=by
   rw [Rat.intCast_neg,Rat.intCast_neg,Rat.intCast_natCast]
   grind
  rw [e] at this
  exact this
def QtPost (w:World) (q:Rat) (r:Ending) (w':World):Prop:=∃ v,r=.returned (.tuple #[v,.int .i64 0])/\IsRat w' v q/\XF w w'
theorem pmake_any (w:World) (v v':Value) (z y:Int) (L:Nat) (h:Rint w v z L) (h':Rint w v' y L) (hy:y≠0) (hL:L<=33554432) :
  Calls Tryz.prog 88 #[v,v'] w (QtPost w ((z:Rat) / (y:Rat))):=by
 have HC:=bH (fun W (hW:XF w W)=>reducedQ_any W v v' z y L (h.keep hW) (h'.keep hW) hy hL)
 have HS:=bH (fun W (hW:XF w W)=>isign_any W v' y L (h'.keep hW) (by omega))
 have hsg:y.sign≠0:=fun e=>hy (Int.sign_eq_zero_iff_zero.1 e)
 obtain ⟨n1,a1,l1,c1,rfl⟩:=h.shape
 obtain ⟨n2,a2,l2,c2,rfl⟩:=h'.shape
 clear h h'
 generalize y.sign=sg at *
 generalize (z:Rat) / (y:Rat)=Q at *
 obtain ⟨b0,b1,b2,hx⟩:=box3 w (.cells #[.bool n1,.slice a1 l1 c1] 62) (.cells #[.bool n2,.slice a2 l2 c2] 62) (.cells #[.bool false,.slice none 0 0,.slice none 0 0] 64)
 have HB:=bH (bI b0 (bI b1 (bI (boxR_of b2) hx)))
 clear b0 b1 b2 hx
 go_enter Tryz.func88,Tryz.ntmps88
 go_upto_region 1 with fail
 generalize ((w.alloc (.cells #[.bool n1,.slice a1 l1 c1] 62)).alloc (.cells #[.bool n2,.slice a2 l2 c2] 62)).alloc (.cells #[.bool false,.slice none 0 0,.slice none 0 0] 64)=w1 at *
 obtain ⟨pb,hpb⟩:∃ pb,w.heap.size=pb:=⟨_,rfl⟩
 have hpw:w.heap.size<=pb:=Nat.le_of_eq hpb
 rw [hpb] at HB ⊢
 clear hpb
 have e0:=cellq HB.out.2.1 0 rfl
 have e1:=cellq HB.out.2.1 1 rfl
 go_wp2_with fail
 refine (HS.out _ HB.out.2.2.2).mono ?_
 rintro r2 w2 ⟨rfl,hx2⟩
 have HB2:=bH (bI (blk_keep HB.out.1 hx2) (bI (blk_keep HB.out.2.1 hx2) (bI (HB.out.2.2.1.keep hx2) (HB.out.2.2.2.trans hx2))))
 clear hx2 e0 e1 HB HS
 have hsb:(sg == 0)=false:=by simpa using hsg
 have c0:=cellq HB2.out.1 0 rfl
 have c1':=cellq HB2.out.1 1 rfl
 have e0:=cellq HB2.out.2.1 0 rfl
 have e1:=cellq HB2.out.2.1 1 rfl
 go_wp2_with fail
 refine (HC.out _ HB2.out.2.2.2).mono ?_
 rintro q4 w14 ⟨v14,rfl,h14,hx14⟩
 obtain ⟨ng,sa,sn,sc,ta,tn,tc,rfl⟩:=h14.shape
 have hr4:=HB2.out.2.2.1.keep hx14
 obtain ⟨d0,d1,d2,d3,d4,d5⟩:=hr4.facts
 have hp:=hr4.put (neg:=ng) (no_int sa sn sc) (no_int ta tn tc)
 have HR:=bH (bI (hp.rat h14) (bI ((HB2.out.2.2.2.trans hx14).own hp.ext (fun k e=>by omega)) hp.box))
 clear hp hr4 h14 hx14
 go_wp2
 generalize ((w14.setCell ⟨pb+1+1,0,none⟩ (.bool ng)).setCell ⟨pb+1+1,1,none⟩ (.slice sa sn sc)).setCell ⟨pb+1+1,2,none⟩ (.slice ta tn tc)=w20 at *
 obtain ⟨g0,g1,g2,_⟩:=HR.out.2.2.facts
 exact bodyPost_ret (v:=.tuple #[.agg #[.bool ng,.slice sa sn sc,.slice ta tn tc],.int .i64 0]) (by simp [results,Tryz.results88,go_sem,g0,g1,g2]) rfl ⟨_,rfl,HR.out.1,HR.out.2.1⟩
theorem pfrac_any (w:World) (k d:Int) (hk:InR k) (hd:InR d) (h0:d≠0):Calls Tryz.prog 51 #[.int .i64 k,.int .i64 d] w (QtPost w ((k:Rat) / (d:Rat))):=by
 have hlk:(dg k.natAbs).length<=2:=by have h:=(Sz.int hk).1; rwa [Rat.num_intCast] at h
 have hld:(dg d.natAbs).length<=2:=by have h:=(Sz.int hd).1; rwa [Rat.num_intCast] at h
 have HFk:=bH (fun W=>ifrom_any W k hk.1 hk.2)
 have HFd:=bH (fun W=>ifrom_any W d hd.1 hd.2)
 have HM:=bH (fun W u v (hu:IsInt W u k) (hv:IsInt W v d)=>pmake_any W u v k d 2 (hu.reads hlk) (hv.reads hld) h0 (by decide))
 have HB:=bH (bI (boxR_new rfl false none 0 0 none 0 0 (W:=w)) ((Ext.refl (fun _=>False) w).alloc (.cells #[.bool false,.slice none 0 0,.slice none 0 0] 64)))
 clear hlk hld hk hd h0
 go_enter Tryz.func51,Tryz.ntmps51
 go_upto_region 1 with fail
 generalize w.alloc (.cells #[.bool false,.slice none 0 0,.slice none 0 0] 64)=w0 at *
 obtain ⟨rb,hrb⟩:∃ q,w.heap.size=q:=⟨_,rfl⟩
 rw [hrb] at HB ⊢
 have HRl:=bH (show w.heap.size<=rb from Nat.le_of_eq hrb)
 clear hrb
 go_wp2_with (first | (go_at_call 89; (first | ((with_reducible refine (HFk.out w0).mono ?_); rintro q1 w1 ⟨v1,rfl,h1,hx1⟩) | ((with_reducible refine (HFd.out w1).mono ?_); rintro q2 w2 ⟨v2,rfl,h2,hx2⟩))) | (go_at_call 88; (with_reducible refine (HM.out w2 _ _ (h1.keep hx2) h2).mono ?_); rintro q3 w3 ⟨v3,rfl,h3,hx3⟩; obtain ⟨n3,a3,l3,c3,a3',l3',c3',rfl⟩:=h3.shape; have hbk:=HB.out.1.ext ((hx1.trans hx2).trans hx3) id; obtain ⟨d0,d1,d2,d3,d4,d5⟩:=hbk.facts; have hpt:=hbk.put (neg:=n3) (no_int a3 l3 c3) (no_int a3' l3' c3'); have HE:=bH (bI hpt.box (bI (hpt.rat h3) ((HB.out.2.trans ((hx1.trans hx2).trans hx3)).own hpt.ext (fun q e=>by have:=HRl.out; omega)))); clear hbk hpt))
 generalize ((w3.setCell ⟨rb,0,none⟩ (.bool n3)).setCell ⟨rb,1,none⟩ (.slice a3 l3 c3)).setCell ⟨rb,2,none⟩ (.slice a3' l3' c3')=w9 at *
 obtain ⟨g0,g1,g2,_⟩:=HE.out.1.facts
 exact bodyPost_ret (v:=.tuple #[.agg #[.bool n3,.slice a3 l3 c3,.slice a3' l3' c3'],.int .i64 0]) (by simp [results,Tryz.results51,go_sem,g0,g1,g2]) rfl ⟨_,rfl,HE.out.2.1,HE.out.2.2⟩
open Go.Lib Go.Sort
def LRow (w:World) (base:Nat) (v:Value) (l:List Int):Prop:=w.ownsRow base 2 1 v l.length (l.map fun n=>Value.int .i64 n)
section
variable {w w':World} {base g n c:Nat} {v:Value} {l:List Int}
theorem LRow.keep (h:LRow w base v l) (hx:XF w w'):LRow w' base v l:=ownsRow_ext h hx (fun _ _ e=>e)
theorem LRow.nil (w:World) (b:Nat):LRow w b (.slice none 0 0) []:=World.ownsRow_nil _ _ _ 1
theorem LRow.own (h:LRow w base v l):w.ownsRow base 2 1 v l.length (l.flatMap cI):=by rw [flat_cI]; exact h
theorem LRow.of (h:w.ownsRow base 2 1 v l.length (l.flatMap cI)):LRow w base v l:=by rw [flat_cI] at h; exact h
theorem LRow.shape (h:LRow w base v l):(v=.slice none 0 0/\l=[])∨∃ g c,v=.slice (some ⟨g,0,none⟩) l.length c/\base<=g/\g<w.heap.size:=by
 rcases h.2 with ⟨rfl,h0⟩ | ⟨g,cap,cur,rfl,hb,hg,_⟩
 ·exact .inl ⟨rfl,List.length_eq_zero_iff.1 h0⟩
 ·exact .inr ⟨g,cap,rfl,hb,blk_lt hg⟩
theorem LRow.len (h:LRow w base (.slice (some ⟨g,0,none⟩) n c) l):l.length=n:=by
 rcases h.2 with ⟨e,_⟩ | ⟨g',cap,cur,e,_⟩ <;> cases e
 rfl
theorem LRow.data (h:LRow w base (.slice (some ⟨g,0,none⟩) n c) l):∃ cur:Array Value,base<=g/\blk w g=some (.cells cur 2 (0,0))/\n<=c/\c<=maxLen/\cur.size=c/\cur.toList.take n=l.map (Value.int .i64):=by
 rcases h.2 with ⟨e,_⟩ | ⟨g',cap,cur,e,h1,h2,h3,h4,h5,h6⟩ <;> cases e
 exact ⟨cur,h1,h2,h3,h4,by rw [h5,Nat.mul_one],by rw [Nat.mul_one] at h6; exact h6⟩
theorem LRow.mk' {cur:Array Value} (h0:base<=g) (h1:blk w g=some (.cells cur 2 (0,0))) (h2:l.length<=c) (h3:c<=maxLen) (h4:cur.size=c) (h5:cur.toList.take l.length=l.map (Value.int .i64)):LRow w base (.slice (some ⟨g,0,none⟩) l.length c) l :=
 ⟨by rw [List.length_map,Nat.mul_one],.inr ⟨g,c,cur,rfl,h0,h1,h2,h3,by rw [h4,Nat.mul_one],by rw [Nat.mul_one]; exact h5⟩⟩
theorem LRow.cell (h:LRow w base (.slice (some ⟨g,0,none⟩) n c) l) {j:Nat} (hj:j<l.length):w.cell? ⟨g,j,none⟩=some (.int .i64 (l.getD j 0))/\w.frozen? ⟨g,j,none⟩=false:=by
 have hl:=h.len
 obtain ⟨cur,h0,h1,h2,h3,h4,h5⟩:=h.data
 refine ⟨?_,free_of_cells h1 _⟩
 have e:(cur.toList.take n)[j]?=(l.map (Value.int .i64))[j]?:=by rw [h5]
 rw [List.getElem?_take_of_lt (by omega),List.getElem?_map,List.getElem?_eq_getElem hj] at e
 rw [cell_of_cells h1,<- Array.getElem?_toList,e,getD_lt hj]
 rfl
theorem LRow.holds (h:LRow w base (.slice (some ⟨g,0,none⟩) n c) l):Holds (Value.int .i64) w g 0 l.toArray:=fun j hj=>by
 rw [List.size_toArray] at hj
 rw [Nat.zero_add,getElem!_pos _ _ (by rw [List.size_toArray]; exact hj),List.getElem_toArray,<- getD_lt hj]
 exact h.cell hj
theorem LRow.putRow (h:LRow w base (.slice (some ⟨g,0,none⟩) n c) l) (q:Nat) {d d':List Int} (hd:d.length=n) (hp:d.take d'.length=d'):LRow (Sort.putRow (Value.int .i64) (Sort.ahead w q) g 0 d.toArray) base (.slice (some ⟨g,0,none⟩) d'.length c) d':=by
 obtain ⟨cur,h0,h1,h2,h3,h4,h5⟩:=h.data
 have hl:d'.length<=d.length:=by rw [<- hp,List.length_take]; exact Nat.min_le_right _ _
 refine LRow.mk' h0 (blk_putRow h1 q d) (by omega) h3 (by rw [putCells_size]; exact h4) ?_
 have e:=putCells_take (c:=cur) (d:=d) (by omega)
 have e2:=congrArg (List.take d'.length) e
 rw [List.take_take,Nat.min_eq_left hl,<- List.map_take,hp] at e2
 exact e2
theorem LRow.block (h:LRow w base (.slice (some ⟨g,0,none⟩) n c) l):g<w.heap.size:=by obtain ⟨cur,_,h1,_⟩:=h.data; exact blk_lt h1
end
theorem lsort_any (w:World) (base:Nat) (v:Value) (l:List Int) (h:LRow w base v l) (hn:l.length<=100000):Calls Tryz.prog 49 #[v] w (fun r w'=>r=.returned (.tuple #[])/\∃ l',l'.Perm l/\LRow w' base v l'/\Ext (fun k=>v.ownBlock=some k) w w'):=by
 rcases h.shape with ⟨rfl,rfl⟩ | ⟨g,c,rfl,_,_⟩
 ·refine (Tryz.slices_Sort_int_none_f49 none 0 w).mono ?_
  rintro r w' ⟨rfl,rfl⟩
  exact ⟨rfl,[],List.Perm.refl _,h,Ext.refl _ _⟩
 ·refine (Tryz.slices_Sort_int_f49 g 0 c l w h.holds h.block (by omega)).mono ?_
  rintro r w' ⟨rfl,q,os,rfl⟩
  have e:(l.mergeSort fun x y=>decide (x<=y)).length=l.length:=(List.mergeSort_perm l _).length_eq
  have hq:=h.putRow q (d:=l.mergeSort fun x y=>decide (x<=y)) (d':=l.mergeSort fun x y=>decide (x<=y)) e (by rw [List.take_length])
  rw [e] at hq
  exact ⟨rfl,_,List.mergeSort_perm l _,hq.keep (ext_grow _ _),((ext_putRow _ _ _ _).trans (ext_grow _ _).none).mono (fun k _ e=>by rw [show k=g from e]; rfl)⟩
theorem compact_mem {zs:List Int} {z:Int} (h:z ∈ Lib.compact zs):z ∈ zs:=by
 unfold Lib.compact Lib.compactUpTo at h
 obtain ⟨j,hj,rfl⟩:=List.mem_map.1 h
 have hjl:j<zs.length:=List.mem_range.1 (List.mem_filter.1 hj).1
 rw [getElem!_pos _ _ (by rw [List.size_toArray]; exact hjl),List.getElem_toArray]
 exact List.getElem_mem _
theorem lcomp_any (w:World) (base:Nat) (v:Value) (l:List Int) (h:LRow w base v l) (hn:l.length<=100000):Calls Tryz.prog 50 #[v] w (fun r w'=>∃ v' l',r=.returned v'/\(∀ z ∈ l',z ∈ l)/\l'.length<=l.length/\LRow w' base v' l'/\Ext (fun k=>v.ownBlock=some k) w w'):=by
 rcases h.shape with ⟨rfl,rfl⟩ | ⟨g,c,rfl,_,_⟩
 ·refine (Tryz.slices_Compact_int_empty none 0 w).mono ?_
  rintro r w' ⟨rfl,rfl⟩
  exact ⟨_,[],rfl,fun z h=>h,Nat.le_refl _,h,Ext.refl _ _⟩
 ·have hl:=compact_length_le l
  obtain ⟨cur,h0,h1,h2,h3,h4,h5⟩:=h.data
  refine (Tryz.slices_Compact_int g 0 c l w h.holds (by omega) h2).mono ?_
  rintro r w' ⟨rfl,q,rfl⟩
  have hq:=h.putRow q (d:=Lib.compact l++List.replicate (l.length - (Lib.compact l).length) 0) (d':=Lib.compact l) (by rw [List.length_append,List.length_replicate]; omega) (by rw [List.take_append_of_le_length (Nat.le_refl _),List.take_length])
  exact ⟨_,_,rfl,fun z hz=>compact_mem hz,hl,hq,(ext_putRow _ _ _ _).mono (fun k _ e=>by rw [show k=g from e]; rfl)⟩
structure CutQ where
 c:CutV
 yo:Option Addr
 yn:Nat
 yc:Nat
 so:Option Addr
 sn:Nat
 sc:Nat
def cQ (q:CutQ):List Value:=[.int .i64 q.c.kind,.slice q.yo q.yn q.yc,.int .i64 q.c.row,.slice q.so q.sn q.sc]
theorem cQ_one (q:CutQ):∀ u ∈ cQ q,u.oneCell'=true:=fun u hu=>by
 simp [cQ] at hu
 rcases hu with rfl | rfl | rfl | rfl <;> rfl
theorem cQ_noD (q:CutQ):NoD (cQ q):=fun u hu d e=>by
 simp [cQ] at hu
 rcases hu with rfl | rfl | rfl | rfl <;> cases e
theorem cQs_noD (qs:List CutQ):NoD (qs.flatMap cQ):=fun u hu d e=>by
 obtain ⟨q,_,h⟩:=List.mem_flatMap.1 hu
 exact cQ_noD q u h d e
theorem cut_src (w:World) (q:CutQ):∀ j u,(cQ q)[j]?=some u->(w.alloc (.cells #[.int .i64 q.c.kind,.slice q.yo q.yn q.yc,.int .i64 q.c.row,.slice q.so q.sn q.sc] 29)).cell? ((⟨w.heap.size,0,none⟩:Addr).add j)=some u:=fun j u hu=>by
 match j,hu with
 | 0,hu=>cases hu; exact cellq (blk_alloc_at w _) 0 rfl
 | 1,hu=>cases hu; exact cellq (blk_alloc_at w _) 1 rfl
 | 2,hu=>cases hu; exact cellq (blk_alloc_at w _) 2 rfl
 | 3,hu=>cases hu; exact cellq (blk_alloc_at w _) 3 rfl
structure CutAt (w:World) (q:CutQ):Prop where
 mul:(q.yo=none/\q.yn=0/\q.yc=0/\q.c.mul=[])∨∃ B f,q.yo=some ⟨B,0,none⟩/\q.yn=q.yc/\q.yc<=1000/\RArr w B q.yn f/\q.c.mul=listTo q.yn f/\∀ i,i<q.yn->Sz (f i) 10
 vars:IRow w 0 (.slice q.so q.sn q.sc) q.c.vars
section
variable {w w' w1 wr:World} {q:CutQ} {qs:List CutQ} {ov ov':Value}
theorem CutAt.past {S:Nat->Prop} (h:CutAt w q) (hx:Ext S w w') (hS:∀ k,S k->TyB w k 29) (hr:∀ v l,Rds w v l->Rds w' v l):CutAt w' q:=by
 refine ⟨?_,ownsRow_ext h.vars hx (fun g hg e=>typ_ne' (own_ty h.vars g hg) (hS g e) (by decide) rfl)⟩
 rcases h.mul with h | ⟨B,f,h1,h2,h3,h4,h5⟩
 ·exact .inl h
 ·exact .inr ⟨B,f,h1,h2,h3,h4.past hx (fun e=>by obtain ⟨arr,hb,_⟩:=h4.row; exact typ_ne' ⟨_,hb⟩ (hS B e) (by decide) rfl) hr,h5⟩
theorem CutAt.keep (h:CutAt w q) (hx:XF w w'):CutAt w' q:=h.past hx (fun _ e=>e.elim) (fun _ _ hu=>hu.keep hx)
theorem CutAt.isCut (h:CutAt w q):IsCut w (.agg #[.int .i64 q.c.kind,.slice q.yo q.yn q.yc,.int .i64 q.c.row,.slice q.so q.sn q.sc]) q.c 10:=by
 refine ⟨_,_,rfl,?_,IRow.inz h.vars⟩
 rcases h.mul with ⟨h1,h2,h3,h4⟩ | ⟨B,f,h1,h2,h3,h4,h5,h6⟩
 ·rw [h1,h2,h3,h4]
  exact ⟨[],rfl,Sl.nil w 3,fun i c q h=>by cases h⟩
 ·rw [h1,h5]
  exact h4.rats h6 (Nat.le_of_eq h2) (by unfold maxLen; omega)
structure SepSt (w1 wr:World) (ov:Value) (qs:List CutQ):Prop where
 ext:XF w1 wr
 own:wr.ownsRow w1.heap.size 29 4 ov qs.length (qs.flatMap cQ)
 nod:∀ g,ov.ownBlock=some g->NoDig wr g
 cuts:∀ q ∈ qs,CutAt wr q
theorem SepSt.keep (h:SepSt w1 wr ov qs) (hx:XF wr w'):SepSt w1 w' ov qs:=by
 refine ⟨h.ext.trans hx,ownsRow_ext h.own hx (fun _ _ e=>e),fun g hg i d hc=>?_,fun q hq=>(h.cuts q hq).keep hx⟩
 have hlt:g<wr.heap.size:=(World.ownsRow.lt h.own g hg).2
 exact h.nod g hg i d ((hx.cell (p:=⟨g,i,none⟩) hlt id).symm.trans hc)
theorem SepSt.push (h:SepSt w1 wr ov qs) (ha:AppG wr w' w1.heap.size 29 4 ov ov' qs.length (qs.flatMap cQ) (cQ q)) (hq:CutAt wr q):SepSt w1 w' ov' (qs++[q]):=by
 have hty:∀ k,ov.ownBlock=some k->TyB wr k 29:=own_ty h.own
 refine ⟨h.ext.own ha.ext (fun k e=>(World.ownsRow.lt h.own k e).1),?_,ha.noDig,fun q' hq'=>?_⟩
 ·rw [List.length_append,List.flatMap_append]
  simpa using ha.own
 ·rcases List.mem_append.1 hq' with h1 | h1
  ·exact (h.cuts q' h1).past ha.ext hty ha.rds
  ·rw [List.mem_singleton.1 h1]; exact hq.past ha.ext hty ha.rds
theorem SepSt.blk_push {b:Nat} {cs:Array Value} {T:TypeId} (h:SepSt w1 wr ov qs) (ha:AppG wr w' w1.heap.size 29 4 ov ov' qs.length (qs.flatMap cQ) (cQ q)) (hb:blk wr b=some (.cells cs T (0,0))) (hT:T≠29):blk w' b=some (.cells cs T (0,0)) :=
 blk_ext hb ha.ext (fun e=>typ_ne' ⟨_,hb⟩ (own_ty h.own _ e) hT rfl)
theorem SepSt.row_push {b:Nat} {v:Value} {l:List Int} (h:SepSt w1 wr ov qs) (ha:AppG wr w' w1.heap.size 29 4 ov ov' qs.length (qs.flatMap cQ) (cQ q)) (hb:LRow wr b v l):LRow w' b v l :=
 ownsRow_ext hb ha.ext (fun g hg e=>typ_ne' (own_ty hb g hg) (own_ty h.own _ e) (by decide) rfl)
end
theorem covIs_len {p:ProgV} {i:Int} {x:List Rat} {c:CutV} (h:CovIs p i x c true) (hn:p.vars.length<=6):c.vars.length<=1000:=by
 obtain ⟨o,ho,h⟩:=h
 cases hm:minV p (p.r i.toNat) o with
 | none=>rw [hm] at h; cases h.1
 | some s =>
  rw [hm] at h
  obtain ⟨_,_,_,_,hs⟩:=h
  have hb:=(minV_spec ho hm).1
  have:=inc_len (last:=-1) (n:=p.vars.length) hs.pair (fun v hv=>by
   have:=binB_parts (hb v ((hs.mem v).1 hv))
   omega)
  omega
theorem Tryz.infoCut:(Tryz.prog.info? 29).map (fun i=>(i.zero,i.size,i.bytes))=some (some (.agg #[.int .i64 0,.slice none 0 0,.int .i64 0,.slice none 0 0]),4,64):=by kernel_rfl
theorem Tryz.infoL:(Tryz.prog.info? 2).map (fun i=>(i.zero,i.size,i.bytes))=some (some (.int .i64 0),1,8):=by kernel_rfl
theorem l_src (w:World) (n:Int):∀ j u,(cI n)[j]?=some u->(w.alloc (.cells #[.int .i64 n] 2)).cell? ((⟨w.heap.size,0,none⟩:Addr).add j)=some u:=fun j u hu=>by
 match j,hu with
 | 0,hu =>
  cases hu
  exact cellq (blk_alloc_at w _) 0 rfl
theorem quot_sz {a b:Int} (ha:InR a) (hb:InR b):Sz ((a:Rat) / (b:Rat)) 10:=by
 have h1:Sz (a:Rat) 2:=Sz.int ha
 have h2:Sz (b:Rat) 2:=Sz.int hb
 have h3:Sz ((b:Rat)⁻¹) 2:=by
  by_cases h0:(b:Rat)=0
  ·rw [h0,Rat.inv_zero]; exact Sz.zero.mono (by decide)
  ·refine ⟨?_,?_⟩
   ·rw [Rat.num_inv,Int.natAbs_mul,Int.natAbs_natCast]
    have hs:(b:Rat).num.sign.natAbs=1:=by
     have:(b:Rat).num≠0:=fun e=>h0 (Rat.num_eq_zero.1 e)
     rcases Int.lt_or_gt_of_ne this with h | h
     ·rw [Int.sign_eq_neg_one_of_neg h]; rfl
     ·rw [Int.sign_eq_one_of_pos h]; rfl
    rw [hs,Nat.one_mul]; exact h2.2
   ·rw [Rat.den_inv,if_neg (fun e=>h0 (Rat.num_eq_zero.1 e))]; exact h2.1
 rw [Rat.div_def]
 exact (h1.mul h3).mono (by decide)
theorem valid_coefs {p:ProgV} (hval:validB p=true) {i:Nat} (hi:i<p.rows.length):∀ t ∈ (p.r i).terms,limB t.coef=true:=by
 have h:=valid_row hval hi
 unfold rowB at h
 simp only [Bool.and_eq_true] at h
 exact termsB_lim h.2
def SepOk (p:ProgV) (x:List Rat) (q:CutQ):Prop:=breaksP p q.c x=true/\CSmall p q.c
def Sep0 (p:ProgV) (x:List Rat) (qs:List CutQ):Prop:=∀ c,CovIs p 0 x c true->breaksP p c x=true->qs≠[]
def SepPost (w:World) (p:ProgV) (x:List Rat) (r:Ending) (w':World):Prop:=∃ ov qs,r=.returned ov/\w'.ownsRow w.heap.size 29 4 ov qs.length (qs.flatMap cQ)/\(∀ q ∈ qs,CutAt w' q/\SepOk p x q)/\(validB p=false->qs=[])/\(validB p=true->0<p.rows.length->Sep0 p x qs)/\XF w w'
theorem Separate_any (w:World) (pv xv:Value) (p:ProgV) (x:List Rat) (L:Nat) (hp:IsPrg w pv p) (hx:Rats w xv x L) (h1:1<=L) (hL:L<=100) (hn:p.vars.length<=6) (hm:p.rows.length<=8) (hl:∀ i,i<p.rows.length->(p.r i).terms.length<=12) :
  Calls Tryz.prog 23 #[pv,xv] w (SepPost w p x):=by
 have HVa:=bH (fun W (hW:XF w W)=>Valid_any W pv p (hp.keep hW))
 have HMi:=bH (fun (hval:validB p=true) W (hW:XF w W) (i:Nat) (hi:i<p.rows.length)=>minimal_any W pv xv p i x L (hp.keep hW) hval hi (hx.keep hW) h1 (by omega) hn (hl i hi))
 have HBr:=bH (fun (hval:validB p=true) W (hW:XF w W) cv c (hc:IsCut W cv c 10) (hs:c.vars.length<=1000)=>breaks_any W pv cv xv p c x L (hp.keep hW) hc hval ⟨hn,hm,hl,hs⟩ (hx.keep hW) h1 hL)
 have HSk:=bH (fun (c:CutV) (hs:c.vars.length<=1000)=>(⟨hn,hm,hl,hs⟩:CSmall p c))
 have HCl:=bH (fun i c (h:CovIs p i x c true)=>covIs_len h hn)
 have HLn:=bH hl
 have HCo:=bH (fun (hval:validB p=true) i (hi:i<p.rows.length)=>valid_coefs hval hi)
 obtain ⟨vv,rv,rfl,hpv,hpr⟩:=hp
 obtain ⟨vo,vc,rfl,-,-,-⟩:=hpv.shape
 obtain ⟨ro,rc,rfl,-,-,-⟩:=hpr.shape
 have HPr:=bH hpr
 obtain ⟨xo,xc,rfl,-,-,-⟩:=hx.shape
 obtain ⟨VB,hVB⟩:∃ x,validB p=x:=⟨_,rfl⟩
 have HVB:=bH hVB
 rw [hVB] at HVa HMi HBr HCo
 obtain ⟨n,hn'⟩:∃ x,p.vars.length=x:=⟨_,rfl⟩
 obtain ⟨m,hm'⟩:∃ x,p.rows.length=x:=⟨_,rfl⟩
 obtain ⟨xn,hxn⟩:∃ y,x.length=y:=⟨_,rfl⟩
 have HM:=bH hm'
 have hm8:m<=8:=by omega
 rw [hn',hm',hxn] at HMi HBr
 rw [hm'] at HCo HLn HPr
 rw [hn',hm'] at HVa
 rw [hn',hm',hxn]
 clear hpv hpr hx hn hm hl hn' hm' hxn hVB
 have HB:=bH (bI (blk_alloc_at w (.cells #[.slice vo n vc,.slice ro m rc] 25)) ((Ext.refl (fun _=>False) w).alloc (.cells #[.slice vo n vc,.slice ro m rc] 25)))
 go_enter Tryz.func23,Tryz.ntmps23
 go_upto_region 2 with fail
 generalize w.alloc (.cells #[.slice vo n vc,.slice ro m rc] 25)=w1 at *
 obtain ⟨pb,hpb⟩:∃ q,w.heap.size=q:=⟨_,rfl⟩
 rw [hpb] at HB ⊢
 clear hpb
 have p0:=cellq HB.out.1 0 rfl
 have p1:=cellq HB.out.1 1 rfl
 go_wp2_with fail
 refine (HVa.out w1 HB.out.2).mono ?_
 rintro r2 w2 ⟨rfl,hx2⟩
 replace HB:=bH (bI (blk_keep HB.out.1 hx2) (HB.out.2.trans hx2))
 clear p0 p1 hx2 HVa
 cases VB with
 | false =>
  go_wp2
  go_ret
  exact ⟨.slice none 0 0,[],rfl,World.ownsRow_nil _ _ _ 4,fun q hq=>(by cases hq),fun _=>rfl,fun e=>(by rw [HVB.out] at e; cases e),HB.out.2⟩
 | true =>
  have p1:=cellq HB.out.1 1 rfl
  replace HMi:=bH (HMi.out rfl)
  replace HBr:=bH (HBr.out rfl)
  replace HCo:=bH (HCo.out rfl)
  go_upto_block 0 with fail
  clear p1
  go_wp2_with fail
  go_loopg [5,25] m (fun gg v5 v25 wr=>∃ (i:Nat) (ov:Value) (qs:List CutQ),i<=m/\gg=m - i/\ov=v5/\v25=.int .i64 i/\SepSt w2 wr ov qs/\(∀ q ∈ qs,SepOk p x q)/\(0<i->Sep0 p x qs)/\qs.length<=20*i)
  case atStart=>exact ⟨0,_,[],Nat.zero_le _,rfl,rfl,rfl,⟨Ext.refl _ _,World.ownsRow_nil _ _ _ 4,fun g hg=>(by cases hg),fun q hq=>(by cases hq)⟩,fun q hq=>(by cases hq),fun h=>absurd h (Nat.lt_irrefl 0),Nat.zero_le _⟩
  case round =>
   obtain ⟨i,ov,qs,him,rfl,rfl,rfl,hst,hok,h0,hql⟩:=hrel
   have HS:=bH (bI hst (bI hok (bI h0 hql)))
   clear hst hok h0 hql
   by_cases hi:i<m
   ·have i0:(0:Int)<=(i:Int):=by omega
    have i1:(i:Int)<(m:Int):=by omega
    have HIm:=bH hi
    obtain ⟨rb,off,ta,tc,rfl,-,e0,e1,e2,e3,e4,-,hT⟩:=HPr.out.atp i (by rw [HM.out]; exact hi)
    have HX:=bH (HB.out.2.trans HS.out.1.ext)
    replace e0:=cell_keep e0 HX.out
    replace e1:=cell_keep e1 HX.out
    replace e2:=cell_keep e2 HX.out
    replace e3:=cell_keep e3 HX.out
    replace e4:=cell_keep e4 HX.out
    have HT:=bH hT
    obtain ⟨tl,htl⟩:∃ q,(p.r i).terms.length=q:=⟨_,rfl⟩
    have HTl:=bH htl
    have htl12:tl<=12:=by rw [<- htl]; exact HLn.out i hi
    rw [htl] at e3 HT
    clear hT htl
    generalize (p.r i).name=nm at *
    generalize (p.r i).group=gr at *
    generalize (p.r i).kind=rk at *
    generalize (p.r i).bound=bd at *
    have hxr:=(Ext.refl (fun _=>False) wr).alloc (.cells #[.string nm,.int .i64 gr,.int .i64 rk,.slice ta tl tc,.int .i64 bd] 35)
    have HR:=bH (bI (blk_alloc_at wr (.cells #[.string nm,.int .i64 gr,.int .i64 rk,.slice ta tl tc,.int .i64 bd] 35)) (HS.out.1.keep hxr))
    clear hxr
    go_upto_region 7 with fail
    clear e0 e1 e2 e3 e4 HX
    generalize wr.alloc (.cells #[.string nm,.int .i64 gr,.int .i64 rk,.slice ta tl tc,.int .i64 bd] 35)=wA at *
    generalize wr.heap.size=rwb at *
    have HX:=bH (HB.out.2.trans HR.out.2.ext)
    have p0:=cell_keep (cellq HB.out.1 0 rfl) HR.out.2.ext
    have p1:=cell_keep (cellq HB.out.1 1 rfl) HR.out.2.ext
    have HMx:=bH (HMi.out wA HX.out i hi)
    go_wp2_with fail
    refine HMx.out.mono ?_
    rintro r3 w3 ⟨sv,c,ok,rfl,hir,hmul,hcov,hx3⟩
    obtain ⟨so,sc,rfl,-⟩:=hir.inz.shape
    replace HR:=bH (bI (blk_keep HR.out.1 hx3) (HR.out.2.keep hx3))
    have HQ:=bH (show CutAt w3 ⟨c,none,0,0,so,c.vars.length,sc⟩ from ⟨.inl ⟨rfl,rfl,rfl,hmul⟩,own_down hir (Nat.zero_le _)⟩)
    have HCv:=bH hcov
    clear p0 p1 HX HMx hir hmul hcov hx3
    have HCs:=bH (show c=⟨c.kind,c.mul,c.row,c.vars⟩ from rfl)
    obtain ⟨kd,hkd⟩:∃ q,c.kind=q:=⟨_,rfl⟩
    obtain ⟨cr,hcr⟩:∃ q,c.row=q:=⟨_,rfl⟩
    obtain ⟨sn,hsn⟩:∃ q,c.vars.length=q:=⟨_,rfl⟩
    have HK:=bH (bI hkd (bI hcr hsn))
    rw [hsn] at HQ
    rw [hkd,hcr,hsn]
    clear hkd hcr hsn
    have hxc:=(Ext.refl (fun _=>False) w3).alloc (.cells #[.int .i64 kd,.slice none 0 0,.int .i64 cr,.slice so sn sc] 29)
    replace HR:=bH (bI (blk_keep HR.out.1 hxc) (HR.out.2.keep hxc))
    replace HQ:=bH (HQ.out.keep hxc)
    have HC:=bH (blk_alloc_at w3 (.cells #[.int .i64 kd,.slice none 0 0,.int .i64 cr,.slice so sn sc] 29))
    clear hxc
    go_upto_region 8 with fail
    generalize w3.alloc (.cells #[.int .i64 kd,.slice none 0 0,.int .i64 cr,.slice so sn sc] 29)=w4 at *
    generalize w3.heap.size=cbx at *
    have HX:=bH (HB.out.2.trans HR.out.2.ext)
    go_cut [43] (fun v43 wx=>∃ Bx:Bool,v43=.bool Bx/\(Bx=true->ok=true/\breaksP p c x=true)/\(ok=true->breaksP p c x=true->Bx=true)/\XF w4 wx)
    case first =>
     cases ok with
     | false =>
      go_wp2
      go_meet
      exact ⟨false,rfl,(fun h=>by cases h),(fun h=>by cases h),Ext.refl _ _⟩
     | true =>
      have hI:=HQ.out.isCut
      dsimp only at hI
      rw [HK.out.1,HK.out.2.1] at hI
      have HBx:=bH (HBr.out w4 HX.out _ c hI (HCl.out i c HCv.out))
      clear hI
      obtain ⟨BR,hBR⟩:∃ b,breaksP p c x=b:=⟨_,rfl⟩
      have HBR:=bH hBR
      rw [hBR] at HBx
      have p0:=cell_keep (cellq HB.out.1 0 rfl) HR.out.2.ext
      have p1:=cell_keep (cellq HB.out.1 1 rfl) HR.out.2.ext
      have c0:=cellq HC.out 0 rfl
      have c1:=cellq HC.out 1 rfl
      have c2:=cellq HC.out 2 rfl
      have c3:=cellq HC.out 3 rfl
      clear hBR
      go_wp2_with fail
      refine HBx.out.mono ?_
      rintro r5 w5 ⟨rfl,hx5⟩
      go_wp2
      go_meet
      exact ⟨BR,rfl,(fun h=>⟨(by first | rfl | trivial),HBR.out.trans h⟩),(fun _ h=>HBR.out.symm.trans h),hx5⟩
    case rest =>
    obtain ⟨Bx,rfl,hB1,hB2,hx5⟩:=hcut
    obtain ⟨w5,rfl⟩:∃ q,q=wc:=⟨_,rfl⟩
    have HBx:=bH (bI hB1 hB2)
    replace HR:=bH (bI (blk_keep HR.out.1 hx5) (HR.out.2.keep hx5))
    replace HQ:=bH (HQ.out.keep hx5)
    replace HC:=bH (blk_keep HC.out hx5)
    clear hB1 hB2 hx5 HX
    go_step
    go_cut [5] (fun v5 wx=>∃ (ov':Value) (qs':List CutQ),ov'=v5/\SepSt w2 wx ov' qs'/\(∀ q ∈ qs',SepOk p x q)/\Sep0 p x qs'/\qs'.length<=20*i+1/\blk wx rwb=some (.cells #[.string nm,.int .i64 gr,.int .i64 rk,.slice ta tl tc,.int .i64 bd] 35 (0,0)))
    case first =>
     cases Bx with
     | false =>
      have HS0:=bH (show Sep0 p x qs from fun c' hc' hb'=>by
       by_cases e:i=0
       ·subst e
        obtain ⟨e1,e2⟩:=CovIs.uniq HCv.out hc'
        subst e1
        have:=HBx.out.2 e2 hb'
        cases this
       ·exact HS.out.2.2.1 (Nat.pos_of_ne_zero e) c' hc' hb')
      go_wp2
      go_meet
      exact ⟨_,qs,rfl,HR.out.2,HS.out.2.1,HS0.out,by have:=HS.out.2.2.2; omega,HR.out.1⟩
     | true =>
      have c0:=cellq HC.out 0 rfl
      have c1:=cellq HC.out 1 rfl
      have c2:=cellq HC.out 2 rfl
      have c3:=cellq HC.out 3 rfl
      have hxs:=(Ext.refl (fun _=>False) w5).alloc (.cells #[.int .i64 kd,.slice none 0 0,.int .i64 cr,.slice so sn sc] 29)
      have hsr:=cut_src w5 ⟨c,none,0,0,so,sn,sc⟩
      dsimp only at hsr
      rw [HK.out.1,HK.out.2.1] at hsr
      have HKp:=bH (bI (HR.out.2.keep hxs) (bI hsr (bI (blk_keep HR.out.1 hxs) (HQ.out.keep hxs))))
      clear hxs hsr
      have HLq:=bH (show qs.length<=100000 from by have:=HS.out.2.2.2; omega)
      go_wp2_with (at_builtin; refine wpList_appG rfl (.tmp 44) (.tmp 46) rfl Tryz.underlying52 Tryz.infoCut rfl (cQ_noD ⟨⟨0,[],0,[]⟩,none,0,0,none,0,0⟩) (by decide) (by decide) w2.heap.size ov qs.length (qs.flatMap cQ) rfl HKp.out.1.own HKp.out.1.nod (cQs_noD _) ⟨w5.heap.size,0,none⟩ 1 (cQ ⟨c,none,0,0,so,sn,sc⟩) rfl rfl HKp.out.2.1 (cQ_one _) (cQ_noD _) HLq.out HKp.out.1.ext.size ?_; intro v15 w15 ha15; have HP:=bH (bI (HKp.out.1.push ha15 HKp.out.2.2.2) (HKp.out.1.blk_push ha15 HKp.out.2.2.1 (by decide))); clear ha15)
      go_meet
      exact ⟨_,_,rfl,HP.out.1,(fun q hq=>by
       rcases List.mem_append.1 hq with h | h
       ·exact HS.out.2.1 q h
       ·rw [List.mem_singleton.1 h]
        obtain ⟨e1,e2⟩:=HBx.out.1 (by first | rfl | trivial)
        exact ⟨e2,HSk.out c (HCl.out i c (e1 ▸ HCv.out))⟩),(fun _ _ _ h=>by simp at h),(by rw [List.length_append,List.length_singleton]; have:=HS.out.2.2.2; omega),HP.out.2⟩
    case rest =>
    clear HR HQ HC HBx HCv HCs HK
    obtain ⟨ov1,qs1,rfl,hst,hok,h0,hql,hrb⟩:=hcut
    obtain ⟨w6,rfl⟩:∃ q,q=wc:=⟨_,rfl⟩
    replace HS:=bH (bI hst (bI hok (bI h0 hql)))
    have HRb:=bH hrb
    clear hst hok h0 hql hrb
    have r3:=cellq HRb.out 3 rfl
    go_upto_block 2 with fail
    clear r3
    go_cut [10] (fun v10 wx=>∃ (lv:Value) (l:List Int),lv=v10/\LRow wx w6.heap.size lv l/\(∀ z ∈ l,2<=z/\z<=1099511627776)/\l.length<=tl/\XF w6 wx)
    case first =>
     go_wp2_with fail
     go_loopg [10,51] tl (fun gg v10 v51 wr=>∃ (k:Nat) (lv:Value) (l:List Int),k<=tl/\gg=tl - k/\lv=v10/\v51=.int .i64 k/\LRow wr w6.heap.size lv l/\(∀ z ∈ l,2<=z/\z<=1099511627776)/\l.length<=k/\XF w6 wr)
     case atStart=>exact ⟨0,_,[],Nat.zero_le _,rfl,rfl,rfl,LRow.nil _ _,(fun z hz=>by cases hz),Nat.le_refl _,Ext.refl _ _⟩
     case round =>
      obtain ⟨k,lv,l,hk,rfl,rfl,rfl,hlr,hl2,hlk,hxr⟩:=hrel
      have HI:=bH (bI hlr (bI hl2 (bI hlk hxr)))
      clear hlr hl2 hlk hxr
      by_cases hkt:k<tl
      ·have k0:(k:Int)<(tl:Int):=by omega
       have k1:(0:Int)<=(k:Int):=by omega
       have hkl:k<(p.r i).terms.length:=by rw [HTl.out]; exact hkt
       obtain ⟨tb,tof,rfl,-,t0,t1,-⟩:=(HT.out.keep (HB.out.2.trans (HS.out.1.ext.trans HI.out.2.2.2))).atr (r:=p.r i) k hkl
       have hlim:=HCo.out i HIm.out ((p.r i).t k) (by unfold RowV.t; rw [getD_lt hkl]; exact List.getElem_mem _)
       clear hkl
       generalize ((p.r i).t k).var=v at *
       generalize ((p.r i).t k).coef=cf at *
       have hcf:-1099511627776<=cf/\cf<=1099511627776:=by
        unfold limB at hlim
        simp only [Bool.and_eq_true,decide_eq_true_eq] at hlim
        omega
       clear hlim
       have hxA:=(Ext.refl (fun _=>False) wr).alloc (.cells #[.int .i64 v,.int .i64 cf] 70)
       replace HI:=bH (show LRow (wr.alloc (.cells #[.int .i64 v,.int .i64 cf] 70)) w6.heap.size lv l/\(∀ z ∈ l,2<=z/\z<=1099511627776)/\l.length<=k/\XF w6 (wr.alloc (.cells #[.int .i64 v,.int .i64 cf] 70)) from ⟨HI.out.1.keep hxA,HI.out.2.1,HI.out.2.2.1,HI.out.2.2.2.trans hxA⟩)
       have HA:=bH (blk_alloc_at wr (.cells #[.int .i64 v,.int .i64 cf] 70))
       clear hxA
       go_upto_region 14 with fail
       clear t0 t1
       generalize wr.alloc (.cells #[.int .i64 v,.int .i64 cf] 70)=wA at *
       generalize wr.heap.size=tbx at *
       have t1:=cellq HA.out 1 rfl
       have hwn:IntKind.i64.wrap (-cf) = -cf:=IntWalk.i64_in _ (by omega)
       go_cut [13] (fun v13 wx=>∃ N:Int,v13=.int .i64 N/\0<=N/\N<=1099511627776/\wx=wA)
       case first =>
        go_wp2
        go_meet
        exact ⟨_,rfl,by omega,by omega,rfl⟩
       case rest =>
       clear t1 hwn
       obtain ⟨N,rfl,hN0,hN1,rfl⟩:=hcut
       obtain ⟨wB,rfl⟩:∃ q,q=wc:=⟨_,rfl⟩
       clear HA hcf
       by_cases h2:2<=N
       ·have hxs:=(Ext.refl (fun _=>False) wB).alloc (.cells #[.int .i64 N] 2)
        have HIs:=bH (bI (HI.out.1.keep hxs) (bI (HI.out.2.2.2.trans hxs) (bI (l_src wB N) (show l.length<=100000 from by have:=HI.out.2.2.1; omega))))
        have HNb:=bH (show ∀ z ∈ l++[N],2<=z/\z<=1099511627776 from fun z hz=>by
         rcases List.mem_append.1 hz with h | h
         ·exact HI.out.2.1 z h
         ·rw [List.mem_singleton.1 h]; exact ⟨h2,hN1⟩)
        clear hxs
        go_wp2_with (at_builtin; refine wpList_append_el (f:=cI) rfl (.tmp 63) (.tmp 65) rfl cI_len' N (cI_one' _) Tryz.underlying85 Tryz.infoL rfl (by decide) (by decide) w6.heap.size lv l rfl HIs.out.1.own ⟨wB.heap.size,0,none⟩ 1 rfl HIs.out.2.2.1 HIs.out.2.2.2 HIs.out.2.1.size ?_; intro v15 w15 g1 g2 g3; have HN:=bH (bI (LRow.of g1) (HIs.out.2.1.own g2 (fun k e=>(World.ownsRow.lt HIs.out.1 k e).1))); clear g1 g2 g3)
        go_roundg (tl - (k+1))
        case measure=>omega
        case rel=>exact ⟨k+1,_,_,by omega,rfl,rfl,by go_num,HN.out.1,HNb.out,by rw [List.length_append,List.length_singleton]; have:=HI.out.2.2.1; omega,HN.out.2⟩
       ·go_wp2
        go_roundg (tl - (k+1))
        case measure=>omega
        case rel=>exact ⟨k+1,_,l,by omega,rfl,rfl,by go_num,HI.out.1,HI.out.2.1,by have:=HI.out.2.2.1; omega,HI.out.2.2.2⟩
      ·obtain rfl:k=tl:=by omega
       go_wp2
       go_meet
       exact ⟨_,l,rfl,HI.out⟩
    case rest =>
    obtain ⟨lv,l,rfl,hlr,hl2,hll,hxr⟩:=hcut
    obtain ⟨w7,rfl⟩:∃ q,q=wc:=⟨_,rfl⟩
    have HSo:=bH (lsort_any w7 w6.heap.size lv l hlr (by omega))
    have HI:=bH (bI hlr (bI hl2 (bI hll hxr)))
    clear hlr hl2 hll hxr
    go_wp2_with fail
    refine HSo.out.mono ?_
    rintro r8 w8 ⟨rfl,l1,hp1,hl1,hx8⟩
    have hx68:=HI.out.2.2.2.own hx8 (fun k e=>(World.ownsRow.lt HI.out.1 k e).1)
    replace HI:=bH (show LRow w8 w6.heap.size lv l1/\(∀ z ∈ l1,2<=z/\z<=1099511627776)/\l1.length<=tl/\XF w6 w8 from ⟨hl1,fun z hz=>HI.out.2.1 z (hp1.mem_iff.1 hz),by rw [hp1.length_eq]; exact HI.out.2.2.1,hx68⟩)
    clear hp1 hl1 hx8 hx68 HSo
    have r2:=cell_keep (cellq HRb.out 2 rfl) HI.out.2.2.2
    go_upto_region 20 with fail
    go_cut [72] (fun v72 wx=>∃ b:Bool,v72=.bool b/\wx=w8)
    case first =>
     by_cases hk0:rk=0
     ·subst hk0
      go_wp2
      go_meet
      exact ⟨_,rfl,rfl⟩
     ·have k3:(rk == 0)=false:=by simpa using hk0
      have k4:decide (rk=0)=false:=decide_eq_false hk0
      go_wp2
      go_meet
      exact ⟨_,rfl,rfl⟩
    case rest =>
    obtain ⟨b,rfl,rfl⟩:=hcut
    obtain ⟨w9,rfl⟩:∃ q,q=wc:=⟨_,rfl⟩
    clear r2
    go_step
    go_cut [14] (fun v14 wx=>∃ sg:Int,v14=.int .i64 sg/\(sg=1∨sg = -1)/\wx=w9)
    case first =>
     cases b with
     | false =>
      go_wp2
      go_meet
      exact ⟨1,rfl,.inl rfl,rfl⟩
     | true =>
      go_wp2
      go_meet
      exact ⟨-1,rfl,.inr rfl,rfl⟩
    case rest =>
    obtain ⟨sg,rfl,hsg,rfl⟩:=hcut
    obtain ⟨w10,rfl⟩:∃ q,q=wc:=⟨_,rfl⟩
    have HSg:=bH hsg
    have HCm:=bH (lcomp_any w10 w6.heap.size lv l1 HI.out.1 (by have:=HI.out.2.2.1; omega))
    clear hsg
    go_wp2_with fail
    refine HCm.out.mono ?_
    rintro r11 w11 ⟨cv,l2,rfl,hm2,hl2,hr2,hx11⟩
    have hx611:=HI.out.2.2.2.own hx11 (fun k e=>(World.ownsRow.lt HI.out.1 k e).1)
    replace HI:=bH (show LRow w11 w6.heap.size cv l2/\(∀ z ∈ l2,2<=z/\z<=1099511627776)/\l2.length<=12/\XF w6 w11 from ⟨hr2,fun z hz=>HI.out.2.1 z (hm2 z hz),by have:=HI.out.2.2.1; omega,hx611⟩)
    clear hm2 hl2 hr2 hx11 hx611 HCm
    obtain ⟨co,cc,rfl⟩:∃ co cc,cv=.slice co l2.length cc:=by
     rcases HI.out.1.shape with ⟨rfl,rfl⟩ | ⟨g,c,rfl,_,_⟩
     ·exact ⟨none,0,rfl⟩
     ·exact ⟨_,_,rfl⟩
    obtain ⟨cn,hcn⟩:∃ q,l2.length=q:=⟨_,rfl⟩
    have HCn:=bH hcn
    have hcn12:cn<=12:=by have:=HI.out.2.2.1; omega
    rw [hcn] at HI ⊢
    clear hcn
    replace HS:=bH (bI (HS.out.1.keep HI.out.2.2.2) HS.out.2)
    go_upto_block 4 with fail
    go_wp2_with fail
    go_loopg [5,76] cn (fun gg v5 v76 wr=>∃ (k:Nat) (ov':Value) (qs':List CutQ),k<=cn/\gg=cn - k/\ov'=v5/\v76=.int .i64 k/\SepSt w2 wr ov' qs'/\(∀ q ∈ qs',SepOk p x q)/\Sep0 p x qs'/\qs'.length<=20*i+1+k/\LRow wr w6.heap.size (.slice co cn cc) l2)
    case atStart=>exact ⟨0,_,qs1,Nat.zero_le _,rfl,rfl,rfl,HS.out.1,HS.out.2.1,HS.out.2.2.1,HS.out.2.2.2,HI.out.1⟩
    case round =>
     obtain ⟨k,ov3,qs3,hk,rfl,rfl,rfl,hst,hok,h0,hql,hlr⟩:=hrel
     have HS3:=bH (bI hst (bI hok (bI h0 hql)))
     have HL:=bH hlr
     clear hst hok h0 hql hlr
     by_cases hkc:k<cn
     ·have k0:(k:Int)<(cn:Int):=by omega
      have k1:(0:Int)<=(k:Int):=by omega
      have hkl:k<l2.length:=by rw [HCn.out]; exact hkc
      have hkv:=HI.out.2.1 (l2.getD k 0) (by rw [getD_lt hkl]; exact List.getElem_mem _)
      obtain ⟨cg,rfl⟩:∃ cg,co=some ⟨cg,0,none⟩:=by
       rcases HL.out.shape with ⟨e,e2⟩ | ⟨g,c,e,_,_⟩
       ·rw [e2] at hkl; exact absurd hkl (Nat.not_lt_zero k)
       ·cases e; exact ⟨_,rfl⟩
      have e0:=(HL.out.cell hkl).1
      generalize l2.getD k 0=kv at *
      clear hkl
      obtain ⟨wm,hmk,hA,hxm⟩:=run_make_rats wr (i+1) (by omega)
      have hi1:((i+1:Nat):Int)=(i:Int)+1:=by omega
      rw [hi1] at hmk
      have HA:=bH (bI hA (bI hxm (show wr.heap.size<wm.heap.size from hA.lt)))
      clear hA hxm hi1
      have k2:IntKind.i64.wrap ((i:Int)+1)=(i:Int)+1:=IntWalk.i64_in _ (by omega)
      have i2:(i:Int)<(i:Int)+1:=by omega
      have i3:(i:Int)<((i+1:Nat):Int):=by omega
      have HFr:=bH (pfrac_any wm sg kv (by rcases HSg.out with e | e <;> rw [e] <;> exact ⟨by decide,by decide⟩) ⟨by omega,by omega⟩ (by omega))
      have HSq:=bH (show Sz ((sg:Rat) / (kv:Rat)) 10 from quot_sz (by rcases HSg.out with e | e <;> rw [e] <;> exact ⟨by decide,by decide⟩) ⟨by omega,by omega⟩)
      generalize ((sg:Rat) / (kv:Rat))=Q at *
      clear hkv
      go_upto_region 26 with fail
      clear e0 hmk
      obtain ⟨B,hB⟩:∃ q,wr.heap.size=q:=⟨_,rfl⟩
      have HBw:=bH (Nat.le_of_eq hB)
      rw [hB] at HA ⊢
      clear hB
      go_wp2_with fail
      refine HFr.out.mono ?_
      rintro r13 w13 ⟨v13,rfl,h13,hx13⟩
      obtain ⟨n3,a3,l3,c3,a3',l3',c3',rfl⟩:=h13.shape
      have harr:=HA.out.1.keep hx13
      have f0:=harr.free (i*3)
      have f1:=harr.free (i*3+1)
      have f2:=harr.free (i*3+2)
      obtain ⟨y0,y1,y2,y3,y4,y5,y6,t0,t1,t2,-⟩:=harr.cells i (Nat.lt_succ_self i)
      obtain ⟨q1,q2,-⟩:=harr.put (Nat.lt_succ_self i) h13
      have HA2:=bH (bI q1 ((HA.out.2.1.trans hx13).own q2 (fun k e=>by rw [show k=B from e]; exact HBw.out)))
      clear harr q1 q2 h13 hx13 HFr
      go_upto_region 27 with fail
      generalize ((w13.setCell ⟨B,i*3,none⟩ (.bool n3)).setCell ⟨B,i*3+1,none⟩ (.slice a3 l3 c3)).setCell ⟨B,i*3+2,none⟩ (.slice a3' l3' c3')=w14 at *
      clear f0 f1 f2 t0 t1 t2
      have HQ:=bH (show CutAt w14 ⟨⟨0,listTo (i+1) (fun j=>if j=i then Q else 0),0,[]⟩,some ⟨B,0,none⟩,i+1,i+1,none,0,0⟩ from
       ⟨.inr ⟨B,_,rfl,rfl,(show i+1<=1000 by omega),HA2.out.1,rfl,fun j _=>(by
        show Sz (if j=i then Q else 0) 10
        split
        ·exact HSq.out
        ·exact Sz.zero.mono (by decide))⟩,IRow.nil _ _⟩)
      obtain ⟨c2,hc2⟩:∃ c:CutV,c=⟨0,listTo (i+1) (fun j=>if j=i then Q else 0),0,[]⟩:=⟨_,rfl⟩
      have HC2:=bH (show c2.kind=0/\c2.row=0/\c2.vars.length<=1000 from by rw [hc2]; exact ⟨rfl,rfl,Nat.zero_le _⟩)
      rw [<- hc2] at HQ
      clear hc2 HSq
      have hxc:=(Ext.refl (fun _=>False) w14).alloc (.cells #[.int .i64 0,.slice (some ⟨B,0,none⟩) (i+1) (i+1),.int .i64 0,.slice none 0 0] 29)
      replace HQ:=bH (HQ.out.keep hxc)
      have HC:=bH (blk_alloc_at w14 (.cells #[.int .i64 0,.slice (some ⟨B,0,none⟩) (i+1) (i+1),.int .i64 0,.slice none 0 0] 29))
      replace HA2:=bH (HA2.out.2.trans hxc)
      clear hxc HA
      go_upto_region 28 with fail
      generalize w14.alloc (.cells #[.int .i64 0,.slice (some ⟨B,0,none⟩) (i+1) (i+1),.int .i64 0,.slice none 0 0] 29)=w15 at *
      generalize w14.heap.size=cbx2 at *
      have HX:=bH (HB.out.2.trans (HS3.out.1.ext.trans HA2.out))
      have p0:=cell_keep (cellq HB.out.1 0 rfl) (HS3.out.1.ext.trans HA2.out)
      have p1:=cell_keep (cellq HB.out.1 1 rfl) (HS3.out.1.ext.trans HA2.out)
      have c0:=cellq HC.out 0 rfl
      have c1:=cellq HC.out 1 rfl
      have c2':=cellq HC.out 2 rfl
      have c3':=cellq HC.out 3 rfl
      have hI:=HQ.out.isCut
      dsimp only at hI
      rw [HC2.out.1,HC2.out.2.1] at hI
      have HBx:=bH (HBr.out w15 HX.out _ c2 hI HC2.out.2.2)
      obtain ⟨BR,hBR⟩:∃ b,breaksP p c2 x=b:=⟨_,rfl⟩
      have HBR:=bH hBR
      rw [hBR] at HBx
      clear hI hBR HX
      go_wp2_with fail
      refine HBx.out.mono ?_
      rintro r16 w16 ⟨rfl,hx16⟩
      replace HQ:=bH (HQ.out.keep hx16)
      replace HC:=bH (blk_keep HC.out hx16)
      replace HA2:=bH (HA2.out.trans hx16)
      replace HS3:=bH (bI (HS3.out.1.keep HA2.out) HS3.out.2)
      replace HL:=bH (HL.out.keep HA2.out)
      clear p0 p1 c0 c1 c2' c3' hx16 HBx
      cases BR with
      | false =>
       go_wp2
       go_roundg (cn - (k+1))
       case measure=>omega
       case rel=>exact ⟨k+1,_,qs3,by omega,rfl,rfl,by go_num,HS3.out.1,HS3.out.2.1,HS3.out.2.2.1,by have:=HS3.out.2.2.2; omega,HL.out⟩
      | true =>
       have c0:=cellq HC.out 0 rfl
       have c1:=cellq HC.out 1 rfl
       have c2':=cellq HC.out 2 rfl
       have c3':=cellq HC.out 3 rfl
       have hxs:=(Ext.refl (fun _=>False) w16).alloc (.cells #[.int .i64 0,.slice (some ⟨B,0,none⟩) (i+1) (i+1),.int .i64 0,.slice none 0 0] 29)
       have hsr:=cut_src w16 ⟨c2,some ⟨B,0,none⟩,i+1,i+1,none,0,0⟩
       dsimp only at hsr
       rw [HC2.out.1,HC2.out.2.1] at hsr
       have HKp:=bH (bI (HS3.out.1.keep hxs) (bI hsr (bI (HL.out.keep hxs) (HQ.out.keep hxs))))
       clear hxs hsr
       have HLq:=bH (show qs3.length<=100000 from by have:=HS3.out.2.2.2; omega)
       go_wp2_with (at_builtin; refine wpList_appG rfl (.tmp 98) (.tmp 100) rfl Tryz.underlying52 Tryz.infoCut rfl (cQ_noD ⟨⟨0,[],0,[]⟩,none,0,0,none,0,0⟩) (by decide) (by decide) w2.heap.size ov3 qs3.length (qs3.flatMap cQ) rfl HKp.out.1.own HKp.out.1.nod (cQs_noD _) ⟨w16.heap.size,0,none⟩ 1 (cQ ⟨c2,some ⟨B,0,none⟩,i+1,i+1,none,0,0⟩) rfl rfl HKp.out.2.1 (cQ_one _) (cQ_noD _) HLq.out HKp.out.1.ext.size ?_; intro v15 w17 ha15; have HP:=bH (bI (HKp.out.1.push ha15 HKp.out.2.2.2) (HKp.out.1.row_push ha15 HKp.out.2.2.1)); clear ha15)
       go_roundg (cn - (k+1))
       case measure=>omega
       case rel=>exact ⟨k+1,_,_,by omega,rfl,rfl,by go_num,HP.out.1,(fun q hq=>by
        rcases List.mem_append.1 hq with h | h
        ·exact HS3.out.2.1 q h
        ·rw [List.mem_singleton.1 h]
         exact ⟨HBR.out,HSk.out c2 HC2.out.2.2⟩),(fun _ _ _ h=>by simp at h),(by rw [List.length_append,List.length_singleton]; have:=HS3.out.2.2.2; omega),HP.out.2⟩
     ·obtain rfl:k=cn:=by omega
      clear HI HL HCn
      go_wp2
      go_roundg (m - (i+1))
      case measure=>omega
      case rel=>exact ⟨i+1,_,qs3,by omega,rfl,rfl,by go_num,HS3.out.1,HS3.out.2.1,fun _=>HS3.out.2.2.1,by have:=HS3.out.2.2.2; omega⟩
   ·obtain rfl:i=m:=by omega
    have HOw:=bH (own_down HS.out.1.own HB.out.2.size)
    have HXe:=bH (HB.out.2.trans HS.out.1.ext)
    have HMe:=bH (show validB p=true->0<p.rows.length->Sep0 p x qs from fun _ h=>HS.out.2.2.1 (by rw [<- HM.out]; exact h))
    go_wp2
    go_ret
    exact ⟨_,qs,rfl,HOw.out,fun q hq=>⟨HS.out.1.cuts q hq,HS.out.2.1 q hq⟩,(fun e=>by rw [HVB.out] at e; cases e),HMe.out,HXe.out⟩
theorem quot_pos {z y:Int} (hy:0<y):mkRat z y.natAbs=(z:Rat) / (y:Rat):=by
 obtain ⟨n,rfl⟩:∃ n:Nat,y=n:=⟨y.toNat,by omega⟩
 rw [Int.natAbs_natCast,Rat.mkRat_eq_div]; rfl
theorem quot_neg {z y:Int} (hy:y<0):mkRat (-z) y.natAbs=(z:Rat) / (y:Rat):=by
 obtain ⟨n,rfl⟩:∃ n:Nat,y = -(n:Int):=⟨(-y).toNat,by omega⟩
 rw [Int.natAbs_neg,Int.natAbs_natCast,Rat.mkRat_eq_div,Rat.intCast_neg,Rat.intCast_neg,Rat.intCast_natCast]
 grind
theorem boxI_of {W:World} {k:Nat} {neg:Bool} {ao:Option Addr} {n c:Nat} (h:blk W k=some (.cells #[.bool neg,.slice ao n c] 62 (0,0))):BoxI W k neg (.slice ao n c):=⟨h,no_int _ _ _⟩
theorem BoxI.keep {W W':World} {b:Nat} {neg:Bool} {m:Value} (h:BoxI W b neg m) (hx:XF W W'):BoxI W' b neg m:=h.ext hx id
theorem Rmake_any (w:World) (v v':Value) (z y:Int) (L:Nat) (h:Rint w v z L) (h':Rint w v' y L) (hy:y≠0) (hL:L<=33554432) :
  Calls Tryz.prog 55 #[v,v'] w (QtPost w ((z:Rat) / (y:Rat))):=by
 have HF:=bH (fun W (hW:XF w W)=>Rfix_any W v' y L (h'.keep hW) (by omega))
 have hlz:=h.len
 have hly:=h'.len
 obtain ⟨n1,a1,m1,c1,l1,rfl,hr,hl,hz⟩:=h.open
 obtain ⟨n2,a2,m2,c2,l2,rfl,-,-,-⟩:=h'.open
 have HZ:=bH (bI hr (bI hl hz))
 clear hr hl hz h h'
 obtain ⟨b0,b1,b2,hx⟩:=box3 w (.cells #[.bool n1,.slice a1 m1 c1] 62) (.cells #[.bool n2,.slice a2 m2 c2] 62) (.cells #[.bool false,.slice none 0 0,.slice none 0 0] 64)
 have HB:=bH (bI (boxI_of b0) (bI (boxI_of b1) (bI (boxR_of b2) hx)))
 clear b0 b1 b2 hx
 go_enter Tryz.func55,Tryz.ntmps55
 go_upto_region 1 with fail
 generalize ((w.alloc (.cells #[.bool n1,.slice a1 m1 c1] 62)).alloc (.cells #[.bool n2,.slice a2 m2 c2] 62)).alloc (.cells #[.bool false,.slice none 0 0,.slice none 0 0] 64)=w1 at *
 obtain ⟨pb,hpb⟩:∃ pb,w.heap.size=pb:=⟨_,rfl⟩
 have hpw:w.heap.size<=pb:=Nat.le_of_eq hpb
 rw [hpb] at HB ⊢
 clear hpb
 obtain ⟨e0,e1,-⟩:=HB.out.2.1.facts
 go_upto_region 2 with (go_at_call 100; refine (HF.out _ HB.out.2.2.2).mono ?_; rintro r2 w2 ⟨v2,rfl,h2,hx2⟩; obtain ⟨m0,rfl,hm0⟩:=h2; obtain ⟨ao,cc,rfl⟩:=hm0.shape; have hb2:=HB.out.2.1.keep hx2; obtain ⟨d0,d1,d2,d3⟩:=hb2.facts; clear e0 e1)
 have hp:=hb2.put (neg:=decide (y<0)) (no_int ao (dg y.natAbs).length cc)
 have HB2:=bH (bI ((HB.out.1.keep hx2).ext hp.ext (by omega)) (bI hp.box (bI ((HB.out.2.2.1.keep hx2).ext hp.ext (by omega)) (bI ((HB.out.2.2.2.trans hx2).own hp.ext (fun k e=>by omega)) (bI (hp.rds _ _ (HZ.out.1.keep (HB.out.2.2.2.trans hx2))) (hp.rds _ _ hm0))))))
 clear d0 d1 d2 d3 hp hb2 hm0 hx2 HB HF
 generalize (w2.setCell ⟨pb+1,0,none⟩ (.bool (decide (y<0)))).setCell ⟨pb+1,1,none⟩ (.slice ao (dg y.natAbs).length cc)=w3 at *
 have hny:0<y.natAbs:=by omega
 have hnl:(dg y.natAbs).length≠0:=fun e=>by
  have h1:=vl_dg y.natAbs
  rw [List.eq_nil_of_length_eq_zero e] at h1
  have h2:vl []=0:=rfl
  omega
 have HLy:=bH hly
 obtain ⟨yl,hyl⟩:∃ yl,(dg y.natAbs).length=yl:=⟨_,rfl⟩
 rw [hyl] at HB2 hnl hly ⊢
 have hyl1:¬ (yl:Int)=0:=by omega
 clear hyl
 have HRb:=bH (fun W u zz (hu:Rint W u zz L) (hn:IsNat W (.slice ao yl cc) y.natAbs)=>Rrbuild_any W u zz y.natAbs L _ hu hn hny (by omega) (Nat.le_trans HLy.out (by omega)))
 have HN:=bH (fun W (hW:XF w3 W)=>Rneg_any W (.agg #[.bool n1,.slice a1 m1 c1]) z L ⟨n1,_,l1,rfl,Rds.keep HB2.out.2.2.2.2.1 hW,HZ.out.2.1,HZ.out.2.2⟩ (by omega))
 obtain ⟨e0,e1,-⟩:=HB2.out.2.1.facts
 rcases Int.lt_or_gt_of_ne hy with hlt | hgt
 ·have hd:decide (y<0)=true:=decide_eq_true hlt
  obtain ⟨zn,hzn⟩:∃ x,-z=x:=⟨_,rfl⟩
  have hq:mkRat zn y.natAbs=(z:Rat) / (y:Rat):=by rw [<- hzn]; exact quot_neg hlt
  have hlz2:(dg zn.natAbs).length<=L:=by rw [<- hzn,Int.natAbs_neg]; exact hlz
  rw [hzn] at HN
  clear hzn
  rw [hd] at e0
  obtain ⟨f0,f1,f2,f3⟩:=HB2.out.1.facts
  go_upto_region 6 with (go_at_call 101; refine (HN.out _ (Ext.refl _ _)).mono ?_; rintro r4 w4 ⟨v4,rfl,h4,hx4⟩; obtain ⟨m4,rfl,hm4⟩:=h4; obtain ⟨bo,bc,rfl⟩:=hm4.shape; have hb4:=HB2.out.1.keep hx4; obtain ⟨d0,d1,d2,d3⟩:=hb4.facts)
  have hp:=hb4.put (neg:=decide (zn<0)) (no_int bo (dg zn.natAbs).length bc)
  have HB3:=bH (bI hp.box (bI (((HB2.out.2.1.keep hx4)).ext hp.ext (by omega)) (bI ((HB2.out.2.2.1.keep hx4).ext hp.ext (by omega)) ((HB2.out.2.2.2.1.trans hx4).own hp.ext (fun k e=>by omega)))))
  have HRc:=bH (HRb.out _ _ zn (IsInt.reads ⟨_,rfl,hp.rds _ _ hm4⟩ hlz2) (hp.rds _ _ (Rds.keep HB2.out.2.2.2.2.2 hx4)))
  rw [hq] at HRc
  clear d0 d1 d2 d3 hp hb4 hm4 hx4 e0 e1 f0 f1 f2 f3 HB2 HN HRb
  generalize (w4.setCell ⟨pb,0,none⟩ (.bool (decide (zn<0)))).setCell ⟨pb,1,none⟩ (.slice bo (dg zn.natAbs).length bc)=w5 at *
  obtain ⟨f0,f1,-⟩:=HB3.out.1.facts
  obtain ⟨g0,g1,-⟩:=HB3.out.2.1.facts
  go_wp2_with fail
  refine HRc.out.mono ?_
  rintro q4 w14 ⟨v14,rfl,h14,hx14⟩
  obtain ⟨ng,sa,sn,sc,ta,tn,tc,rfl⟩:=h14.shape
  have hr4:=HB3.out.2.2.1.keep hx14
  obtain ⟨d0,d1,d2,d3,d4,d5⟩:=hr4.facts
  have hp:=hr4.put (neg:=ng) (no_int sa sn sc) (no_int ta tn tc)
  have HR:=bH (bI (hp.rat h14) (bI ((HB3.out.2.2.2.trans hx14).own hp.ext (fun k e=>by omega)) hp.box))
  clear hp hr4 h14 hx14 f0 f1 g0 g1
  go_wp2
  generalize ((w14.setCell ⟨pb+1+1,0,none⟩ (.bool ng)).setCell ⟨pb+1+1,1,none⟩ (.slice sa sn sc)).setCell ⟨pb+1+1,2,none⟩ (.slice ta tn tc)=w20 at *
  obtain ⟨g0,g1,g2,_⟩:=HR.out.2.2.facts
  exact bodyPost_ret (v:=.tuple #[.agg #[.bool ng,.slice sa sn sc,.slice ta tn tc],.int .i64 0]) (by simp [results,Tryz.results55,go_sem,g0,g1,g2]) rfl ⟨_,rfl,HR.out.1,HR.out.2.1⟩
 ·have hd:decide (y<0)=false:=decide_eq_false (by omega)
  rw [hd] at e0
  have HB3:=bH (bI HB2.out.1 (bI HB2.out.2.1 (bI HB2.out.2.2.1 HB2.out.2.2.2.1)))
  have HRc:=bH (HRb.out _ (.agg #[.bool n1,.slice a1 m1 c1]) z ⟨n1,_,l1,rfl,HB2.out.2.2.2.2.1,HZ.out.2.1,HZ.out.2.2⟩ HB2.out.2.2.2.2.2)
  rw [quot_pos hgt] at HRc
  go_upto_region 6 with fail
  clear e0 e1 HB2 HN HRb
  obtain ⟨f0,f1,-⟩:=HB3.out.1.facts
  obtain ⟨g0,g1,-⟩:=HB3.out.2.1.facts
  go_wp2_with fail
  refine HRc.out.mono ?_
  rintro q4 w14 ⟨v14,rfl,h14,hx14⟩
  obtain ⟨ng,sa,sn,sc,ta,tn,tc,rfl⟩:=h14.shape
  have hr4:=HB3.out.2.2.1.keep hx14
  obtain ⟨d0,d1,d2,d3,d4,d5⟩:=hr4.facts
  have hp:=hr4.put (neg:=ng) (no_int sa sn sc) (no_int ta tn tc)
  have HR:=bH (bI (hp.rat h14) (bI ((HB3.out.2.2.2.trans hx14).own hp.ext (fun k e=>by omega)) hp.box))
  clear hp hr4 h14 hx14 f0 f1 g0 g1
  go_wp2
  generalize ((w14.setCell ⟨pb+1+1,0,none⟩ (.bool ng)).setCell ⟨pb+1+1,1,none⟩ (.slice sa sn sc)).setCell ⟨pb+1+1,2,none⟩ (.slice ta tn tc)=w20 at *
  obtain ⟨g0,g1,g2,_⟩:=HR.out.2.2.facts
  exact bodyPost_ret (v:=.tuple #[.agg #[.bool ng,.slice sa sn sc,.slice ta tn tc],.int .i64 0]) (by simp [results,Tryz.results55,go_sem,g0,g1,g2]) rfl ⟨_,rfl,HR.out.1,HR.out.2.1⟩
theorem Rfrac_any (w:World) (k d:Int) (hk:InR k) (hd:InR d) (h0:d≠0):Calls Tryz.prog 30 #[.int .i64 k,.int .i64 d] w (QtPost w ((k:Rat) / (d:Rat))):=by
 have hlk:(dg k.natAbs).length<=2:=by have h:=(Sz.int hk).1; rwa [Rat.num_intCast] at h
 have hld:(dg d.natAbs).length<=2:=by have h:=(Sz.int hd).1; rwa [Rat.num_intCast] at h
 have HFk:=bH (fun W=>Rifrom_any W k hk.1 hk.2)
 have HFd:=bH (fun W=>Rifrom_any W d hd.1 hd.2)
 have HM:=bH (fun W u v (hu:IsInt W u k) (hv:IsInt W v d)=>Rmake_any W u v k d 2 (hu.reads hlk) (hv.reads hld) h0 (by decide))
 have HB:=bH (bI (boxR_new rfl false none 0 0 none 0 0 (W:=w)) ((Ext.refl (fun _=>False) w).alloc (.cells #[.bool false,.slice none 0 0,.slice none 0 0] 64)))
 clear hlk hld hk hd h0
 go_enter Tryz.func30,Tryz.ntmps30
 go_upto_region 1 with fail
 generalize w.alloc (.cells #[.bool false,.slice none 0 0,.slice none 0 0] 64)=w0 at *
 obtain ⟨rb,hrb⟩:∃ q,w.heap.size=q:=⟨_,rfl⟩
 rw [hrb] at HB ⊢
 have HRl:=bH (show w.heap.size<=rb from Nat.le_of_eq hrb)
 clear hrb
 go_wp2_with (first | (go_at_call 56; (first | ((with_reducible refine (HFk.out w0).mono ?_); rintro q1 w1 ⟨v1,rfl,h1,hx1⟩) | ((with_reducible refine (HFd.out w1).mono ?_); rintro q2 w2 ⟨v2,rfl,h2,hx2⟩))) | (go_at_call 55; (with_reducible refine (HM.out w2 _ _ (h1.keep hx2) h2).mono ?_); rintro q3 w3 ⟨v3,rfl,h3,hx3⟩; obtain ⟨n3,a3,l3,c3,a3',l3',c3',rfl⟩:=h3.shape; have hbk:=HB.out.1.ext ((hx1.trans hx2).trans hx3) id; obtain ⟨d0,d1,d2,d3,d4,d5⟩:=hbk.facts; have hpt:=hbk.put (neg:=n3) (no_int a3 l3 c3) (no_int a3' l3' c3'); have HE:=bH (bI hpt.box (bI (hpt.rat h3) ((HB.out.2.trans ((hx1.trans hx2).trans hx3)).own hpt.ext (fun q e=>by have:=HRl.out; omega)))); clear hbk hpt))
 generalize ((w3.setCell ⟨rb,0,none⟩ (.bool n3)).setCell ⟨rb,1,none⟩ (.slice a3 l3 c3)).setCell ⟨rb,2,none⟩ (.slice a3' l3' c3')=w9 at *
 obtain ⟨g0,g1,g2,_⟩:=HE.out.1.facts
 exact bodyPost_ret (v:=.tuple #[.agg #[.bool n3,.slice a3 l3 c3,.slice a3' l3' c3'],.int .i64 0]) (by simp [results,Tryz.results30,go_sem,g0,g1,g2]) rfl ⟨_,rfl,HE.out.2.1,HE.out.2.2⟩
def ex7V:List VarV:=[⟨0,1,false,true,0⟩,⟨0,1,false,true,0⟩,⟨0,1,false,true,0⟩]
def ex7T:List TermV:=[⟨0,3⟩,⟨1,4⟩,⟨2,5⟩]
def ex7R:RowV:=⟨⟨#[]⟩,0,0,ex7T,7⟩
def ex7:ProgV:=⟨ex7V,[ex7R]⟩
def ex7X:List Rat:=[((1:Int):Rat),((1:Int):Rat) / ((2:Int):Rat),((2:Int):Rat) / ((5:Int):Rat)]
theorem example7_any (w:World):Calls Tryz.prog 29 #[] w (PrgPost w ex7):=by
 have hx:=Ext.refl (fun _=>False) w
 go_enter Tryz.func29,Tryz.ntmps29
 go_wp2
 (try simp only [Exit.inBlock,Exit.then])
 obtain ⟨bs,hbs⟩:∃ bs,w.heap.size=bs:=⟨_,rfl⟩
 have hx4:=((((hx.alloc (.cells #[.slice (some ⟨w.heap.size+1+1,0,none⟩) 3 3,.slice (some ⟨w.heap.size+1+1+1+1,0,none⟩) 1 1] 25)).alloc (.cells #[.int .i64 0,.int .i64 1,.bool false,.bool true,.int .i64 0] 73)).alloc (.cells #[.int .i64 0,.int .i64 1,.bool false,.bool true,.int .i64 0,.int .i64 0,.int .i64 1,.bool false,.bool true,.int .i64 0,.int .i64 0,.int .i64 1,.bool false,.bool true,.int .i64 0] 73)).alloc (.cells #[.int .i64 0,.int .i64 3,.int .i64 1,.int .i64 4,.int .i64 2,.int .i64 5] 70)).alloc (.cells #[.string ⟨#[]⟩,.int .i64 0,.int .i64 0,.slice (some ⟨w.heap.size+1+1+1,0,none⟩) 3 3,.int .i64 7] 35)
 obtain ⟨W,hW⟩:∃ W,((((w.alloc (.cells #[.slice (some ⟨w.heap.size+1+1,0,none⟩) 3 3,.slice (some ⟨w.heap.size+1+1+1+1,0,none⟩) 1 1] 25)).alloc (.cells #[.int .i64 0,.int .i64 1,.bool false,.bool true,.int .i64 0] 73)).alloc (.cells #[.int .i64 0,.int .i64 1,.bool false,.bool true,.int .i64 0,.int .i64 0,.int .i64 1,.bool false,.bool true,.int .i64 0,.int .i64 0,.int .i64 1,.bool false,.bool true,.int .i64 0] 73)).alloc (.cells #[.int .i64 0,.int .i64 3,.int .i64 1,.int .i64 4,.int .i64 2,.int .i64 5] 70)).alloc (.cells #[.string ⟨#[]⟩,.int .i64 0,.int .i64 0,.slice (some ⟨w.heap.size+1+1+1,0,none⟩) 3 3,.int .i64 7] 35)=W:=⟨_,rfl⟩
 have b0:blk W (w.heap.size)=some (.cells #[.slice (some ⟨w.heap.size+1+1,0,none⟩) 3 3,.slice (some ⟨w.heap.size+1+1+1+1,0,none⟩) 1 1] 25 (0,0)):=by
  rw [<- hW]
  exact ((blk_alloc_past _ _ _ (by simp [World.size_alloc] <;> omega)).trans ((blk_alloc_past _ _ _ (by simp [World.size_alloc] <;> omega)).trans ((blk_alloc_past _ _ _ (by simp [World.size_alloc] <;> omega)).trans ((blk_alloc_past _ _ _ (by simp [World.size_alloc] <;> omega)).trans (blk_alloc_at _ _)))))
 have b2:blk W (w.heap.size+1+1)=some (.cells #[.int .i64 0,.int .i64 1,.bool false,.bool true,.int .i64 0,.int .i64 0,.int .i64 1,.bool false,.bool true,.int .i64 0,.int .i64 0,.int .i64 1,.bool false,.bool true,.int .i64 0] 73 (0,0)):=by
  rw [<- hW]
  exact ((blk_alloc_past _ _ _ (by simp [World.size_alloc] <;> omega)).trans ((blk_alloc_past _ _ _ (by simp [World.size_alloc] <;> omega)).trans (blk_alloc_at' _ _ _ (by simp [World.size_alloc]))))
 have b3:blk W (w.heap.size+1+1+1)=some (.cells #[.int .i64 0,.int .i64 3,.int .i64 1,.int .i64 4,.int .i64 2,.int .i64 5] 70 (0,0)):=by
  rw [<- hW]
  exact ((blk_alloc_past _ _ _ (by simp [World.size_alloc] <;> omega)).trans (blk_alloc_at' _ _ _ (by simp [World.size_alloc])))
 have b4:blk W (w.heap.size+1+1+1+1)=some (.cells #[.string ⟨#[]⟩,.int .i64 0,.int .i64 0,.slice (some ⟨w.heap.size+1+1+1,0,none⟩) 3 3,.int .i64 7] 35 (0,0)):=by
  rw [<- hW]
  exact (blk_alloc_at' _ _ _ (by simp [World.size_alloc]))
 rw [hW] at hx4 ⊢
 have hs:w.heap.size+1+1+1+1<W.heap.size:=blk_lt b4
 clear hW
 rw [hbs] at b0 b2 b3 b4 hs ⊢
 refine bodyPost_ret (results_cell_row rfl _ W bs 25 _ (0,0) _ rfl b0 Tryz.underlying25 rfl (by kernel_rfl)) rfl ?_
 refine ⟨_,rfl,⟨_,_,rfl,⟨⟨_,_,rfl,Nat.le_refl _,(by unfold maxLen; decide),(fun e=>by cases e),fun _=>⟨bs+1+1,0,rfl,by omega,?_⟩⟩,?_⟩,⟨[.slice (some ⟨bs+1+1+1,0,none⟩) 3 3],rfl,⟨_,_,rfl,Nat.le_refl _,(by show (1:Nat)<=maxLen; unfold maxLen; decide),(fun e=>by cases e),fun _=>⟨bs+1+1+1+1,0,rfl,by omega,?_⟩⟩,?_⟩⟩,hx4⟩
 ·intro i r hi j u hu
  match i,hi with
  | 0,hi=>cases hi; match j,hu with
   | 0,hu=>cases hu; exact cellq b2 0 rfl
   | 1,hu=>cases hu; exact cellq b2 1 rfl
   | 2,hu=>cases hu; exact cellq b2 2 rfl
   | 3,hu=>cases hu; exact cellq b2 3 rfl
   | 4,hu=>cases hu; exact cellq b2 4 rfl
  | 1,hi=>cases hi; match j,hu with
   | 0,hu=>cases hu; exact cellq b2 5 rfl
   | 1,hu=>cases hu; exact cellq b2 6 rfl
   | 2,hu=>cases hu; exact cellq b2 7 rfl
   | 3,hu=>cases hu; exact cellq b2 8 rfl
   | 4,hu=>cases hu; exact cellq b2 9 rfl
  | 2,hi=>cases hi; match j,hu with
   | 0,hu=>cases hu; exact cellq b2 10 rfl
   | 1,hu=>cases hu; exact cellq b2 11 rfl
   | 2,hu=>cases hu; exact cellq b2 12 rfl
   | 3,hu=>cases hu; exact cellq b2 13 rfl
   | 4,hu=>cases hu; exact cellq b2 14 rfl
 ·intro x hx
  simp [ex7,ex7V] at hx
  subst hx
  exact ⟨by unfold InR; decide,by unfold InR; decide,by unfold InR; decide⟩
 ·intro i r hi j u hu
  match i,hi with
  | 0,hi=>cases hi; match j,hu with
   | 0,hu=>cases hu; exact cellq b4 0 rfl
   | 1,hu=>cases hu; exact cellq b4 1 rfl
   | 2,hu=>cases hu; exact cellq b4 2 rfl
   | 3,hu=>cases hu; exact cellq b4 3 rfl
   | 4,hu=>cases hu; exact cellq b4 4 rfl
 ·intro i r tv hr ht
  match i,hr,ht with
  | 0,hr,ht =>
   cases hr; cases ht
   refine ⟨⟨⟨_,_,rfl,Nat.le_refl _,(by unfold maxLen; decide),(fun e=>by cases e),fun _=>⟨bs+1+1+1,0,rfl,by omega,?_⟩⟩,?_⟩,⟨(by show (0:Nat)<=maxLen; unfold maxLen; decide),by unfold InR; decide,by unfold InR; decide,by unfold InR; decide⟩⟩
   ·intro i r hi j u hu
    match i,hi with
    | 0,hi=>cases hi; match j,hu with
     | 0,hu=>cases hu; exact cellq b3 0 rfl
     | 1,hu=>cases hu; exact cellq b3 1 rfl
    | 1,hi=>cases hi; match j,hu with
     | 0,hu=>cases hu; exact cellq b3 2 rfl
     | 1,hu=>cases hu; exact cellq b3 3 rfl
    | 2,hi=>cases hi; match j,hu with
     | 0,hu=>cases hu; exact cellq b3 4 rfl
     | 1,hu=>cases hu; exact cellq b3 5 rfl
   ·intro x hx
    have hx:x ∈ ex7T:=hx; simp [ex7T] at hx
    rcases hx with rfl | rfl | rfl <;> exact ⟨by unfold InR; decide,by unfold InR; decide⟩
theorem ex7_valid:validB ex7=true:=by decide +kernel
theorem ex7_ord:OrdOk ex7 (ex7.r 0) ex7X [0,1,2]:=by
 refine ⟨?_,fun v=>?_⟩
 ·have h1:bef ex7X 0 1:=.inl (by decide +kernel)
  have h2:bef ex7X 0 2:=.inl (by decide +kernel)
  have h3:bef ex7X 1 2:=.inl (by decide +kernel)
  simp [h1,h2,h3]
 ·rw [show binsR ex7 (ex7.r 0)=[0,1,2] from by decide +kernel]
theorem ex7_min:minV ex7 (ex7.r 0) [0,1,2]=some [0,2]:=by decide +kernel
def ex7C:CutV:=⟨1,[],0,[0,2]⟩
def ex7D:CutV:=⟨0,[((-1:Int):Rat) / ((4:Int):Rat)],0,[]⟩
theorem ex7_cov:CovIs ex7 ((0:Nat):Int) ex7X ex7C true:=covIs_some ex7_ord ex7_min ⟨by decide,fun v=>Iff.rfl⟩
theorem terms_eq:∀ {a b:List TermV},a.map (fun t=>(t.var,t.coef))=b.map (fun t=>(t.var,t.coef))->a=b
 | [],[],_=>rfl
 | [],_ :: _,h=>by simp at h
 | _ :: _,[],h=>by simp at h
 | ⟨v,c⟩ :: a,⟨v',c'⟩ :: b,h=>by
  simp only [List.map_cons,List.cons.injEq,Prod.mk.injEq] at h
  obtain ⟨⟨rfl,rfl⟩,h⟩:=h
  rw [terms_eq h]
theorem rowE_eq {a b:RowV × Int} (h1:a.1.name=b.1.name) (h2:(a.1.group,a.1.kind,a.1.bound,a.2)=(b.1.group,b.1.kind,b.1.bound,b.2)) (h3:a.1.terms.map (fun t=>(t.var,t.coef))=b.1.terms.map (fun t=>(t.var,t.coef))):a=b:=by
 obtain ⟨⟨n,g,k,t,c⟩,e⟩:=a
 obtain ⟨⟨n',g',k',t',c'⟩,e'⟩:=b
 simp only [Prod.mk.injEq] at h1 h2
 obtain ⟨rfl,rfl,rfl,rfl⟩:=h2
 subst h1
 rw [show t=t' from terms_eq h3]
theorem ex7_der:deriveP ex7 ex7C=(⟨⟨#[99,117,116]⟩,0,0,[⟨0,1⟩,⟨2,1⟩],1⟩,0):=rowE_eq (by decide +kernel) (by decide +kernel) (by decide +kernel)
theorem ex7_der2:deriveP ex7 ex7D=(⟨⟨#[99,117,116]⟩,0,1,[⟨1,-1⟩,⟨2,-1⟩],-1⟩,0):=rowE_eq (by decide +kernel) (by decide +kernel) (by decide +kernel)
theorem ex7_brk:breaksP ex7 ex7C ex7X=true:=by decide +kernel
theorem rarr3 {w:World} {b:Nat} {n1 n2 n3:Bool} {a1 d1 a2 d2 a3 d3:Option Addr} {l1 c1 m1 e1 l2 c2 m2 e2 l3 c3 m3 e3:Nat} {q1 q2 q3:Rat} (hb:blk w b=some (.cells #[.bool n1,.slice a1 l1 c1,.slice d1 m1 e1,.bool n2,.slice a2 l2 c2,.slice d2 m2 e2,.bool n3,.slice a3 l3 c3,.slice d3 m3 e3] 64 (0,0)))
  (h1:IsRat w (.agg #[.bool n1,.slice a1 l1 c1,.slice d1 m1 e1]) q1) (h2:IsRat w (.agg #[.bool n2,.slice a2 l2 c2,.slice d2 m2 e2]) q2) (h3:IsRat w (.agg #[.bool n3,.slice a3 l3 c3,.slice d3 m3 e3]) q3):RArr w b 3 (fun i=>[q1,q2,q3].getD i 0):=by
 refine ⟨⟨_,hb,rfl⟩,fun i hi=>?_⟩
 match i,hi with
 | 0,_=>exact ⟨_,_,_,_,_,_,_,cellq hb 0 rfl,cellq hb 1 rfl,cellq hb 2 rfl,h1⟩
 | 1,_=>exact ⟨_,_,_,_,_,_,_,cellq hb 3 rfl,cellq hb 4 rfl,cellq hb 5 rfl,h2⟩
 | 2,_=>exact ⟨_,_,_,_,_,_,_,cellq hb 6 rfl,cellq hb 7 rfl,cellq hb 8 rfl,h3⟩
theorem rarr1 {w:World} {b:Nat} {n1:Bool} {a1 d1:Option Addr} {l1 c1 m1 e1:Nat} {q1:Rat} (hb:blk w b=some (.cells #[.bool n1,.slice a1 l1 c1,.slice d1 m1 e1] 64 (0,0))) (h1:IsRat w (.agg #[.bool n1,.slice a1 l1 c1,.slice d1 m1 e1]) q1):RArr w b 1 (fun i=>[q1].getD i 0):=by
 refine ⟨⟨_,hb,rfl⟩,fun i hi=>?_⟩
 match i,hi with
 | 0,_=>exact ⟨_,_,_,_,_,_,_,cellq hb 0 rfl,cellq hb 1 rfl,cellq hb 2 rfl,h1⟩
theorem tms_two {w:World} {b:Nat} {v1 c1 v2 c2:Int} (hb:blk w b=some (.cells #[.int .i64 v1,.int .i64 c1,.int .i64 v2,.int .i64 c2] 70 (0,0))) (h:∀ t ∈ [(⟨v1,c1⟩:TermV),⟨v2,c2⟩],TermOk t):Tms w (.slice (some ⟨b,0,none⟩) 2 2) [⟨v1,c1⟩,⟨v2,c2⟩]:=by
 refine ⟨⟨some ⟨b,0,none⟩,2,rfl,Nat.le_refl _,by unfold maxLen; decide,(fun e=>by cases e),fun _=>⟨b,0,rfl,blk_lt hb,fun i r hi j u hu=>?_⟩⟩,h⟩
 match i,hi with
 | 0,hi=>cases hi; match j,hu with
  | 0,hu=>cases hu; exact cellq hb 0 rfl
  | 1,hu=>cases hu; exact cellq hb 1 rfl
 | 1,hi=>cases hi; match j,hu with
  | 0,hu=>cases hu; exact cellq hb 2 rfl
  | 1,hu=>cases hu; exact cellq hb 3 rfl
theorem ex7_small {c:CutV} (h:c.vars.length<=1000):CSmall ex7 c:=⟨by decide,by decide,fun i hi=>by
 match i,hi with
 | 0,_=>decide,h⟩
theorem ex7_rats {w:World} {b:Nat} (h:RArr w b 3 (fun i=>ex7X.getD i 0)):Rats w (.slice (some ⟨b,0,none⟩) 3 3) ex7X 10:=by
 have h2:=h.rats (L:=10) (fun i hi=>by
  match i,hi with
  | 0,_=>exact (Sz.int (k:=1) ⟨by decide,by decide⟩).mono (by decide)
  | 1,_=>exact quot_sz (a:=1) (b:=2) ⟨by decide,by decide⟩ ⟨by decide,by decide⟩
  | 2,_=>exact quot_sz (a:=2) (b:=5) ⟨by decide,by decide⟩ ⟨by decide,by decide⟩) (Nat.le_refl 3) (by unfold maxLen; decide)
 exact h2
theorem ex7_mul {w:World} {b:Nat} (h:RArr w b 1 (fun i=>ex7D.mul.getD i 0)):Rats w (.slice (some ⟨b,0,none⟩) 1 1) ex7D.mul 10:=by
 have h2:=h.rats (L:=10) (fun i hi=>by
  match i,hi with
  | 0,_=>exact quot_sz (a:=-1) (b:=4) ⟨by decide,by decide⟩ ⟨by decide,by decide⟩) (Nat.le_refl 1) (by unfold maxLen; decide)
 exact h2
theorem ex7_terms:∀ i,i<ex7.rows.length->(ex7.r i).terms.length<=12:=fun i hi=>by
 match i,hi with
 | 0,_=>decide
theorem owns_le {w:World} {base:Nat} {e:TypeId} {size:Nat} {v:Value} {n:Nat} {xs:List Value} (h:w.ownsRow base e size v n xs):n<=maxLen:=by
 rcases h.2 with ⟨_,h0⟩ | ⟨_,cap,_,_,_,_,h3,h4,_⟩
 ·rw [h0]; exact Nat.zero_le _
 ·exact Nat.le_trans h3 h4
theorem ints_two {w:World} {b:Nat} {x y:Int} (hb:blk w b=some (.cells #[.int .i64 x,.int .i64 y] 3 (0,0))):Inz w (.slice (some ⟨b,0,none⟩) 2 2) [x,y]:=by
 refine ⟨some ⟨b,0,none⟩,2,rfl,Nat.le_refl _,by unfold maxLen; decide,(fun e=>by cases e),fun _=>⟨b,0,rfl,blk_lt hb,fun i r hi j u hu=>?_⟩⟩
 match i,hi with
 | 0,hi=>cases hi; match j,hu with
  | 0,hu=>cases hu; exact cellq hb 0 rfl
 | 1,hi=>cases hi; match j,hu with
  | 0,hu=>cases hu; exact cellq hb 1 rfl
theorem ex7_ok1:∀ t ∈ [(⟨0,1⟩:TermV),⟨2,1⟩],TermOk t:=fun t ht=>by
 simp at ht
 rcases ht with rfl | rfl <;> exact ⟨by unfold InR; decide,by unfold InR; decide⟩
theorem ex7_ok2:∀ t ∈ [(⟨1,-1⟩:TermV),⟨2,-1⟩],TermOk t:=fun t ht=>by
 simp at ht
 rcases ht with rfl | rfl <;> exact ⟨by unfold InR; decide,by unfold InR; decide⟩
def RowTwo (w:World) (kind bound:Int) (ts:List TermV) (r:Ending) (w':World):Prop:=∃ ta tc,r=.returned (.tuple #[.agg #[.string ⟨#[99,117,116]⟩,.int .i64 0,.int .i64 kind,.slice ta 2 tc,.int .i64 bound],.int .i64 0])/\Tms w' (.slice ta 2 tc) ts/\XF w w'
theorem awake7_any (w:World):Calls Tryz.prog 9 #[] w (BoolPost w true):=by
 have HEx:=bH (fun W=>example7_any W)
 have HF1:=bH (fun W=>Rfrac_any W 1 2 ⟨by decide,by decide⟩ ⟨by decide,by decide⟩ (by decide))
 have HF2:=bH (fun W=>Rfrac_any W 2 5 ⟨by decide,by decide⟩ ⟨by decide,by decide⟩ (by decide))
 have HF3:=bH (fun W=>Rfrac_any W (-1) 4 ⟨by decide,by decide⟩ ⟨by decide,by decide⟩ (by decide))
 have HFr:=bH (fun W=>Rrfrom_any W 1 (by decide) (by decide))
 go_enter Tryz.func9,Tryz.ntmps9
 go_wp2_with fail
 refine (HEx.out w).mono ?_
 rintro q0 w1 ⟨v0,rfl,hp1,hx1⟩
 obtain ⟨vo,vc,ro,rc,rfl⟩:∃ vo vc ro rc,v0=.agg #[.slice vo 3 vc,.slice ro 1 rc]:=by
  obtain ⟨vv,rv,rfl,h,h2⟩:=hp1
  obtain ⟨_,_,rfl,_⟩:=h.shape
  obtain ⟨_,_,rfl,_⟩:=h2.shape
  exact ⟨_,_,_,_,rfl⟩
 have hxa:=(Ext.refl (fun _=>False) w1).alloc (.cells #[.slice vo 3 vc,.slice ro 1 rc] 25)
 have HP:=bH (bI (hp1.keep hxa) (bI (blk_alloc_at w1 (.cells #[.slice vo 3 vc,.slice ro 1 rc] 25)) (hx1.trans hxa)))
 clear hp1 hx1 hxa HEx
 go_upto_region 2 with fail
 generalize w1.alloc (.cells #[.slice vo 3 vc,.slice ro 1 rc] 25)=w2 at *
 generalize w1.heap.size=pb at *
 go_wp2_with fail
 refine (HF1.out w2).mono ?_
 rintro q1 w3 ⟨v1,rfl,h1,hx1⟩
 obtain ⟨n1,a1,l1,c1,d1,m1,e1,rfl⟩:=h1.shape
 have hxa:=(Ext.refl (fun _=>False) w3).alloc (.cells #[.bool n1,.slice a1 l1 c1,.slice d1 m1 e1] 64)
 have HQ1:=bH (bI (blk_alloc_at w3 (.cells #[.bool n1,.slice a1 l1 c1,.slice d1 m1 e1] 64)) (h1.keep hxa))
 replace HP:=bH (bI (HP.out.1.keep (hx1.trans hxa)) (bI (blk_keep HP.out.2.1 (hx1.trans hxa)) (HP.out.2.2.trans (hx1.trans hxa))))
 clear h1 hx1 hxa HF1
 go_upto_region 3 with fail
 generalize w3.alloc (.cells #[.bool n1,.slice a1 l1 c1,.slice d1 m1 e1] 64)=w4 at *
 generalize w3.heap.size=hb at *
 go_wp2_with fail
 refine (HF2.out w4).mono ?_
 rintro q2 w5 ⟨v2,rfl,h2,hx2⟩
 obtain ⟨n2,a2,l2,c2,d2,m2,e2,rfl⟩:=h2.shape
 have hxa:=(Ext.refl (fun _=>False) w5).alloc (.cells #[.bool n2,.slice a2 l2 c2,.slice d2 m2 e2] 64)
 have HQ2:=bH (bI (blk_alloc_at w5 (.cells #[.bool n2,.slice a2 l2 c2,.slice d2 m2 e2] 64)) (h2.keep hxa))
 replace HP:=bH (bI (HP.out.1.keep (hx2.trans hxa)) (bI (blk_keep HP.out.2.1 (hx2.trans hxa)) (HP.out.2.2.trans (hx2.trans hxa))))
 replace HQ1:=bH (bI (blk_keep HQ1.out.1 (hx2.trans hxa)) (HQ1.out.2.keep (hx2.trans hxa)))
 clear h2 hx2 hxa HF2
 go_upto_region 4 with fail
 generalize w5.alloc (.cells #[.bool n2,.slice a2 l2 c2,.slice d2 m2 e2] 64)=w6 at *
 generalize w5.heap.size=fb at *
 go_wp2_with fail
 refine (HF3.out w6).mono ?_
 rintro q3 w7 ⟨v3,rfl,h3,hx3⟩
 obtain ⟨n3,a3,l3,c3,d3,m3,e3,rfl⟩:=h3.shape
 have hxa:=(Ext.refl (fun _=>False) w7).alloc (.cells #[.bool n3,.slice a3 l3 c3,.slice d3 m3 e3] 64)
 have HQ3:=bH (bI (blk_alloc_at w7 (.cells #[.bool n3,.slice a3 l3 c3,.slice d3 m3 e3] 64)) (h3.keep hxa))
 replace HP:=bH (bI (HP.out.1.keep (hx3.trans hxa)) (bI (blk_keep HP.out.2.1 (hx3.trans hxa)) (HP.out.2.2.trans (hx3.trans hxa))))
 replace HQ1:=bH (bI (blk_keep HQ1.out.1 (hx3.trans hxa)) (HQ1.out.2.keep (hx3.trans hxa)))
 replace HQ2:=bH (bI (blk_keep HQ2.out.1 (hx3.trans hxa)) (HQ2.out.2.keep (hx3.trans hxa)))
 clear h3 hx3 hxa HF3
 go_upto_region 5 with fail
 generalize w7.alloc (.cells #[.bool n3,.slice a3 l3 c3,.slice d3 m3 e3] 64)=w8 at *
 generalize w7.heap.size=qb at *
 have f0:=cq (cellq HQ1.out.1 0 rfl)
 have f1:=cq (cellq HQ1.out.1 1 rfl)
 have f2:=cq (cellq HQ1.out.1 2 rfl)
 have g0:=cq (cellq HQ2.out.1 0 rfl)
 have g1:=cq (cellq HQ2.out.1 1 rfl)
 have g2:=cq (cellq HQ2.out.1 2 rfl)
 refine wp_region_held_drew (S:=(XF w8)) (by kernel_rfl) ((Ext.refl _ w8).drew) (fun hHeld=>?_)
 refine ht 1 (h:=(ht 2 (h:=?_)))
 (try go_frame)
 refine hst 0 (h:=fun K hK=>?_)
 (go_simp; go_at_call 31; (with_reducible refine (HFr.out _).mono ?_); rintro q1 w9 ⟨v9,rfl,h9,hx9⟩; have hX1:=hHeld.trans hx9; obtain ⟨n4,a4,l4,c4,d4,m4,e4,rfl⟩:=h9.shape; have H9:=bH h9)
 refine hK.out _ _ (hX1) (fun hHeld=>?_)
 clear hK K
 (try go_frame)
 refine hst 3 (h:=fun K hK=>?_)
 (go_simp; have HX9:=bH (bI (blk_alloc_at w9 (.cells #[.bool n4,.slice a4 l4 c4,.slice d4 m4 e4,.bool n1,.slice a1 l1 c1,.slice d1 m1 e1,.bool n2,.slice a2 l2 c2,.slice d2 m2 e2] 64)) (H9.out.keep ((Ext.refl (fun _=>False) w9).alloc (.cells #[.bool n4,.slice a4 l4 c4,.slice d4 m4 e4,.bool n1,.slice a1 l1 c1,.slice d1 m1 e1,.bool n2,.slice a2 l2 c2,.slice d2 m2 e2] 64)))); have hX2:=hX1.alloc (.cells #[.bool n4,.slice a4 l4 c4,.slice d4 m4 e4,.bool n1,.slice a1 l1 c1,.slice d1 m1 e1,.bool n2,.slice a2 l2 c2,.slice d2 m2 e2] 64); generalize w9.alloc (.cells #[.bool n4,.slice a4 l4 c4,.slice d4 m4 e4,.bool n1,.slice a1 l1 c1,.slice d1 m1 e1,.bool n2,.slice a2 l2 c2,.slice d2 m2 e2] 64)=w10 at *; generalize w9.heap.size=xb at *)
 refine hK.out _ _ (hX2) (fun hHeld=>?_)
 clear hK K
 (try go_frame)
 refine ht 4 (h:=?_)
 (try go_frame)
 refine wpAnyH_done (by kernel_rfl) ?_ _
 have HXr:=bH (ex7_rats (rarr3 HX9.out.1 HX9.out.2 (HQ1.out.2.keep hX2) (HQ2.out.2.keep hX2)))
 replace HP:=bH (bI (HP.out.1.keep hX2) (bI (blk_keep HP.out.2.1 hX2) (HP.out.2.2.trans hX2)))
 replace HQ3:=bH (bI (blk_keep HQ3.out.1 hX2) (HQ3.out.2.keep hX2))
 clear f0 f1 f2 g0 g1 g2 hX1 hX2 hHeld HX9 H9 HFr HQ1 HQ2 h9 hx9
 have HCv:=bH (show Calls Tryz.prog 20 #[.agg #[.slice vo 3 vc,.slice ro 1 rc],.int .i64 0,.slice (some ⟨xb,0,none⟩) 3 3] w10 (fun r w'=>∃ so sc,r=.returned (.tuple #[.agg #[.int .i64 1,.slice none 0 0,.int .i64 0,.slice so 2 sc],.bool true])/\Inz w' (.slice so 2 sc) [0,2]/\XF w10 w') from
  (Cover_any w10 _ _ ex7 0 ex7X 10 HP.out.1 HXr.out (by decide) (by decide) (by decide) ex7_terms).mono (by
   rintro r w' ⟨sv,c,ok,rfl,hs,-,hc,hx⟩
   obtain ⟨rfl,rfl⟩:c=ex7C/\ok=true:=by
    rcases hc with ⟨-,hc⟩ | ⟨hc,-⟩
    ·exact hc.uniq ex7_cov
    ·exact absurd ⟨by decide,by decide,ex7_valid⟩ hc
   have hz:=IRow.inz hs
   obtain ⟨so,sc,rfl,-⟩:=hz.shape
   exact ⟨so,sc,rfl,hz,hx⟩))
 have p0:=cellq HP.out.2.1 0 rfl
 have p1:=cellq HP.out.2.1 1 rfl
 go_upto_region 7 with (go_at_call 20; (with_reducible refine HCv.out.mono ?_); rintro q6 w11 ⟨so,sc,rfl,h6,hx6⟩)
 have hxa:=(Ext.refl (fun _=>False) w11).alloc (.cells #[.int .i64 1,.slice none 0 0,.int .i64 0,.slice so 2 sc] 29)
 have HC:=bH (bI (blk_alloc_at w11 (.cells #[.int .i64 1,.slice none 0 0,.int .i64 0,.slice so 2 sc] 29)) (h6.keep hxa))
 replace HP:=bH (bI (HP.out.1.keep (hx6.trans hxa)) (bI (blk_keep HP.out.2.1 (hx6.trans hxa)) (HP.out.2.2.trans (hx6.trans hxa))))
 replace HXr:=bH (HXr.out.keep (hx6.trans hxa))
 replace HQ3:=bH (bI (blk_keep HQ3.out.1 (hx6.trans hxa)) (HQ3.out.2.keep (hx6.trans hxa)))
 clear p0 p1 h6 hx6 hxa HCv
 generalize w11.alloc (.cells #[.int .i64 1,.slice none 0 0,.int .i64 0,.slice so 2 sc] 29)=w12 at *
 generalize w11.heap.size=cb at *
 have HD1:=bH (show Calls Tryz.prog 12 #[.agg #[.slice vo 3 vc,.slice ro 1 rc],.agg #[.int .i64 1,.slice none 0 0,.int .i64 0,.slice so 2 sc]] w12 (RowTwo w12 0 1 [⟨0,1⟩,⟨2,1⟩]) from
  (Derive_any w12 _ _ ex7 ex7C HP.out.1 ⟨_,_,rfl,Rats.nil w12 10,HC.out.2⟩ (ex7_small (by decide))).mono (by
   rintro r w' ⟨tv,rfl,ht,hx,-⟩
   rw [ex7_der] at ht ⊢
   obtain ⟨ta,tc,rfl,-⟩:=Tms.shape ht
   exact ⟨ta,tc,rfl,ht,hx⟩))
 have p0:=cellq HP.out.2.1 0 rfl
 have p1:=cellq HP.out.2.1 1 rfl
 have c0:=cellq HC.out.1 0 rfl
 have c1:=cellq HC.out.1 1 rfl
 have c2:=cellq HC.out.1 2 rfl
 have c3:=cellq HC.out.1 3 rfl
 go_upto_region 8 with (go_at_call 12; (with_reducible refine HD1.out.mono ?_); rintro q7 w13 ⟨ta,tc,rfl,h7,hx7⟩)
 have hxa:=(Ext.refl (fun _=>False) w13).alloc (.cells #[.string ⟨#[99,117,116]⟩,.int .i64 0,.int .i64 0,.slice ta 2 tc,.int .i64 1] 35)
 have HR1:=bH (bI (blk_alloc_at w13 (.cells #[.string ⟨#[99,117,116]⟩,.int .i64 0,.int .i64 0,.slice ta 2 tc,.int .i64 1] 35)) (h7.keep hxa))
 replace HP:=bH (bI (HP.out.1.keep (hx7.trans hxa)) (bI (blk_keep HP.out.2.1 (hx7.trans hxa)) (HP.out.2.2.trans (hx7.trans hxa))))
 replace HXr:=bH (HXr.out.keep (hx7.trans hxa))
 replace HQ3:=bH (bI (blk_keep HQ3.out.1 (hx7.trans hxa)) (HQ3.out.2.keep (hx7.trans hxa)))
 replace HC:=bH (bI (blk_keep HC.out.1 (hx7.trans hxa)) (HC.out.2.keep (hx7.trans hxa)))
 clear p0 p1 c0 c1 c2 c3 h7 hx7 hxa HD1
 generalize w13.alloc (.cells #[.string ⟨#[99,117,116]⟩,.int .i64 0,.int .i64 0,.slice ta 2 tc,.int .i64 1] 35)=w14 at *
 generalize w13.heap.size=rb at *
 have hx15:=(Ext.refl (fun _=>False) w14).alloc (.cells #[.bool n3,.slice a3 l3 c3,.slice d3 m3 e3] 64)
 have HM:=bH (ex7_mul (rarr1 (blk_alloc_at w14 (.cells #[.bool n3,.slice a3 l3 c3,.slice d3 m3 e3] 64)) (HQ3.out.2.keep hx15)))
 have p0:=cellq HP.out.2.1 0 rfl
 have p1:=cellq HP.out.2.1 1 rfl
 have f0:=cellq HQ3.out.1 0 rfl
 have f1:=cellq HQ3.out.1 1 rfl
 have f2:=cellq HQ3.out.1 2 rfl
 have HD2:=bH (show Calls Tryz.prog 12 #[.agg #[.slice vo 3 vc,.slice ro 1 rc],.agg #[.int .i64 0,.slice (some ⟨w14.heap.size,0,none⟩) 1 1,.int .i64 0,.slice none 0 0]] (w14.alloc (.cells #[.bool n3,.slice a3 l3 c3,.slice d3 m3 e3] 64)) (RowTwo (w14.alloc (.cells #[.bool n3,.slice a3 l3 c3,.slice d3 m3 e3] 64)) 1 (-1) [⟨1,-1⟩,⟨2,-1⟩]) from
  (Derive_any _ _ _ ex7 ex7D (HP.out.1.keep hx15) ⟨_,_,rfl,HM.out,IRow.inz (IRow.nil _ 0)⟩ (ex7_small (by decide))).mono (by
   rintro r w' ⟨tv,rfl,ht,hx,-⟩
   rw [ex7_der2] at ht ⊢
   obtain ⟨ta,tc,rfl,-⟩:=Tms.shape ht
   exact ⟨ta,tc,rfl,ht,hx⟩))
 go_upto_region 9 with (go_at_call 12; (with_reducible refine HD2.out.mono ?_); rintro q8 w16 ⟨tb,td,rfl,h8,hx8⟩)
 have hxa:=(Ext.refl (fun _=>False) w16).alloc (.cells #[.string ⟨#[99,117,116]⟩,.int .i64 0,.int .i64 1,.slice tb 2 td,.int .i64 (-1)] 35)
 have HR2:=bH (bI (blk_alloc_at w16 (.cells #[.string ⟨#[99,117,116]⟩,.int .i64 0,.int .i64 1,.slice tb 2 td,.int .i64 (-1)] 35)) (h8.keep hxa))
 replace HP:=bH (bI (HP.out.1.keep ((hx15.trans hx8).trans hxa)) (bI (blk_keep HP.out.2.1 ((hx15.trans hx8).trans hxa)) (HP.out.2.2.trans ((hx15.trans hx8).trans hxa))))
 replace HXr:=bH (HXr.out.keep ((hx15.trans hx8).trans hxa))
 replace HC:=bH (bI (blk_keep HC.out.1 ((hx15.trans hx8).trans hxa)) (HC.out.2.keep ((hx15.trans hx8).trans hxa)))
 replace HR1:=bH (bI (blk_keep HR1.out.1 ((hx15.trans hx8).trans hxa)) (HR1.out.2.keep ((hx15.trans hx8).trans hxa)))
 clear p0 p1 f0 f1 f2 h8 hx8 hxa hx15 HD2 HM HQ3
 generalize w16.alloc (.cells #[.string ⟨#[99,117,116]⟩,.int .i64 0,.int .i64 1,.slice tb 2 td,.int .i64 (-1)] 35)=w17 at *
 generalize w16.heap.size=sb at *
 have HSp:=bH (show Calls Tryz.prog 23 #[.agg #[.slice vo 3 vc,.slice ro 1 rc],.slice (some ⟨xb,0,none⟩) 3 3] w17 (fun r w'=>∃ oo n oc,r=.returned (.slice oo n oc)/\0<n/\n<=maxLen/\XF w17 w') from
  (Separate_any w17 _ _ ex7 ex7X 10 HP.out.1 HXr.out (by decide) (by decide) (by decide) (by decide) ex7_terms).mono (by
   rintro r w' ⟨ov,qs,rfl,ho,-,-,h0,hx⟩
   have hne:=h0 ex7_valid (by decide) ex7C ex7_cov ex7_brk
   have hle:=owns_le ho
   obtain ⟨oo,oc,rfl⟩:=ownsRow_shape ho
   exact ⟨oo,_,oc,rfl,List.length_pos_iff.2 hne,hle,hx⟩))
 have p0:=cellq HP.out.2.1 0 rfl
 have p1:=cellq HP.out.2.1 1 rfl
 have hmax:maxLen<=9223372036854775807:=by unfold maxLen; decide
 go_upto_region 11 with (go_at_call 23; (with_reducible refine HSp.out.mono ?_); rintro q9 w18 ⟨oo,on,oc,rfl,hn0,hnm,hx9⟩; have hn1:¬ (on:Int)=0:=by omega)
 replace HP:=bH (HP.out.2.2.trans hx9)
 replace HC:=bH (bI (blk_keep HC.out.1 hx9) (HC.out.2.keep hx9))
 replace HR1:=bH (bI (blk_keep HR1.out.1 hx9) (HR1.out.2.keep hx9))
 replace HR2:=bH (bI (blk_keep HR2.out.1 hx9) (HR2.out.2.keep hx9))
 clear p0 p1 hx9 HXr HSp hn0 hn1 hnm hmax
 have c3:=cellq HC.out.1 3 rfl
 have hxi:=(Ext.refl (fun _=>False) w18).alloc (.cells #[.int .i64 0,.int .i64 2] 3)
 have HI:=bH (Ints4_any (w18.alloc (.cells #[.int .i64 0,.int .i64 2] 3)) _ _ [0,2] [0,2] (HC.out.2.keep hxi) (ints_two (blk_alloc_at w18 (.cells #[.int .i64 0,.int .i64 2] 3))))
 rw [decide_eq_true rfl] at HI
 have HS1:=bH (fun W b (h1:Tms W (.slice ta 2 tc) [⟨0,1⟩,⟨2,1⟩]) (h2:Tms W (.slice (some ⟨b,0,none⟩) 2 2) [⟨0,1⟩,⟨2,1⟩])=>show Calls Tryz.prog 27 #[.agg #[.string ⟨#[99,117,116]⟩,.int .i64 0,.int .i64 0,.slice ta 2 tc,.int .i64 1],.agg #[.string ⟨#[99,117,116]⟩,.int .i64 0,.int .i64 0,.slice (some ⟨b,0,none⟩) 2 2,.int .i64 1]] W (BoolPost W true) from SameRow_any W ⟨⟨#[99,117,116]⟩,0,0,[⟨0,1⟩,⟨2,1⟩],1⟩ ta (some ⟨b,0,none⟩) tc 2 h1 h2)
 have HS2:=bH (fun W b (h1:Tms W (.slice tb 2 td) [⟨1,-1⟩,⟨2,-1⟩]) (h2:Tms W (.slice (some ⟨b,0,none⟩) 2 2) [⟨1,-1⟩,⟨2,-1⟩])=>show Calls Tryz.prog 27 #[.agg #[.string ⟨#[99,117,116]⟩,.int .i64 0,.int .i64 1,.slice tb 2 td,.int .i64 (-1)],.agg #[.string ⟨#[99,117,116]⟩,.int .i64 0,.int .i64 1,.slice (some ⟨b,0,none⟩) 2 2,.int .i64 (-1)]] W (BoolPost W true) from SameRow_any W ⟨⟨#[99,117,116]⟩,0,1,[⟨1,-1⟩,⟨2,-1⟩],-1⟩ tb (some ⟨b,0,none⟩) td 2 h1 h2)
 go_wp2_with (first
  | (go_at_call 32; (with_reducible refine HI.out.mono ?_); rintro q10 w19 ⟨rfl,hx10⟩; have hX10:=hxi.trans hx10; have r0:=cellq (blk_keep HR1.out.1 hX10) 0 rfl; have r1:=cellq (blk_keep HR1.out.1 hX10) 1 rfl; have r2:=cellq (blk_keep HR1.out.1 hX10) 2 rfl; have r3:=cellq (blk_keep HR1.out.1 hX10) 3 rfl; have r4:=cellq (blk_keep HR1.out.1 hX10) 4 rfl)
  | (go_at_call 27; (with_reducible refine (HS1.out _ _ (HR1.out.2.keep (hX10.trans ((Ext.refl (fun _=>False) w19).alloc (.cells #[.int .i64 0,.int .i64 1,.int .i64 2,.int .i64 1] 70)))) (tms_two (blk_alloc_at w19 (.cells #[.int .i64 0,.int .i64 1,.int .i64 2,.int .i64 1] 70)) ex7_ok1)).mono ?_); rintro q11 w20 ⟨rfl,hx11⟩; have hX11:=(hX10.trans ((Ext.refl (fun _=>False) w19).alloc (.cells #[.int .i64 0,.int .i64 1,.int .i64 2,.int .i64 1] 70))).trans hx11; have s0:=cellq (blk_keep HR2.out.1 hX11) 0 rfl; have s1:=cellq (blk_keep HR2.out.1 hX11) 1 rfl; have s2:=cellq (blk_keep HR2.out.1 hX11) 2 rfl; have s3:=cellq (blk_keep HR2.out.1 hX11) 3 rfl; have s4:=cellq (blk_keep HR2.out.1 hX11) 4 rfl)
  | (go_at_call 27; (with_reducible refine (HS2.out _ _ (HR2.out.2.keep (hX11.trans ((Ext.refl (fun _=>False) w20).alloc (.cells #[.int .i64 1,.int .i64 (-1),.int .i64 2,.int .i64 (-1)] 70)))) (tms_two (blk_alloc_at w20 (.cells #[.int .i64 1,.int .i64 (-1),.int .i64 2,.int .i64 (-1)] 70)) ex7_ok2)).mono ?_); rintro q12 w21 ⟨rfl,hx12⟩))
 go_ret
 exact ⟨rfl,HP.out.trans ((hX11.trans ((Ext.refl (fun _=>False) w20).alloc (.cells #[.int .i64 1,.int .i64 (-1),.int .i64 2,.int .i64 (-1)] 70))).trans hx12)⟩
open Go.ChangeShapes Go.WideShapes Go.ChangeAt Go.RowKit Go.Deep
set_option linter.unusedVariables false
theorem own:ownKnob Tryz.prog.godebug=none:=by kernel_rfl
theorem laidOut:laidOutB Tryz.prog=true:=by kernel_rfl
section
variable {H:Type} {enc:TypeId × Value->H} {w:World} {base:Nat} {spare:Nat->Bool} {held:Bool}
theorem struct_field {P:Program} {t:TypeId} {fs:Array Field} {fuel:Nat} {cs:List Value} {x:DataW H × List MemPlace} (ht:P.underlying t=some (.struct fs)) (h:DataW.trod enc P w base spare held fuel t cs=some x)
  (i:Nat) {f:Field} (hi:fs[i]?=some f) {ty off n:Nat} (h1:f.type=ty) (h2:f.offset=off) (h3:P.cellsOf ty=n):∃ m y,DataW.trod enc P w base spare held m ty ((cs.drop off).take n)=some y:=by
 obtain ⟨xs,m,_,_,hl,hxl,hf⟩:=DataW.trod_struct ht h
 subst h1 h2 h3
 have hlt:i<xs.length:=by rw [hxl]; exact (Array.getElem?_eq_some_iff.1 hi).1
 exact ⟨m,_,(hf i f hi).trans (List.getElem?_eq_getElem hlt)⟩
theorem struct_length {P:Program} {t:TypeId} {fs:Array Field} {fuel:Nat} {cs:List Value} {x:DataW H × List MemPlace} (ht:P.underlying t=some (.struct fs)) (h:DataW.trod enc P w base spare held fuel t cs=some x) {n:Nat} (h3:P.cellsOf t=n):cs.length=n:=by
 obtain ⟨xs,m,_,_,hl,hxl,hf⟩:=DataW.trod_struct ht h
 rw [hl,h3]
theorem list_of {α:Type} {R:List Value->α->Prop}:∀ {css:List (List Value)},(∀ c ∈ css,∃ x,R c x)->∃ l:List α,l.length=css.length/\∀ (i:Nat) c x,css[i]?=some c->l[i]?=some x->R c x
 | [],_=>⟨[],rfl,fun i c x h=>by simp at h⟩
 | c :: css,h=>by
  obtain ⟨x,hx⟩:=h c (by simp)
  obtain ⟨l,h1,h2⟩:=list_of (css:=css) (fun c hc=>h c (by simp [hc]))
  refine ⟨x :: l,by simp [h1],fun i c' x' hc hx'=>?_⟩
  cases i with
  | zero=>simp at hc hx'; subst hc hx'; exact hx
  | succ i=>simp at hc hx'; exact h2 i c' x' hc hx'
theorem map_of {α:Type} {f:α->List Value} {Q:α->Prop} {css:List (List Value)} (h:∀ c ∈ css,∃ x,c=f x/\Q x):∃ l:List α,css=l.map f/\∀ x ∈ l,Q x:=by
 obtain ⟨l,h1,h2⟩:=list_of (R:=fun c x=>c=f x/\Q x) h
 refine ⟨l,List.ext_getElem? fun i=>?_,fun x hx=>?_⟩
 ·rw [List.getElem?_map]
  by_cases hi:i<l.length
  ·rw [List.getElem?_eq_getElem hi,List.getElem?_eq_getElem (by omega:i<css.length)]
   simp only [Option.map_some]
   exact congrArg some (h2 i _ _ (List.getElem?_eq_getElem (by omega)) (List.getElem?_eq_getElem hi)).1
  ·rw [List.getElem?_eq_none (by omega),List.getElem?_eq_none (by omega)]; rfl
 ·obtain ⟨i,hi,rfl⟩:=List.getElem_of_mem hx
  exact (h2 i _ _ (List.getElem?_eq_getElem (by omega)) (List.getElem?_eq_getElem hi)).2
theorem open_sl {t e:TypeId} {m:Nat} {fuel:Nat} {cs:List Value} {x:DataW H × List MemPlace} (ht:Tryz.prog.underlying t=some (.slice e)) (hc:Tryz.prog.cellsOf e=m) (hm:0<m) {R:List Value->Prop}
  (he:∀ fuel cs x,DataW.trod enc Tryz.prog w base spare held fuel e cs=some x->R cs) (h:DataW.trod enc Tryz.prog w base spare held fuel t cs=some x) :
  ∃ v css,cs=[v]/\Sl w v m css/\∀ c ∈ css,R c:=by
 rcases open_slice ht h with ⟨hcs,_⟩ | ⟨a,l,c,k,n',D,Pl,hcs,_,hlc,hcm,hk,_,hel⟩
 ·exact ⟨_,[],hcs,Sl.nil w m,by simp⟩
 ·have hlk:l<=k:=by rw [hk]; split <;> omega
  have hel':∀ i,i<l->∃ c':List Value,c'.length=m/\R c'/\∀ j u,c'[j]?=some u->w.cell? ((a.add (i*m)).add j)=some u:=fun i hi=>by
   obtain ⟨cs',h1,h2⟩:=hel i (by omega)
   rw [hc] at h1
   obtain ⟨_,hlen,hat⟩:=World.cells?_some h1
   exact ⟨cs',hlen,he _ _ _ h2,fun j u hu=>(hat j (by have:=(List.getElem?_eq_some_iff.1 hu).1; omega)).trans hu⟩
  obtain ⟨css,h1,h2⟩:∃ css:List (List Value),css.length=l/\∀ i (h:i<css.length),css[i].length=m/\R css[i]/\∀ j u,css[i][j]?=some u->w.cell? ((a.add (i*m)).add j)=some u:=by
   refine ⟨List.ofFn fun i:Fin l=>Classical.choose (hel' i i.2),by simp,fun i hi=>?_⟩
   simp at hi
   have:=Classical.choose_spec (hel' i hi)
   simpa using this
  subst h1
  refine ⟨_,css,hcs,⟨some a,c,rfl,hlc,hcm,(fun e=>by cases e),fun hp=>?_⟩,fun c' hc'=>?_⟩
  ·obtain ⟨b,off,spot⟩:=a
   obtain ⟨e1,_,e3⟩:=h2 0 hp
   have e4:=e3 0 _ (List.getElem?_eq_getElem (by omega))
   have hspot:spot=none:=by simpa [Addr.add] using World.cell?_spot e4
   subst hspot
   refine ⟨b,off,rfl,by have:=World.block_lt_of_cell? w _ e4; simpa [Addr.add_lit] using this,fun i r hi j u hu=>?_⟩
   obtain ⟨hi',rfl⟩:=List.getElem?_eq_some_iff.1 hi
   have:=(h2 i hi').2.2 j u hu
   simpa [Addr.add_lit,Nat.add_assoc] using this
  ·obtain ⟨i,hi,rfl⟩:=List.getElem_of_mem hc'
   exact (h2 i hi).2.1
theorem cellsInt:Tryz.prog.cellsOf 3=1:=by kernel_rfl
theorem cellsI64:Tryz.prog.cellsOf 2=1:=by kernel_rfl
theorem cellsU32:Tryz.prog.cellsOf 129=1:=by kernel_rfl
theorem cellsBool:Tryz.prog.cellsOf 4=1:=by kernel_rfl
theorem cellsStr:Tryz.prog.cellsOf 9=1:=by kernel_rfl
theorem cellsNat:Tryz.prog.cellsOf 60=1:=by kernel_rfl
theorem cellsInt2:Tryz.prog.cellsOf 62=2:=by kernel_rfl
theorem cellsRat:Tryz.prog.cellsOf 64=3:=by kernel_rfl
theorem cellsTerm:Tryz.prog.cellsOf 70=2:=by kernel_rfl
theorem cellsTerms:Tryz.prog.cellsOf 33=1:=by kernel_rfl
theorem cellsVar:Tryz.prog.cellsOf 73=5:=by kernel_rfl
theorem cellsVars:Tryz.prog.cellsOf 22=1:=by kernel_rfl
theorem cellsRow:Tryz.prog.cellsOf 35=5:=by kernel_rfl
theorem cellsRows:Tryz.prog.cellsOf 23=1:=by kernel_rfl
theorem cellsProgram:Tryz.prog.cellsOf 25=2:=by kernel_rfl
theorem open_digit {fuel:Nat} {cs:List Value} {x:DataW H × List MemPlace} (h:DataW.trod enc Tryz.prog w base spare held fuel 129 cs=some x):∃ d:Nat,cs=[dv d]/\d<4294967296:=by
 obtain ⟨a0,h0,_,b0⟩:=DataW.trod_int Tryz.underlying129 h
 simp [Lit.wf,IntKind.min,IntKind.max,IntKind.signed,IntKind.bits] at b0
 refine ⟨a0.toNat,?_,by omega⟩
 rw [h0]
 show [Value.int .u32 a0]=[Value.int .u32 (a0.toNat:Int)]
 rw [Int.toNat_of_nonneg (by omega)]
theorem open_nat {fuel:Nat} {cs:List Value} {x:DataW H × List MemPlace} (h:DataW.trod enc Tryz.prog w base spare held fuel 60 cs=some x):∃ v l,cs=[v]/\Rds w v l:=by
 obtain ⟨v,css,rfl,hs,hc⟩:=open_sl Tryz.underlying60 cellsU32 (by decide) (fun _ _ _ h=>open_digit h) h
 obtain ⟨l,rfl,hl⟩:=map_of (f:=fun d=>[dv d]) (Q:=fun d=>d<4294967296) hc
 obtain ⟨ao,c,rfl,h1,h2,h3,h4⟩:=hs
 rw [List.length_map] at h1 h4 ⊢
 refine ⟨_,l,rfl,hl,ao,c,rfl,h1,h2,h3,fun hp=>?_⟩
 obtain ⟨b,off,e,hb,hcell⟩:=h4 hp
 refine ⟨b,off,e,hb,fun i d hi=>?_⟩
 have:=hcell i [dv d] (by rw [List.getElem?_map,hi]; rfl) 0 (dv d) rfl
 simpa using this
theorem open_rat {fuel:Nat} {cs:List Value} {x:DataW H × List MemPlace} (h:DataW.trod enc Tryz.prog w base spare held fuel 64 cs=some x):∃ r:RatV,IsRaw w (.agg cs.toArray) r:=by
 have hl:=struct_length Tryz.underlying64 h cellsRat
 obtain ⟨_,_,f0⟩:=struct_field Tryz.underlying64 h 0 rfl rfl rfl cellsInt2
 obtain ⟨_,_,f1⟩:=struct_field Tryz.underlying64 h 1 rfl rfl rfl cellsNat
 obtain ⟨_,_,g0⟩:=struct_field Tryz.underlying62 f0 0 rfl rfl rfl cellsBool
 obtain ⟨_,_,g1⟩:=struct_field Tryz.underlying62 f0 1 rfl rfl rfl cellsNat
 clear h f0
 obtain ⟨ng,hn,_⟩:=DataW.trod_bool Tryz.underlying4 g0
 obtain ⟨v1,l1,e1,k1⟩:=open_nat g1
 obtain ⟨v2,l2,e2,k2⟩:=open_nat f1
 clear g0 g1 f1
 match cs,hl with
 | [c0,c1,c2],_ =>
  simp at hn e1 e2
  subst hn e1 e2
  exact ⟨⟨ng,l1,l2⟩,_,_,rfl,k1,k2⟩
theorem open_rats {fuel:Nat} {cs:List Value} {x:DataW H × List MemPlace} (h:DataW.trod enc Tryz.prog w base spare held fuel 26 cs=some x):∃ v rs,cs=[v]/\Raws w v rs:=by
 obtain ⟨v,css,rfl,hs,hc⟩:=open_sl Tryz.underlying26 cellsRat (by decide) (fun _ _ _ h=>open_rat h) h
 obtain ⟨l,h1,h2⟩:=list_of (R:=fun c r=>IsRaw w (.agg c.toArray) r) hc
 exact ⟨v,l,rfl,css,h1.symm,hs,h2⟩
theorem inR_of {k:IntKind} {a:Int} (hk:k=.i64) (h:(Lit.int k a).wf=true):InR a:=by
 subst hk
 simp [Lit.wf,IntKind.min,IntKind.max,IntKind.signed,IntKind.bits] at h
 unfold InR
 omega
theorem open_var {fuel:Nat} {cs:List Value} {x:DataW H × List MemPlace} (h:DataW.trod enc Tryz.prog w base spare held fuel 73 cs=some x):∃ v:VarV,cs=cV v/\VarOk v:=by
 have hl:=struct_length Tryz.underlying73 h cellsVar
 obtain ⟨_,_,f0⟩:=struct_field Tryz.underlying73 h 0 rfl rfl rfl cellsI64
 obtain ⟨_,_,f1⟩:=struct_field Tryz.underlying73 h 1 rfl rfl rfl cellsI64
 obtain ⟨_,_,f2⟩:=struct_field Tryz.underlying73 h 2 rfl rfl rfl cellsBool
 obtain ⟨_,_,f3⟩:=struct_field Tryz.underlying73 h 3 rfl rfl rfl cellsBool
 obtain ⟨_,_,f4⟩:=struct_field Tryz.underlying73 h 4 rfl rfl rfl cellsI64
 clear h
 obtain ⟨a0,h0,_,b0⟩:=DataW.trod_int Tryz.underlying2 f0
 obtain ⟨a1,h1,_,b1⟩:=DataW.trod_int Tryz.underlying2 f1
 obtain ⟨a2,h2,_⟩:=DataW.trod_bool Tryz.underlying4 f2
 obtain ⟨a3,h3,_⟩:=DataW.trod_bool Tryz.underlying4 f3
 obtain ⟨a4,h4,_,b4⟩:=DataW.trod_int Tryz.underlying2 f4
 clear f0 f1 f2 f3 f4
 match cs,hl with
 | [c0,c1,c2,c3,c4],_ =>
  simp at h0 h1 h2 h3 h4
  exact ⟨⟨a0,a1,a2,a3,a4⟩,by rw [h0,h1,h2,h3,h4]; rfl,inR_of rfl b0,inR_of rfl b1,inR_of rfl b4⟩
theorem open_term {fuel:Nat} {cs:List Value} {x:DataW H × List MemPlace} (h:DataW.trod enc Tryz.prog w base spare held fuel 70 cs=some x):∃ t:TermV,cs=cT t/\TermOk t:=by
 have hl:=struct_length Tryz.underlying70 h cellsTerm
 obtain ⟨_,_,f0⟩:=struct_field Tryz.underlying70 h 0 rfl rfl rfl cellsInt
 obtain ⟨_,_,f1⟩:=struct_field Tryz.underlying70 h 1 rfl rfl rfl cellsI64
 clear h
 obtain ⟨a0,h0,_,b0⟩:=DataW.trod_int Tryz.underlying3 f0
 obtain ⟨a1,h1,_,b1⟩:=DataW.trod_int Tryz.underlying2 f1
 clear f0 f1
 match cs,hl with
 | [c0,c1],_ =>
  simp at h0 h1
  exact ⟨⟨a0,a1⟩,by rw [h0,h1]; rfl,inR_of rfl b0,inR_of rfl b1⟩
theorem open_terms {fuel:Nat} {cs:List Value} {x:DataW H × List MemPlace} (h:DataW.trod enc Tryz.prog w base spare held fuel 33 cs=some x):∃ v l,cs=[v]/\Tms w v l:=by
 obtain ⟨v,css,rfl,hs,hc⟩:=open_sl Tryz.underlying33 cellsTerm (by decide) (fun _ _ _ h=>open_term h) h
 obtain ⟨l,rfl,hl⟩:=map_of hc
 exact ⟨v,l,rfl,hs,hl⟩
theorem open_row {fuel:Nat} {cs:List Value} {x:DataW H × List MemPlace} (h:DataW.trod enc Tryz.prog w base spare held fuel 35 cs=some x):∃ y:RowV × Value,cs=cR y.1 y.2/\Tms w y.2 y.1.terms/\RowOk y.1:=by
 have hl:=struct_length Tryz.underlying35 h cellsRow
 obtain ⟨_,_,f0⟩:=struct_field Tryz.underlying35 h 0 rfl rfl rfl cellsStr
 obtain ⟨_,_,f1⟩:=struct_field Tryz.underlying35 h 1 rfl rfl rfl cellsInt
 obtain ⟨_,_,f2⟩:=struct_field Tryz.underlying35 h 2 rfl rfl rfl cellsInt
 obtain ⟨_,_,f3⟩:=struct_field Tryz.underlying35 h 3 rfl rfl rfl cellsTerms
 obtain ⟨_,_,f4⟩:=struct_field Tryz.underlying35 h 4 rfl rfl rfl cellsI64
 clear h
 obtain ⟨a0,h0,_,b0⟩:=DataW.trod_string Tryz.underlying9 f0
 obtain ⟨a1,h1,_,b1⟩:=DataW.trod_int Tryz.underlying3 f1
 obtain ⟨a2,h2,_,b2⟩:=DataW.trod_int Tryz.underlying3 f2
 obtain ⟨v3,l3,h3,b3⟩:=open_terms f3
 obtain ⟨a4,h4,_,b4⟩:=DataW.trod_int Tryz.underlying2 f4
 clear f0 f1 f2 f3 f4
 match cs,hl with
 | [c0,c1,c2,c3,c4],_ =>
  simp at h0 h1 h2 h3 h4
  exact ⟨⟨⟨a0,a1,a2,l3,a4⟩,v3⟩,by rw [h0,h1,h2,h3,h4]; rfl,b3,b0,inR_of rfl b1,inR_of rfl b2,inR_of rfl b4⟩
theorem open_prog {fuel:Nat} {cs:List Value} {x:DataW H × List MemPlace} (h:DataW.trod enc Tryz.prog w base spare held fuel 25 cs=some x):∃ p:ProgV,IsPrg w (.agg cs.toArray) p:=by
 have hl:=struct_length Tryz.underlying25 h cellsProgram
 obtain ⟨_,_,f0⟩:=struct_field Tryz.underlying25 h 0 rfl rfl rfl cellsVars
 obtain ⟨_,_,f1⟩:=struct_field Tryz.underlying25 h 1 rfl rfl rfl cellsRows
 clear h
 obtain ⟨v0,c0,e0,s0,k0⟩:=open_sl Tryz.underlying22 cellsVar (by decide) (fun _ _ _ h=>open_var h) f0
 obtain ⟨v1,c1,e1,s1,k1⟩:=open_sl Tryz.underlying23 cellsRow (by decide) (fun _ _ _ h=>open_row h) f1
 clear f0 f1
 obtain ⟨l0,rfl,g0⟩:=map_of k0
 obtain ⟨l1,n1,g1⟩:=list_of (R:=fun c (y:RowV × Value)=>c=cR y.1 y.2/\Tms w y.2 y.1.terms/\RowOk y.1) k1
 have hz:c1=List.zipWith cR (l1.map (·.1)) (l1.map (·.2)):=by
  apply List.ext_getElem?
  intro i
  rw [List.getElem?_zipWith,List.getElem?_map,List.getElem?_map]
  by_cases hi:i<l1.length
  ·rw [List.getElem?_eq_getElem hi,List.getElem?_eq_getElem (by omega:i<c1.length)]
   simp only [Option.map_some]
   exact congrArg some (g1 i _ _ (List.getElem?_eq_getElem (by omega)) (List.getElem?_eq_getElem hi)).1
  ·rw [List.getElem?_eq_none (by omega),List.getElem?_eq_none (by omega)]; rfl
 rw [hz] at s1
 match cs,hl with
 | [d0,d1],_ =>
  simp at e0 e1
  subst e0 e1
  refine ⟨⟨l0,l1.map (·.1)⟩,_,_,rfl,⟨s0,g0⟩,l1.map (·.2),by simp,s1,fun i r tv hr ht=>?_⟩
  rw [List.getElem?_map] at hr ht
  obtain ⟨y,hy,rfl⟩:=Option.map_eq_some_iff.1 hr
  rw [hy] at ht
  cases ht
  have hi:=(List.getElem?_eq_some_iff.1 hy).1
  exact (g1 i _ _ (List.getElem?_eq_getElem (by omega)) hy).2
end
open Go.Joins in
theorem open_prog_value {H:Type} {enc:TypeId × Value->H} {w:World} {base:Nat} {spare:Nat->Bool} {held:Bool} {r:Reach} {b0:Nat} {v:Value} {d:DataW H} {p:List MemPlace} (hv:Value.okWide Tryz.prog w r b0 25 v) (h:DataW.Trod enc Tryz.prog w base spare held 25 v d p) :
  ∃ y:ProgV,IsPrg w v y:=by
 obtain ⟨cs,rfl,hsz⟩:=okWide_struct Tryz.underlying25 hv
 obtain ⟨fuel,hf⟩:=h
 obtain ⟨y,hy⟩:=open_prog hf
 refine ⟨y,?_⟩
 simpa [Value.cells] using hy
theorem open_rats_value {H:Type} {enc:TypeId × Value->H} {w:World} {base:Nat} {spare:Nat->Bool} {held:Bool} {r:Reach} {b0:Nat} {v:Value} {d:DataW H} {p:List MemPlace} (hv:Value.okWide Tryz.prog w r b0 26 v) (h:DataW.Trod enc Tryz.prog w base spare held 26 v d p) :
  ∃ rs:List RatV,Raws w v rs:=by
 obtain ⟨a0,len0,cap0,rfl⟩:=okWide_slice Tryz.underlying26 hv
 obtain ⟨fuel,hf⟩:=h
 obtain ⟨v,rs,e,hr⟩:=open_rats hf
 simp [Value.cells] at e
 subst e
 exact ⟨rs,hr⟩
theorem few_parts7 {p:ProgV} (h:fewP p 6 8=true):(∀ i,i<p.rows.length->(p.r i).terms.length<=12)/\p.vars.length<=6/\p.rows.length<=8:=by
 unfold fewP at h
 simp only [Bool.and_eq_true,decide_eq_true_eq] at h
 refine ⟨fun i hi=>?_,h.1.2,h.2⟩
 have h1:=List.all_eq_true.1 h.1.1 (p.r i) (by unfold ProgV.r; rw [getD_lt hi]; exact List.getElem_mem _)
 unfold fewRow at h1
 simp only [Bool.and_eq_true,decide_eq_true_eq] at h1
 exact h1.1
def DrvAs (w:World) (nm:ByteArray) (gr kr:Int) (ts:List TermV) (tn:Nat) (br er:Int) (r:Ending) (w':World):Prop:=∃ ta tc,r=.returned (.tuple #[.agg #[.string nm,.int .i64 gr,.int .i64 kr,.slice ta tn tc,.int .i64 br],.int .i64 er])/\Tms w' (.slice ta tn tc) ts/\XF w w'
theorem DrvPost.as {w:World} {re:RowV × Int} {r:Ending} {w':World} {nm:ByteArray} {gr kr:Int} {ts:List TermV} {tn:Nat} {br er:Int} (h:DrvPost w re r w') (e:re=(⟨nm,gr,kr,ts,br⟩,er)) (hn:ts.length=tn):DrvAs w nm gr kr ts tn br er r w':=by
 subst e hn
 obtain ⟨tv,rfl,h1,h2,-⟩:=h
 obtain ⟨ta,tc,rfl,-⟩:=Tms.shape h1
 exact ⟨ta,tc,rfl,h1,h2⟩
end Go.Proofs.YtjaldknfeojjkaaGreat
