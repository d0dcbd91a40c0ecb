/-
  Texts of the proof, part 8. Conditions: each lemma names its own.
-/
import Derived.Test.YtjaldknfeojjkaaGreatW4
import Derived.Test.YtjaldknfeojjkaaGreatW5
import Derived.Test.YtjaldknfeojjkaaGreatW6
import Derived.Test.YtjaldknfeojjkaaGreatW7
import Derived.Shelf.Small.Bits
import Derived.Shelf.Strconv.Itoa0
import Derived.Shelf.Sort.Plain
import Derived.Shelf.GgClosure.StringsIndexFunc
import Derived.Ground.GgwProg
import Derived.Shelf.GgClosure.StringsIndexFuncTop
import Derived.Shelf.Strings.FuncGrows
import Derived.Shelf.Slices.Turned
import Derived.Ground.Names2Prog
import Derived.Shelf.Slices.Clone
import Derived.Shelf.Slices.SearchI
import Derived.Shelf.Slices.Delete
import Derived.Shelf.Slices.Cells
import Derived.Shelf.Slices.In.SortNone
import Derived.Shelf.Slices.Empties
import Derived.Ground.SlgnProg
import Derived.Shelf.SlicesG.CompactI
import Derived.Shelf.SlicesG.SearchI
import Derived.Shelf.SlicesG.Cells
import Derived.Ground.SlgfProg
import Derived.Shelf.SlicesE.IndexFunc
import Derived.Ground.SlgcProg
import Derived.Shelf.SlicesG.Cmp
import Derived.Ground.SlgmProg
import Derived.Shelf.SortM.Plain
import Derived.Shelf.SortM.SortNone
import Derived.Test.YtjaldknfeojjkaaGreatProg
import Derived.Maps.RangeWalk
set_option linter.unusedVariables false
set_option linter.unusedSimpArgs false
set_option maxRecDepth 100000
set_option maxHeartbeats 16000000
namespace Go.Proofs.YtjaldknfeojjkaaGreat
open Go.RowKit Go.MapKept
open Go.ChangeMaps (setBlock)
def DrvPost (w:World) (re:RowV × Int) (r:Ending) (w':World):Prop:=∃ tv,r=.returned (.tuple #[.agg #[.string re.1.name,.int .i64 re.1.group,.int .i64 re.1.kind,tv,.int .i64 re.1.bound],.int .i64 re.2])/\Tms w' tv re.1.terms/\XF w w'/\∀ g,tv.ownBlock=some g->w.heap.size<=g
theorem sign_eq0 (q:Rat):decide (q.num.sign=0)=decide (q=0):=by
 rw [decide_eq_decide,Int.sign_eq_zero_iff_zero];exact Rat.num_eq_zero
theorem row_put {w:World} {b:Nat} {a0 a1 a2 a3 a4:Value} (h:blk w b=some (.cells #[a0,a1,a2,a3,a4] 35 (0,0))) (x0 x1 x2 x3 x4:Value) :
  blk (((((w.setCell ⟨b,0,none⟩ x0).setCell ⟨b,1,none⟩ x1).setCell ⟨b,2,none⟩ x2).setCell ⟨b,3,none⟩ x3).setCell ⟨b,4,none⟩ x4) b=some (.cells #[x0,x1,x2,x3,x4] 35 (0,0)) /\
  Ext (fun k=>k=b) w (((((w.setCell ⟨b,0,none⟩ x0).setCell ⟨b,1,none⟩ x1).setCell ⟨b,2,none⟩ x2).setCell ⟨b,3,none⟩ x3).setCell ⟨b,4,none⟩ x4):=by
 have hx:=(((((Ext.refl (fun k=>k=b) w).setCell (p:=⟨b,0,none⟩) x0 (fun _=>rfl)).setCell (p:=⟨b,1,none⟩) x1 (fun _=>rfl)).setCell (p:=⟨b,2,none⟩) x2 (fun _=>rfl)).setCell (p:=⟨b,3,none⟩) x3 (fun _=>rfl)).setCell (p:=⟨b,4,none⟩) x4 (fun _=>rfl);have h5:=blk_setCell_same (blk_setCell_same (blk_setCell_same (blk_setCell_same (blk_setCell_same h 0 x0) 1 x1) 2 x2) 3 x3) 4 x4;exact ⟨(by simpa using h5),hx⟩
theorem none_next {p:ProgV} {y:List Rat} {i:Nat} (h:noneT p y i=true) (hk:(!(p.v i).ig && decide (0<combA p y i))=false):noneT p y (i+1)=true:=allTo_next h (by
 cases hg:(p.v i).ig with
 | true=>rfl
 | false =>
  rw [hg] at hk;have h2:¬ 0<combA p y i:=of_decide_eq_false hk;rw [Bool.false_or];exact decide_eq_true (Rat.not_lt.1 h2))
theorem termsTo_len (f:Nat->Int) (n:Nat):(termsTo n f).length<=n:=by
 unfold termsTo;exact Nat.le_trans (List.length_filterMap_le _ _) (by simp)
theorem toR_InR (z:Int):InR (toR z):=by
 unfold toR;split
 ·rename_i h;unfold inRB at h;simp only [Bool.and_eq_true,decide_eq_true_eq] at h;exact h
 ·exact ⟨by decide,by decide⟩
theorem termsR_in {p:ProgV} {y:List Rat} {n:Nat} (hn:n<=1000):∀ t ∈ termsR p y n,TermOk t:=fun t ht=>by
 obtain ⟨j,hj,rfl,-⟩:=termsTo_mem t ht;exact ⟨⟨by show (-9223372036854775808:Int)<=(j:Int); omega,by show (j:Int)<=9223372036854775807; omega⟩,toR_InR _⟩
theorem term_src (w:World) (t:TermV):∀ j u,(cT t)[j]?=some u->(w.alloc (.cells #[.int .i64 t.var,.int .i64 t.coef] 70)).cell? ((⟨w.heap.size,0,none⟩:Addr).add j)=some u:=fun j u hu=>by
 match j,hu with
 | 0,hu=>cases hu; exact cellq (blk_alloc_at w _) 0 rfl
 | 1,hu=>cases hu; exact cellq (blk_alloc_at w _) 1 rfl
 | j+2,hu=>simp [cT] at hu
theorem row0_tms (w:World):Tms w (.slice none 0 0) row0.terms:=⟨Sl.nil w 2,fun t ht=>by cases ht⟩
theorem signed_no {p:ProgV} {y:List Rat} (h:signedB p y=false):roundP p y=(row0,13):=by
 unfold roundP; rw [h]; rfl
theorem up_no {p:ProgV} {y:List Rat} {i:Nat} (hi:i<p.vars.length) (h:(!(p.v i).ig && decide (0<combA p y i))=true):roundP p y=(row0,13):=by
 unfold roundP;have:noneUp p y=false:=allTo_false hi (by
  rw [Bool.and_eq_true,Bool.not_eq_true',decide_eq_true_eq] at h;rw [h.1,Bool.false_or];exact decide_eq_false (fun e=>absurd h.2 (Rat.not_lt.2 e)))
 rw [this,Bool.and_false]; rfl
theorem round_any (w:World) (pv yv cvs:Value) (p:ProgV) (y:List Rat) (kd crow:Int) (hp:IsPrg w pv p) (hy:Rats w yv y 10) (hcv:∃ ao n c,cvs=.slice ao n c) (hn:p.vars.length<=6) (hm:p.rows.length<=8) (hT:∀ i,i<p.rows.length->(p.r i).terms.length<=12) :
  Calls Tryz.prog 61 #[pv,.agg #[.int .i64 kd,yv,.int .i64 crow,cvs]] w (DrvPost w (roundP p y)):=by
 have HSn:=bH (fun W (hW:XF w W)=>Signed_any W pv yv p y 10 (hp.keep hW) (hy.keep hW) (by decide) (by decide));have HCb:=bH (fun W (hW:XF w W)=>Combine_any W pv yv p y 10 12 (hp.keep hW) (hy.keep hW) (by decide) hT (by omega) (by omega) (by omega));unfold CombPost at HCb;have hszA:∀ j,Sz (combA p y j) 2000:=fun j=>by
  obtain ⟨vv,rv,rfl,-,hpr⟩:=hp;exact (combA_sz hpr (fun i=>hy.sz (by decide) i) hT j).mono (by unfold sizeA; omega)
 have hszB:Sz (combB p y) 2000:=by
  obtain ⟨vv,rv,rfl,-,hpr⟩:=hp;exact (sum_size (f:=fun k=>(p.r k).bound) (g:=fun k=>atQ y k) (L:=10) (n:=p.rows.length) (fun k hk=>(hpr.ok k hk).bound) (fun k _=>hy.sz (by decide) _) _ (Nat.le_refl _)).mono (by omega)
 obtain ⟨vv,rv,rfl,hpv,hpr⟩:=hp;obtain ⟨vo,vc,rfl,-,-,-⟩:=hpv.shape;obtain ⟨ro,rc,rfl,-,-,-⟩:=hpr.shape;obtain ⟨yo,yc,rfl,-,-,-⟩:=hy.shape;obtain ⟨co,cn,cc,rfl⟩:=hcv;obtain ⟨yn,hyn⟩:∃ x,y.length=x:=⟨_,rfl⟩;rw [hyn] at HSn HCb ⊢;have HPv:=bH hpv;have hvin:∀ i,i<p.vars.length->VarOk (p.v i):=fun i hi=>by
  unfold ProgV.v; rw [getD_lt hi]; exact hpv.2 _ (List.getElem_mem _)
 have hszu:∀ j,(dg (upJ p y j).natAbs).length<=2001:=fun j=>by
  unfold upJ;split
  ·exact ceil_len (hszA j)
  ·rw [show (0:Int).natAbs=0 from rfl,dg_zero]; decide
 have hszL:∀ i,i<=p.vars.length->Sz (combB p y - lowT p y i) 100000:=fun i hi=>by
  have h:=sumTo_sz (g:=fun j=>combA p y j*((p.v j).lo:Rat)) (M:=2002) (n:=i) (fun j hj=>((hszA j).mul (Sz.int (hvin j (by omega)).lo)).mono (by omega));exact (hszB.sub h).mono (by have:=Nat.mul_le_mul_right (2003) (show i<=6 by omega); omega)
 have hszU:∀ i,i<=p.vars.length->Sz (upT' p y i) 100000:=fun i hi=>by
  have h:=sumTo_sz (g:=fun j=>(upJ p y j:Rat)*((p.v j).lo:Rat)) (M:=2003) (n:=i) (fun j hj=>((Sz.cast (hszu j) (by decide)).mul (Sz.int (hvin j (by omega)).lo)).mono (by omega));exact h.mono (by have:=Nat.mul_le_mul_right (2004) (show i<=6 by omega); omega)
 have HZa:=bH hszA;have HZb:=bH (bI hszL (bI hszU hszu));have HF0:=bH (fun W=>rfrom_any W 0 (by decide) (by decide));obtain ⟨n,hn'⟩:∃ x,p.vars.length=x:=⟨_,rfl⟩;obtain ⟨m,hm'⟩:∃ x,p.rows.length=x:=⟨_,rfl⟩;have HE:=bH (bI hn' hm');have hmax:n<=6:=by omega
 rw [hn',hm'] at HSn HCb ⊢;rw [hn'] at HZb;clear hpv hpr hy hn' hm' hn hm hT hszA hszB hszL hszU hszu hvin hyn;have hxa:=(Ext.refl (fun _=>False) w).alloc (.cells #[.slice vo n vc,.slice ro m rc] 25);have hxb:=(Ext.refl (fun _=>False) (w.alloc (.cells #[.slice vo n vc,.slice ro m rc] 25))).alloc (.cells #[.int .i64 kd,.slice yo yn yc,.int .i64 crow,.slice co cn cc] 29);have hxc:=(Ext.refl (fun _=>False) ((w.alloc (.cells #[.slice vo n vc,.slice ro m rc] 25)).alloc (.cells #[.int .i64 kd,.slice yo yn yc,.int .i64 crow,.slice co cn cc] 29))).alloc (.cells zeroRow 35);have hb1:=blk_keep (blk_alloc_at w (.cells #[.slice vo n vc,.slice ro m rc] 25)) (hxb.trans hxc);have hb2:blk (((w.alloc (.cells #[.slice vo n vc,.slice ro m rc] 25)).alloc (.cells #[.int .i64 kd,.slice yo yn yc,.int .i64 crow,.slice co cn cc] 29)).alloc (.cells zeroRow 35)) (w.heap.size+1)=some (.cells #[.int .i64 kd,.slice yo yn yc,.int .i64 crow,.slice co cn cc] 29 (0,0)):=by
  have h:=blk_alloc_at (w.alloc (.cells #[.slice vo n vc,.slice ro m rc] 25)) (.cells #[.int .i64 kd,.slice yo yn yc,.int .i64 crow,.slice co cn cc] 29);rw [World.size_alloc] at h;exact blk_keep h hxc
 have hb3:blk (((w.alloc (.cells #[.slice vo n vc,.slice ro m rc] 25)).alloc (.cells #[.int .i64 kd,.slice yo yn yc,.int .i64 crow,.slice co cn cc] 29)).alloc (.cells zeroRow 35)) (w.heap.size+1+1)=some (.cells zeroRow 35 (0,0)):=by
  have h:=blk_alloc_at ((w.alloc (.cells #[.slice vo n vc,.slice ro m rc] 25)).alloc (.cells #[.int .i64 kd,.slice yo yn yc,.int .i64 crow,.slice co cn cc] 29)) (.cells zeroRow 35);rwa [World.size_alloc,World.size_alloc] at h
 have HB:=bH (bI hb1 (bI hb2 (bI hb3 (bI ((hxa.trans hxb).trans hxc) (show w.heap.size<=w.heap.size+1+1 by omega)))));clear hxa hxb hxc hb1 hb2 hb3;unfold zeroRow at HB;go_enter Tryz.func61,Tryz.ntmps61;go_upto_region 1 with fail;generalize ((w.alloc (.cells #[.slice vo n vc,.slice ro m rc] 25)).alloc (.cells #[.int .i64 kd,.slice yo yn yc,.int .i64 crow,.slice co cn cc] 29)).alloc (.cells #[.string ⟨#[]⟩,.int .i64 0,.int .i64 0,.slice none 0 0,.int .i64 0] 35)=w1 at *;generalize w.heap.size+1+1=resb at *;generalize w.heap.size+1=cb at *;obtain ⟨pb,hpb⟩:∃ q,w.heap.size=q:=⟨_,rfl⟩;have HLo:=bH HB.o.2.2.2.2;rw [hpb] at HB ⊢;clear hpb;have p0:=cellq HB.o.1 0 rfl;have p1:=cellq HB.o.1 1 rfl;have c1:=cellq HB.o.2.1 1 rfl;obtain ⟨S,hS⟩:∃ S,signedB p y=S:=⟨_,rfl⟩;have HS:=bH hS;rw [hS] at HSn;clear hS;go_wp2_with fail;refine (HSn.o w1 HB.o.2.2.2.1).mono ?_;rintro r2 w2 ⟨rfl,hx2⟩;replace HB:=bH (bI (blk_keep HB.o.1 hx2) (bI (blk_keep HB.o.2.1 hx2) (bI (blk_keep HB.o.2.2.1 hx2) (HB.o.2.2.2.1.trans hx2))));clear p0 p1 c1 hx2 HSn;cases S with
 | false =>
  have z0:=cellq HB.o.2.2.1 0 rfl;have z1:=cellq HB.o.2.2.1 1 rfl;have z2:=cellq HB.o.2.2.1 2 rfl;have z3:=cellq HB.o.2.2.1 3 rfl;have z4:=cellq HB.o.2.2.1 4 rfl;have y0:=free_of_cells HB.o.2.2.1;have HP:=bH (row_put HB.o.2.2.1 (.string ⟨#[]⟩) (.int .i64 0) (.int .i64 0) (.slice none 0 0) (.int .i64 0));go_wp2;generalize ((((w2.setCell ⟨resb,0,none⟩ (.string ⟨#[]⟩)).setCell ⟨resb,1,none⟩ (.int .i64 0)).setCell ⟨resb,2,none⟩ (.int .i64 0)).setCell ⟨resb,3,none⟩ (.slice none 0 0)).setCell ⟨resb,4,none⟩ (.int .i64 0)=w9 at *;have g0:=cellq HP.o.1 0 rfl;have g1:=cellq HP.o.1 1 rfl;have g2:=cellq HP.o.1 2 rfl;have g3:=cellq HP.o.1 3 rfl;have g4:=cellq HP.o.1 4 rfl;exact bodyPost_ret (v:=.tuple #[.agg #[.string ⟨#[]⟩,.int .i64 0,.int .i64 0,.slice none 0 0,.int .i64 0],.int .i64 13]) (by simp [results,Tryz.results61,go_sem,g0,g1,g2,g3,g4]) rfl (by rw [signed_no HS.o]; exact ⟨_,rfl,row0_tms _,HB.o.2.2.2.own HP.o.2 (fun k e=>by rw [e]; exact HLo.o),fun g hg=>by cases hg⟩)
 | true =>
  have p0:=cellq HB.o.1 0 rfl;have p1:=cellq HB.o.1 1 rfl;have c1:=cellq HB.o.2.1 1 rfl;go_wp2_with fail;refine (HCb.o w2 HB.o.2.2.2).mono ?_;rintro r3 w3 ⟨B,v3,rfl,hBl,hA3,hq3,hx3⟩;obtain ⟨n3,a3,l3,c3,a3',l3',c3',rfl⟩:=hq3.shape;have hx4:=(Ext.refl (fun _=>False) w3).alloc (.cells #[.bool n3,.slice a3 l3 c3,.slice a3' l3' c3'] 64);have HC:=bH (bI (hA3.keep hx4) (bI (show AccR (w3.alloc (.cells #[.bool n3,.slice a3 l3 c3,.slice a3' l3' c3'] 64)) w3.heap.size (combB p y) from ⟨_,_,_,_,_,_,_,boxR_new rfl n3 a3 l3 c3 a3' l3' c3',hq3.keep hx4⟩) (bI (blk_keep HB.o.1 (hx3.trans hx4)) (bI (blk_keep HB.o.2.2.1 (hx3.trans hx4)) (bI (HB.o.2.2.2.trans (hx3.trans hx4)) (bI (show resb<B from Nat.lt_of_lt_of_le (blk_lt HB.o.2.2.1) hBl) hA3.lt))))));clear p0 p1 c1 hBl hA3 hq3 hx3 hx4 HB HCb;go_upto_region 4 with fail;generalize w3.alloc (.cells #[.bool n3,.slice a3 l3 c3,.slice a3' l3' c3'] 64)=w4 at *;generalize w3.heap.size=bb at *;go_wp2_with fail;refine (HF0.o w4).mono ?_;rintro r5 w5 ⟨v5,rfl,h5,hx5⟩;obtain ⟨n5,a5,l5,c5,a5',l5',c5',rfl⟩:=h5.shape;have hx6:=(Ext.refl (fun _=>False) w5).alloc (.cells (cutRow (.slice none 0 0) 0) 35);have hx7:=(Ext.refl (fun _=>False) (w5.alloc (.cells (cutRow (.slice none 0 0) 0) 35))).alloc (.cells #[.bool n5,.slice a5 l5 c5,.slice a5' l5' c5'] 64);have HR:=bH (show RdSt w ((w5.alloc (.cells (cutRow (.slice none 0 0) 0) 35)).alloc (.cells #[.bool n5,.slice a5 l5 c5,.slice a5' l5' c5'] 64)) pb resb bb w5.heap.size (w5.heap.size+1) B n #[.slice vo n vc,.slice ro m rc] (combA p y) (combB p y) ((0:Int):Rat) (.slice none 0 0) [] from by
   have hxx:=hx5.trans (hx6.trans hx7);have hlt:=HC.o.2.1.lt;have hsz:=hx5.size;exact ⟨HC.o.2.2.2.2.1.trans hxx,blk_keep HC.o.2.2.1 hxx,blk_keep HC.o.2.2.2.1 hxx,HC.o.1.keep hxx,HC.o.2.1.keep hxx,blk_keep (blk_alloc_at w5 _) hx7,⟨_,_,_,_,_,_,_,boxR_new (W:=w5.alloc (.cells (cutRow (.slice none 0 0) 0) 35)) (by simp) n5 a5 l5 c5 a5' l5' c5',h5.keep (hx6.trans hx7)⟩,World.ownsRow_nil _ _ _ 2,(fun g hg=>by cases hg),HLo.o,HC.o.2.2.2.2.2.1,HC.o.2.2.2.2.2.2,by omega,by omega⟩)
  unfold cutRow at HR;clear h5 hx5 hx6 hx7 HC HF0;have HF0:=bH (fun W=>rfrom_any W 0 (by decide) (by decide));go_upto_region 5 with fail;generalize (w5.alloc (.cells #[.string ⟨#[99,117,116]⟩,.int .i64 0,.int .i64 1,.slice none 0 0,.int .i64 0] 35)).alloc (.cells #[.bool n5,.slice a5 l5 c5,.slice a5' l5' c5'] 64)=w6 at *;generalize w5.heap.size+1=mb at *;generalize w5.heap.size=rwb at *;have p0:=cellq HR.o.bp 0 rfl;go_wp2_with fail;clear p0;go_loopg [37,10] n (fun gg v37 v10 wr=>∃ (i:Nat) (vt:Value),i<=n/\gg=n - i/\v37=.int .i64 i/\v10=.bool (smallT p y i)/\noneT p y i=true/\RdSt w wr pb resb bb rwb mb B n #[.slice vo n vc,.slice ro m rc] (combA p y) (combB p y - lowT p y i) (upT' p y i) vt (termsR p y i));case atStart=>exact ⟨0,_,Nat.zero_le _,rfl,rfl,rfl,rfl,HR.o.congr (by show _=_ - (0:Rat); grind) rfl rfl⟩
  case round =>
   clear HR;obtain ⟨i,vt,hi,rfl,rfl,rfl,hnt,hst⟩:=hrel;have HR:=bH hst;have HNt:=bH hnt;clear hst hnt;obtain ⟨sm,hsm⟩:∃ x,smallT p y i=x:=⟨_,rfl⟩;have HSm:=bH hsm;rw [hsm];clear hsm;by_cases hin:i<n
   ·have i0:(i:Int)<(n:Int):=(by omega);have i1:(0:Int)<=(i:Int):=(by omega);have hil:i<p.vars.length:=(by rw [HE.o.1]; exact hin);obtain ⟨b1,off,rfl,-,e0,e1,e2,e3,e4,hvok⟩:=(HPv.o.keep HR.o.ext).atp i hil;obtain ⟨lo,hlo⟩:∃ x,(p.v i).lo=x:=⟨_,rfl⟩;obtain ⟨ig,hig⟩:∃ x,(p.v i).ig=x:=⟨_,rfl⟩;have HLi:=bH (show combB p y - lowT p y (i+1)=combB p y - lowT p y i - combA p y i*(lo:Rat) from by
     show _ - (lowT p y i+combA p y i*((p.v i).lo:Rat))=_;rw [hlo]; grind)
    have HUi:=bH (show upT' p y (i+1)=upT' p y i+(upJ p y i:Rat)*(lo:Rat) from by
     show upT' p y i+(upJ p y i:Rat)*((p.v i).lo:Rat)=_;rw [hlo])
    have HJi:=bH (show upJ p y i=if ig=true then (combA p y i).ceil else 0 from by rw [<- hig]; rfl);have HNn:=bH (fun (h:(!ig && decide (0<combA p y i))=false)=>none_next (p:=p) (y:=y) HNt.o (by rw [hig]; exact h));have HNo:=bH (fun (h:(!ig && decide (0<combA p y i))=true)=>up_no (y:=y) hil (by rw [hig]; exact h));rw [hlo] at e0;rw [hig] at e3;have HFl:=bH (show InR lo from hlo ▸ hvok.lo);clear hvok hlo hig hil;generalize (p.v i).up=up at *;generalize (p.v i).op=op at *;generalize (p.v i).co=co' at *;have hx1:=(Ext.refl (fun _=>False) wr).alloc (.cells #[.int .i64 lo,.int .i64 up,.bool op,.bool ig,.int .i64 co'] 73);have HR1:=bH (bI (HR.o.keep hx1) (blk_alloc_at wr (.cells #[.int .i64 lo,.int .i64 up,.bool op,.bool ig,.int .i64 co'] 73)));obtain ⟨CA,hCA⟩:∃ x,combA p y i=x:=⟨_,rfl⟩;have HZc:=bH (show Sz CA 2000 from hCA ▸ HZa.o i);obtain ⟨ng,a1,m1,c1,a2,m2,c2,f0,f1,f2,hca⟩:=HR1.o.1.arr.cells i hin;rw [hCA] at hca;have HCA:=bH hca;have HCAe:=bH hCA;rw [hCA] at HLi HJi HNo HNn;clear hca hCA hx1;go_upto_region 9 with fail;generalize wr.alloc (.cells #[.int .i64 lo,.int .i64 up,.bool op,.bool ig,.int .i64 co'] 73)=w1 at *;generalize wr.heap.size=vb at *;clear e0 e1 e2 e3 e4;have e0:=cellq HR1.o.2 0 rfl;have e3:=cellq HR1.o.2 3 rfl;have HSi:=bH (fun W (hW:XF w1 W)=>rsign_any W _ CA 2000 ((HCA.o.keep hW).reads HZc.o) (by decide));obtain ⟨K,hK⟩:∃ K:Bool,(!ig && decide (0<CA))=K:=⟨_,rfl⟩;have HK:=bH hK;rw [hK] at HNo HNn;clear hK;go_cut [52] (fun v52 wx=>v52=.bool K/\XF w1 wx);case first =>
     have HP:=bH (show decide (0<CA.num.sign)=decide (0<CA) from by rw [decide_eq_decide]; exact sign_gt CA);cases ig with
     | true =>
      have HK2:=bH (show K=false from HK.o.symm);go_wp2;go_meet;exact ⟨by rw [HK2.o],Ext.refl _ _⟩
     | false =>
      have HK2:=bH (show K=decide (0<CA.num.sign) from by rw [HP.o]; exact HK.o.symm);generalize CA.num.sign=X at *;go_wp2_with fail;refine (HSi.o w1 (Ext.refl _ _)).mono ?_;rintro r7 w7 ⟨rfl,hx7⟩;go_wp2;go_meet;exact ⟨by rw [HK2.o],hx7⟩
    case rest =>
    obtain ⟨rfl,hx2⟩:=hcut;obtain ⟨w2,rfl⟩:∃ x,x=wc:=⟨_,rfl⟩;replace HR:=bH (bI (HR1.o.1.keep hx2) (bI (blk_keep HR1.o.2 hx2) (HCA.o.keep hx2)));replace f0:=cell_keep f0 hx2;replace f1:=cell_keep f1 hx2;replace f2:=cell_keep f2 hx2;clear e0 e3 hx2 HR1 HCA HSi;have e0:=cellq HR.o.2.1 0 rfl;have e3:=cellq HR.o.2.1 3 rfl;cases K with
    | true =>
     have hres:=HR.o.1.res;unfold zeroRow at hres;have z0:=cellq hres 0 rfl;have z1:=cellq hres 1 rfl;have z2:=cellq hres 2 rfl;have z3:=cellq hres 3 rfl;have z4:=cellq hres 4 rfl;have y0:=free_of_cells hres;have HP:=bH (row_put hres (.string ⟨#[]⟩) (.int .i64 0) (.int .i64 0) (.slice none 0 0) (.int .i64 0));clear hres;go_wp2;generalize ((((w2.setCell ⟨resb,0,none⟩ (.string ⟨#[]⟩)).setCell ⟨resb,1,none⟩ (.int .i64 0)).setCell ⟨resb,2,none⟩ (.int .i64 0)).setCell ⟨resb,3,none⟩ (.slice none 0 0)).setCell ⟨resb,4,none⟩ (.int .i64 0)=w9 at *;have g0:=cellq HP.o.1 0 rfl;have g1:=cellq HP.o.1 1 rfl;have g2:=cellq HP.o.1 2 rfl;have g3:=cellq HP.o.1 3 rfl;have g4:=cellq HP.o.1 4 rfl;exact bodyPost_ret (v:=.tuple #[.agg #[.string ⟨#[]⟩,.int .i64 0,.int .i64 0,.slice none 0 0,.int .i64 0],.int .i64 13]) (by simp [results,Tryz.results61,go_sem,g0,g1,g2,g3,g4]) rfl (by rw [HNo.o trivial]; exact ⟨_,rfl,row0_tms _,HR.o.1.ext.own HP.o.2 (fun k e=>by rw [e]; exact HR.o.1.ord.1),fun g hg=>by cases hg⟩)
    | false =>
     have HSi:=bH (fun W (hW:XF w2 W)=>rsign_any W _ CA 2000 ((HR.o.2.2.keep hW).reads HZc.o) (by decide));obtain ⟨Z,hZ⟩:∃ Z:Bool,decide (CA=0)=Z:=⟨_,rfl⟩;have HZ:=bH hZ;have HZs:=bH (show decide (CA.num.sign=0)=Z from by rw [sign_eq0]; exact hZ);clear hZ HNo HK;go_upto_region 11 with fail;go_cut [59] (fun v59 wx=>v59=.bool Z/\XF w2 wx);case first =>
      generalize CA.num.sign=X at *;have HX2:=bH (show (X == 0)=Z from by rw [<- HZs.o]; by_cases h:X=0 <;> simp [h]);go_wp2_with fail;refine (HSi.o w2 (Ext.refl _ _)).mono ?_;rintro r7 w7 ⟨rfl,hx7⟩;go_wp2;go_meet;exact ⟨by rw [HX2.o],hx7⟩
     case rest =>
     obtain ⟨rfl,hx3⟩:=hcut;obtain ⟨w3,rfl⟩:∃ x,x=wc:=⟨_,rfl⟩;replace HR:=bH (bI (HR.o.1.keep hx3) (bI (blk_keep HR.o.2.1 hx3) (HR.o.2.2.keep hx3)));replace f0:=cell_keep f0 hx3;replace f1:=cell_keep f1 hx3;replace f2:=cell_keep f2 hx3;clear e0 e3 hx3 HSi HZs;cases Z with
     | true =>
      have hz:=skip_sums (p:=p) (y:=y) (i:=i) (HCAe.o.trans (of_decide_eq_true HZ.o));have HS2:=bH (bI (HR.o.1.congr hz.1 hz.2.1 hz.2.2.1) (show sm=smallT p y (i+1) from by rw [hz.2.2.2,HSm.o]));clear hz;go_wp2;go_roundg (n - (i+1));case measure=>omega
      case rel=>exact ⟨i+1,vt,by omega,rfl,by go_num,by rw [HS2.o.2],HNn.o trivial,HS2.o.1⟩
     | false =>
      clear HZ;go_wp2_with fail;refine (HF0.o w3).mono ?_;rintro r8 w8 ⟨v8,rfl,h8,hx8⟩;obtain ⟨n8,a8,l8,c8,a8',l8',c8',rfl⟩:=h8.shape;have hx9:=(Ext.refl (fun _=>False) w8).alloc (.cells #[.bool n8,.slice a8 l8 c8,.slice a8' l8' c8'] 64);have HU:=bH (bI (boxR_new (W:=w8) rfl n8 a8 l8 c8 a8' l8' c8') (bI (h8.keep hx9) (bI (hx8.trans hx9) hx8.size)));clear h8 hx8 hx9;go_upto_region 13 with fail;generalize w8.alloc (.cells #[.bool n8,.slice a8 l8 c8,.slice a8' l8' c8'] 64)=w4 at *;generalize w8.heap.size=ub at *;have e3:=cellq (blk_keep HR.o.2.1 HU.o.2.2.1) 3 rfl;replace f0:=cell_keep f0 HU.o.2.2.1;replace f1:=cell_keep f1 HU.o.2.2.1;replace f2:=cell_keep f2 HU.o.2.2.1;go_upto_if 62 with fail;go_cut [] (fun wx=>∃ ng a1 m1 c1 a2 m2 c2,BoxR wx ub ng (.slice a1 m1 c1) (.slice a2 m2 c2)/\IsRat wx (.agg #[.bool ng,.slice a1 m1 c1,.slice a2 m2 c2]) ((upJ p y i:Int):Rat)/\XF w3 wx);case first =>
       cases ig with
       | true =>
        have HJ:=bH (show upJ p y i=CA.ceil from HJi.o);have HCe:=bH (fun W (hW:XF w3 W)=>rceil_any W _ CA 2000 ((HR.o.2.2.keep hW).reads HZc.o) (by decide) (by decide));go_wp2_with fail;refine (HCe.o w4 HU.o.2.2.1).mono ?_;rintro r9 w9 ⟨v9,rfl,h9,hx9⟩;obtain ⟨n9,a9,l9,c9,rfl⟩:=h9.shape;have H9:=bH (bI h9 hx9);clear h9 hx9;go_wp2_with fail;refine (whole_any w9 n9 a9 l9 c9).mono ?_;rintro r10 w10 ⟨rfl,hx10⟩;have hX:=H9.o.2.trans hx10;have hb10:=HU.o.1.keep hX;obtain ⟨d0,d1,d2,d3,d4,d5⟩:=hb10.facts;have hp:=hb10.put (neg:=n9) (no_int a9 l9 c9) (no_int none 0 0);have HP:=bH (bI hp.box (bI (hp.rat (H9.o.1.keep hx10).rat) ((HU.o.2.2.1.trans hX).own hp.ext (fun k e=>by rw [e]; exact HU.o.2.2.2))));clear hp hb10 hX hx10;go_wp2;go_meet;exact ⟨_,_,_,_,_,_,_,HP.o.1,by rw [HJ.o]; exact HP.o.2.1,HP.o.2.2⟩
       | false =>
        have HJ:=bH (show upJ p y i=0 from HJi.o);go_wp2;go_meet;exact ⟨_,_,_,_,_,_,_,HU.o.1,by rw [HJ.o]; exact HU.o.2.1,HU.o.2.2.1⟩
      case rest =>
      obtain ⟨nu,au,lu,cu,au',lu',cu',hbu,hqu,hxu⟩:=hcut;have HUq:=bH (bI hbu (bI hqu hxu));have HUl:=bH HU.o.2.2.2;clear hbu hqu hxu e3 HU f0 f1 f2;have HFo:=bH (fun W=>rfrom_any W lo HFl.o.1 HFl.o.2);have e0:=cellq (blk_keep HR.o.2.1 HUq.o.2.2) 0 rfl;go_wp2_with fail;refine (HFo.o wc).mono ?_;rintro r11 w11 ⟨v11,rfl,h11,hx11⟩;obtain ⟨n14,a14,l14,c14,a14',l14',c14',rfl⟩:=h11.shape;have hx12:=(Ext.refl (fun _=>False) w11).alloc (.cells #[.bool n14,.slice a14 l14 c14,.slice a14' l14' c14'] 64);have HLb:=bH (bI (boxR_new (W:=w11) rfl n14 a14 l14 c14 a14' l14' c14') (h11.keep hx12));have hxx:=hx11.trans hx12;replace HUq:=bH (bI (HUq.o.1.keep hxx) (bI (HUq.o.2.1.keep hxx) (bI (HUq.o.2.2.trans hxx) (show ub<w11.heap.size from Nat.lt_of_lt_of_le HUq.o.1.lt hx11.size))));have HRw:=bH (bI (HR.o.1.keep HUq.o.2.2.1) (HR.o.2.2.keep HUq.o.2.2.1));have HMbu:=bH (show mb<ub from Nat.lt_of_lt_of_le HR.o.1.accm.lt HUl.o);clear h11 hx11 hx12 hxx e0 HR;go_upto_region 16 with fail;generalize w11.alloc (.cells #[.bool n14,.slice a14 l14 c14,.slice a14' l14' c14'] 64)=w5 at *;generalize w11.heap.size=lb at *;have HR:=bH HRw.o.1;have HCA:=bH HRw.o.2;obtain ⟨arr0,arr1,arr2,arr3,arr4,arr5,arr6,f0,f1,f2,hca⟩:=HR.o.arr.cells i hin;rw [HCAe.o] at hca;replace HCA:=bH hca;clear HRw hca;replace f0:=cq f0;replace f1:=cq f1;replace f2:=cq f2;have m0:=cq HLb.o.1.facts.1;have m1:=cq HLb.o.1.facts.2.1;have m2:=cq HLb.o.1.facts.2.2.1;obtain ⟨nb0,ab0,lb0,cb0,ab0',lb0',cb0',hbb0,hqb0⟩:=HR.o.accb;have t0:=cq hbb0.facts.1;have t1:=cq hbb0.facts.2.1;have t2:=cq hbb0.facts.2.2.1;have HMb:=bH (fun W (hW:XF w5 W)=>rmul_any W _ _ CA (lo:Rat) 2000 ((HCA.o.keep hW).reads HZc.o) ((HLb.o.2.keep hW).reads ((Sz.int HFl.o).mono (by decide))) (by decide) (by decide));have HSb:=bH (fun W (hW:XF w5 W) u (hu:IsRat W u (CA*(lo:Rat)))=>rsub_any W _ u _ _ 100000 ((hqb0.keep hW).reads (HZb.o.1 i (by omega))) (hu.reads ((HZc.o.mul (Sz.int HFl.o)).mono (by decide))) (by decide) (by decide));clear hbb0 hqb0 HCA;rw [<- HLi.o] at HSb;generalize CA*(lo:Rat)=Y1 at *;refine ends_begin 8 (XF w5) (by kernel_rfl) ((Ext.refl _ w5).drew) (fun hHeld=>?_);refine et 0 (h:=(et 1 (h:=(et 2 (h:=(et 3 (h:=(et 4 (h:=(et 5 (h:=?_)))))))))));(try go_frame);refine est 6 (h:=fun K hK=>?_);(go_simp; go_at_call 116; (with_reducible refine (HMb.o _ hHeld).mono ?_); rintro q1 w11 ⟨v11,rfl,h11,hx11⟩; have hX1:=hHeld.trans hx11; obtain ⟨n11,a11,l11,c11,a11',l11',c11',rfl⟩:=h11.shape);refine hK.o _ _ (hX1) (fun hHeld=>?_);clear hK K;(try go_frame);refine est 7 (h:=fun K hK=>?_);(go_simp; go_at_call 115; (with_reducible refine (HSb.o _ hX1 _ h11).mono ?_); rintro q2 w12 ⟨v12,rfl,h12,hx12⟩; have hX2:=hX1.trans hx12; obtain ⟨n12,a12,l12,c12,a12',l12',c12',rfl⟩:=h12.shape);refine hK.o _ _ (hX2) (fun hHeld=>?_);clear hK K;(try go_frame);have HR2:=bH (HR.o.keep hX2);obtain ⟨nb,ab,mb',cb',ab2,mb2,cb2,hbb,-⟩:=HR2.o.accb;obtain ⟨d0,d1,d2,d3,d4,d5⟩:=hbb.facts;refine ends_last rfl (by kernel_rfl) (fun K hK=>?_);go_simp;refine hK.o _ _ ?_;clear hK K;(try go_frame);refine ends_done (by kernel_rfl) ?_ _;obtain ⟨hst6,hx6,hr6⟩:=HR2.o.setBox (.inl rfl) hbb h12;rw [if_pos rfl,if_pos rfl] at hst6;have HRb:=bH hst6;have HUbl:=bH HUq.o.2.2.2;replace HUq:=bH (show BoxR _ ub nu (.slice au lu cu) (.slice au' lu' cu')/\IsRat _ (.agg #[.bool nu,.slice au lu cu,.slice au' lu' cu']) ((upJ p y i:Int):Rat) from ⟨(HUq.o.1.keep hX2).ext hx6 (fun e=>by have e':ub=bb:=e; have h1:=HMbu.o; have h2:=HR2.o.ord; omega),(HUq.o.2.1.keep hX2).pastR hr6⟩);replace HLb:=bH (show BoxR _ lb n14 (.slice a14 l14 c14) (.slice a14' l14' c14')/\IsRat _ (.agg #[.bool n14,.slice a14 l14 c14,.slice a14' l14' c14']) (lo:Rat) from ⟨(HLb.o.1.keep hX2).ext hx6 (fun e=>by have e':lb=bb:=e; have h1:=HMbu.o; have h2:=HR2.o.ord; have h3:=HUbl.o; omega),(HLb.o.2.keep hX2).pastR hr6⟩);clear hst6 hx6 hr6 hX1 hX2 h11 h12 hx11 hx12 HR2 HR hbb d0 d1 d2 d3 d4 d5 t0 t1 t2 f0 f1 f2 m0 m1 m2 HMb HSb hHeld;generalize ((w12.setCell ⟨bb,0,none⟩ (.bool n12)).setCell ⟨bb,1,none⟩ (.slice a12 l12 c12)).setCell ⟨bb,2,none⟩ (.slice a12' l12' c12')=w6 at *;have u0:=cq HUq.o.1.facts.1;have u1:=cq HUq.o.1.facts.2.1;have u2:=cq HUq.o.1.facts.2.2.1;have m0:=cq HLb.o.1.facts.1;have m1:=cq HLb.o.1.facts.2.1;have m2:=cq HLb.o.1.facts.2.2.1;obtain ⟨nb0,ab0,lb0,cb0,ab0',lb0',cb0',hbb0,hqb0⟩:=HRb.o.accm;have t0:=cq hbb0.facts.1;have t1:=cq hbb0.facts.2.1;have t2:=cq hbb0.facts.2.2.1;have HMm:=bH (fun W (hW:XF w6 W)=>rmul_any W _ _ ((upJ p y i:Int):Rat) (lo:Rat) 2001 ((HUq.o.2.keep hW).reads (Sz.cast (HZb.o.2.2 i) (by decide))) ((HLb.o.2.keep hW).reads ((Sz.int HFl.o).mono (by decide))) (by decide) (by decide));have HAm:=bH (fun W (hW:XF w6 W) u (hu:IsRat W u (((upJ p y i:Int):Rat)*(lo:Rat)))=>radd_any W _ u _ _ 100000 ((hqb0.keep hW).reads (HZb.o.2.1 i (by omega))) (hu.reads (((Sz.cast (HZb.o.2.2 i) (by decide)).mul (Sz.int HFl.o)).mono (by decide))) (by decide) (by decide));clear hbb0 hqb0;rw [<- HUi.o] at HAm;generalize ((upJ p y i:Int):Rat)*(lo:Rat)=Y2 at *;go_upto_region 17 with fail;refine ends_begin 5 (XF w6) (by kernel_rfl) ((Ext.refl _ w6).drew) (fun hHeld=>?_);refine et 0 (h:=(et 1 (h:=(et 2 (h:=?_)))));(try go_frame);refine est 3 (h:=fun K hK=>?_);(go_simp; go_at_call 116; (with_reducible refine (HMm.o _ hHeld).mono ?_); rintro q1 w11 ⟨v11,rfl,h11,hx11⟩; have hX1:=hHeld.trans hx11; obtain ⟨n11,a11,l11,c11,a11',l11',c11',rfl⟩:=h11.shape);refine hK.o _ _ (hX1) (fun hHeld=>?_);clear hK K;(try go_frame);refine est 4 (h:=fun K hK=>?_);(go_simp; go_at_call 117; (with_reducible refine (HAm.o _ hX1 _ h11).mono ?_); rintro q2 w12 ⟨v12,rfl,h12,hx12⟩; have hX2:=hX1.trans hx12; obtain ⟨n12,a12,l12,c12,a12',l12',c12',rfl⟩:=h12.shape);refine hK.o _ _ (hX2) (fun hHeld=>?_);clear hK K;(try go_frame);have HR3:=bH (HRb.o.keep hX2);obtain ⟨nb,ab,mb',cb',ab2,mb2,cb2,hbb,-⟩:=HR3.o.accm;obtain ⟨d0,d1,d2,d3,d4,d5⟩:=hbb.facts;refine ends_last rfl (by kernel_rfl) (fun K hK=>?_);go_simp;refine hK.o _ _ ?_;clear hK K;(try go_frame);refine ends_done (by kernel_rfl) ?_ _;obtain ⟨hst7,hx7,hr7⟩:=HR3.o.setBox (.inr rfl) hbb h12;have hne:¬ mb=bb:=fun e=>by have h2:=HR3.o.ord; omega
      rw [if_neg hne,if_neg hne] at hst7;have HRc:=bH hst7;replace HUq:=bH (show BoxR _ ub nu (.slice au lu cu) (.slice au' lu' cu')/\IsRat _ (.agg #[.bool nu,.slice au lu cu,.slice au' lu' cu']) ((upJ p y i:Int):Rat) from ⟨(HUq.o.1.keep hX2).ext hx7 (fun e=>by have e':ub=mb:=e; have h1:=HMbu.o; omega),(HUq.o.2.keep hX2).pastR hr7⟩);clear hst7 hx7 hr7 hX1 hX2 h11 h12 hx11 hx12 HR3 HRb hbb d0 d1 d2 d3 d4 d5 t0 t1 t2 u0 u1 u2 m0 m1 m2 HMm HAm hHeld HLb;generalize ((w12.setCell ⟨mb,0,none⟩ (.bool n12)).setCell ⟨mb,1,none⟩ (.slice a12 l12 c12)).setCell ⟨mb,2,none⟩ (.slice a12' l12' c12')=w7 at *;have HLm:=bH (fun W (hW:XF w7 W)=>climited_any W _ (upJ p y i) 2001 (HUq.o.2.keep hW) (HZb.o.2.2 i) (by decide) (by decide));unfold LimPost at HLm;obtain ⟨u0,u1,u2,-⟩:=HUq.o.1.facts;have HSq:=bH (show smallT p y (i+1)=(sm && limB (upJ p y i)) from by rw [<- HSm.o]; rfl);have HTq:=bH (show termsR p y (i+1)=termsR p y i++if toR (upJ p y i)=0 then [] else [⟨i,toR (upJ p y i)⟩] from termsTo_succ i _);generalize toR (upJ p y i)=TR at *;generalize limB (upJ p y i)=LB at *;go_wp2_with fail;refine (HLm.o w7 (Ext.refl _ _)).mono ?_;rintro r13 w13 ⟨rfl,hx13⟩;replace HRc:=bH (HRc.o.keep hx13);clear u0 u1 u2 hx13 HLm HUq;go_upto_region 19 with fail;go_cut [10] (fun v10 wx=>v10=.bool (sm && LB)/\wx=w13);case first =>
       cases sm <;> (go_wp2; go_meet; exact ⟨rfl,rfl⟩)
      case rest =>
      obtain ⟨rfl,rfl⟩:=hcut;rw [<- HSq.o];by_cases hT0:TR=0
      ·have HTe:=bH (show termsR p y (i+1)=termsR p y i from by rw [HTq.o,if_pos hT0,List.append_nil]);subst hT0;go_wp2;go_roundg (n - (i+1));case measure=>omega
       case rel=>exact ⟨i+1,vt,by omega,rfl,by go_num,rfl,HNn.o trivial,HRc.o.congr rfl rfl HTe.o.symm⟩
      ·have h5:(TR == 0)=false:=(by simpa using hT0);have h6:decide (TR=0)=false:=decide_eq_false hT0;have HTe:=bH (show termsR p y (i+1)=termsR p y i++[⟨i,TR⟩] from by rw [HTq.o,if_neg hT0]);obtain ⟨wd,rfl⟩:∃ x,x=wc:=⟨_,rfl⟩;have hxA:=(Ext.refl (fun _=>False) wd).alloc (.cells #[.int .i64 i,.int .i64 TR] 70);have HKp:=bH (bI (HRc.o.keep hxA) (term_src wd ⟨i,TR⟩));have HLn:=bH (termsTo_len (fun j=>toR (upJ p y j)) i);have hshape:=ownsRow_shape HKp.o.1.own;have t3:=cellq HRc.o.row 3 rfl;clear hxA;go_wp2_with (at_builtin; refine wpList_appG rfl (.tmp 97) (.tmp 101) rfl Tryz.underlying33 Tryz.infoTerm rfl (cT_noD term0) (by decide) (by decide) w.heap.size vt (termsR p y i).length ((termsR p y i).flatMap cT) rfl HKp.o.1.own HKp.o.1.nod (cTs_noD _) ⟨wd.heap.size,0,none⟩ 1 (cT ⟨i,TR⟩) rfl rfl HKp.o.2 (cT_one' _) (cT_noD _) (by have h1:=HLn.o; unfold termsR; omega) HKp.o.1.ext.size ?_; intro v15 w15 ha15; obtain ⟨to',tc',rfl⟩:=ownsRow_shape ha15.own; have HP:=bH (HKp.o.1.push ha15 ⟨_,_,_,rfl⟩ (by obtain ⟨a,c,e⟩:=hshape; exact ⟨a,_,c,e⟩)); have q3:=cellq HP.o.2 3 rfl; have q4:=free_of_cells HP.o.2 3);go_roundg (n - (i+1));case measure=>omega
       case rel=>exact ⟨i+1,_,by omega,rfl,by go_num,rfl,HNn.o trivial,HP.o.1.congr rfl rfl HTe.o.symm⟩
   ·obtain rfl:n=i:=(by omega);have HNu:=bH (show noneUp p y=true from by have h:=HNt.o; rw [<- HE.o.1] at h; exact h);obtain ⟨nb0,ab0,lb0,cb0,ab0',lb0',cb0',hbb0,hqb0⟩:=HR.o.accb;have t0:=cq hbb0.facts.1;have t1:=cq hbb0.facts.2.1;have t2:=cq hbb0.facts.2.2.1;obtain ⟨nm0,am0,lm0,cm0,am0',lm0',cm0',hbm0,hqm0⟩:=HR.o.accm;have m0:=cq hbm0.facts.1;have m1:=cq hbm0.facts.2.1;have m2:=cq hbm0.facts.2.2.1;have hz1:=HZb.o.1 n (Nat.le_refl _);have hz2:=HZb.o.2.1 n (Nat.le_refl _);have HCe:=bH (fun W (hW:XF wr W)=>rceil_any W _ _ 100000 ((hqb0.keep hW).reads hz1) (by decide) (by decide));have HFl:=bH (fun W (hW:XF wr W)=>rfloor_any W _ _ 100000 ((hqm0.keep hW).reads hz2) (by decide) (by decide));have hl1:=ceil_len hz1;have hl2:=floor_len hz2;have HZr:=bH (show (combB p y - lowT p y n).ceil+(upT' p y n).floor=roundBd p y from by
     unfold roundBd;rw [<- upT_all,HE.o.1];show _=(combB p y - sumTo p.vars.length _).ceil+_;rw [HE.o.1]; rfl)
    clear hbb0 hqb0 hbm0 hqm0 hz1 hz2;generalize (combB p y - lowT p y n).ceil=Zc at *;generalize (upT' p y n).floor=Zf at *;have HAd:=bH (fun W u v (hu:IsInt W u Zc) (hv:IsInt W v Zf)=>iadd_any W u v Zc Zf 100001 (hu.reads hl1) (hv.reads hl2) (by decide));have HLi:=bH (fun W u (hu:IsRat W u ((Zc+Zf:Int):Rat))=>climited_any W u (Zc+Zf) 100002 hu (len_add hl1 hl2) (by decide) (by decide));unfold LimPost at HLi;rw [HZr.o] at HAd HLi;clear hl1 hl2;have HBd:=bH (show limB (roundBd p y)=true->toR (roundBd p y)=roundBd p y from fun h=>toR_in (limB_in h));have HBe:=bH (show ∃ b,b=roundBd p y from ⟨_,rfl⟩);generalize hBQ:roundBd p y=BQ at *;have HBQ:=bH hBQ;clear hBQ HBe HZr;obtain ⟨TB,hTB⟩:∃ x,toR BQ=x:=⟨_,rfl⟩;obtain ⟨LB,hLB⟩:∃ x,limB BQ=x:=⟨_,rfl⟩;have HLB:=bH hLB;rw [hTB,hLB] at HLi HBd;clear hTB hLB;go_upto_region 23 with fail;refine wp_region_held_drew (S:=(XF wr)) (by kernel_rfl) ((Ext.refl _ wr).drew) (fun hHeld=>?_);refine ht 0 (h:=(ht 2 (h:=?_)));(try go_frame);refine hst 1 (h:=fun K hK=>?_);(go_simp; go_at_call 114; (with_reducible refine (HCe.o _ hHeld).mono ?_); rintro q1 w11 ⟨v11,rfl,h11,hx11⟩; have hX1:=hHeld.trans hx11; obtain ⟨n11,a11,l11,c11,rfl⟩:=h11.shape);refine hK.o _ _ (hX1) (fun hHeld=>?_);clear hK K;(try go_frame);refine hst 3 (h:=fun K hK=>?_);(go_simp; go_at_call 120; (with_reducible refine (HFl.o _ hX1).mono ?_); rintro q2 w12 ⟨v12,rfl,h12,hx12⟩; have hX2:=hX1.trans hx12; have h11':=h11.keep hx12; obtain ⟨n12,a12,l12,c12,rfl⟩:=h12.shape);refine hK.o _ _ (hX2) (fun hHeld=>?_);clear hK K;(try go_frame);refine hst 4 (h:=fun K hK=>?_);(go_simp; go_at_call 119; (with_reducible refine (HAd.o _ _ _ h11' h12).mono ?_); rintro q3 w13 ⟨v13,rfl,h13,hx13⟩; have hX3:=hX2.trans hx13; obtain ⟨n13,a13,l13,c13,rfl⟩:=h13.shape);refine hK.o _ _ (hX3) (fun hHeld=>?_);clear hK K;(try go_frame);refine hst 5 (h:=fun K hK=>?_);(go_simp; go_at_call 113; (with_reducible refine (whole_any _ _ _ _ _).mono ?_); rintro q4 w14 ⟨rfl,hx14⟩; have hX4:=hX3.trans hx14; have h14:=(h13.keep hx14).rat);refine hK.o _ _ (hX4) (fun hHeld=>?_);clear hK K;(try go_frame);refine hst 6 (h:=fun K hK=>?_);(go_simp; go_at_call 118; (with_reducible refine (HLi.o _ _ h14).mono ?_); rintro q5 w15 ⟨rfl,hx15⟩; have hX5:=hX4.trans hx15);refine hK.o _ _ (hX5) (fun hHeld=>?_);clear hK K;(try go_frame);refine ht 7 (h:=(ht 8 (h:=(ht 9 (h:=(ht 10 (h:=(ht 11 (h:=?_)))))))));(try go_frame);refine wpAnyH_done (by kernel_rfl) ?_ _;have HRf:=bH (HR.o.keep hX5);clear t0 t1 t2 m0 m1 m2 hX1 hX2 hX3 hX4 hX5 h11 h11' h12 h13 h14 hx11 hx12 hx13 hx14 hx15 HCe HFl HAd HLi HR hHeld;obtain ⟨KK,hKK⟩:∃ x,(!LB || !sm)=x:=⟨_,rfl⟩;have HKK:=bH hKK;clear hKK;go_upto_region 24 with fail;go_cut [120] (fun v120 wx=>v120=.bool KK/\wx=w15);case first =>
     have HK3:=bH HKK.o.symm;cases LB <;> cases sm <;> (go_wp2; go_meet; exact ⟨by rw [HK3.o]; rfl,rfl⟩)
    case rest =>
    obtain ⟨rfl,rfl⟩:=hcut;obtain ⟨wd,rfl⟩:∃ x,x=wc:=⟨_,rfl⟩;have hres:=HRf.o.res;unfold zeroRow at hres;have y0:=free_of_cells hres;have z0:=cellq hres 0 rfl;have z1:=cellq hres 1 rfl;have z2:=cellq hres 2 rfl;have z3:=cellq hres 3 rfl;have z4:=cellq hres 4 rfl;cases KK with
    | true =>
     have HRP:=bH (show roundP p y=(row0,8) from by
      unfold roundP;rw [HS.o,HNu.o,Bool.and_true,if_pos rfl,if_neg];intro h;unfold roundOk at h;rw [Bool.and_eq_true] at h;have h1:sm=true:=(by rw [<- HSm.o,<- HE.o.1]; exact h.1);have h2:LB=true:=(by rw [<- HLB.o,<- HBQ.o]; exact h.2);have h3:=HKK.o;rw [h1,h2] at h3;cases h3)
     have HP:=bH (row_put hres (.string ⟨#[]⟩) (.int .i64 0) (.int .i64 0) (.slice none 0 0) (.int .i64 0));clear hres;go_wp2;generalize ((((wd.setCell ⟨resb,0,none⟩ (.string ⟨#[]⟩)).setCell ⟨resb,1,none⟩ (.int .i64 0)).setCell ⟨resb,2,none⟩ (.int .i64 0)).setCell ⟨resb,3,none⟩ (.slice none 0 0)).setCell ⟨resb,4,none⟩ (.int .i64 0)=w9 at *;have g0:=cellq HP.o.1 0 rfl;have g1:=cellq HP.o.1 1 rfl;have g2:=cellq HP.o.1 2 rfl;have g3:=cellq HP.o.1 3 rfl;have g4:=cellq HP.o.1 4 rfl;exact bodyPost_ret (v:=.tuple #[.agg #[.string ⟨#[]⟩,.int .i64 0,.int .i64 0,.slice none 0 0,.int .i64 0],.int .i64 8]) (by simp [results,Tryz.results61,go_sem,g0,g1,g2,g3,g4]) rfl (by rw [HRP.o]; exact ⟨_,rfl,row0_tms _,HRf.o.ext.own HP.o.2 (fun k e=>by rw [e]; exact HRf.o.ord.1),fun g hg=>by cases hg⟩)
    | false =>
     have hbo:LB=true/\sm=true:=(by have h:=HKK.o; revert h; cases LB <;> cases sm <;> simp);have HRP:=bH (show roundP p y=(⟨cutName,0,1,termsR p y n,TB⟩,0) from by
      unfold roundP;rw [HS.o,HNu.o,Bool.and_true,if_pos rfl,if_pos]
      ·rw [HBd.o hbo.1,HBQ.o];have h:=termsR_ok (p:=p) (y:=y) (by rw [HE.o.1,HSm.o]; exact hbo.2);rw [HE.o.1] at h ⊢;rw [h]
      ·unfold roundOk;rw [Bool.and_eq_true];exact ⟨by have h:=HSm.o; rw [<- HE.o.1] at h; exact h.trans hbo.2,by rw [HBQ.o,HLB.o]; exact hbo.1⟩)
     have HIn:=bH (show ∀ t ∈ termsR p y n,TermOk t from termsR_in (by omega));obtain ⟨to',tc',hvt⟩:=ownsRow_shape HRf.o.own;have hrow:=HRf.o.row;unfold cutRow at hrow;have r0:=cellq hrow 0 rfl;have r1:=cellq hrow 1 rfl;have r2:=cellq hrow 2 rfl;have r3:=cellq hrow 3 rfl;have r4:=cellq hrow 4 rfl;have q0:=free_of_cells hrow;have HO:=bH HRf.o.ord;have hxr:=(Ext.refl (fun k=>k=rwb) wd).setCell (p:=⟨rwb,4,none⟩) (.int .i64 TB) (fun _=>rfl);have hne:¬ resb=rwb:=(by have h:=HO.o; omega);have hrow2:=blk_setCell_same hrow 4 (.int .i64 TB);have hres2:=blk_ext hres hxr (fun e=>hne e);have HP:=bH (row_put hres2 (.string ⟨#[99,117,116]⟩) (.int .i64 0) (.int .i64 1) vt (.int .i64 TB));have HOw:=bH (ownsRow_ext (ownsRow_ext HRf.o.own hxr (fun g hg e=>typ_ne' (own_ty HRf.o.own g hg) ⟨_,hrow⟩ (by decide) e)) HP.o.2 (fun g hg e=>typ_ne' (own_ty (ownsRow_ext HRf.o.own hxr (fun g hg e=>typ_ne' (own_ty HRf.o.own g hg) ⟨_,hrow⟩ (by decide) e)) g hg) ⟨_,hres2⟩ (by decide) e));have HXf:=bH ((HRf.o.ext.own hxr (fun k e=>by have e':k=rwb:=e; have h:=HO.o; omega)).own HP.o.2 (fun k e=>by have e':k=resb:=e; have h:=HO.o; omega));have hres3:=hres2;clear hres hrow hxr hbo hres2;subst hvt;go_wp2;generalize ((((((wd.setCell ⟨rwb,4,none⟩ (.int .i64 TB)).setCell ⟨resb,0,none⟩ (.string ⟨#[99,117,116]⟩)).setCell ⟨resb,1,none⟩ (.int .i64 0)).setCell ⟨resb,2,none⟩ (.int .i64 1)).setCell ⟨resb,3,none⟩ (.slice to' (termsR p y n).length tc')).setCell ⟨resb,4,none⟩ (.int .i64 TB))=w9 at *;have g0:=cellq HP.o.1 0 rfl;have g1:=cellq HP.o.1 1 rfl;have g2:=cellq HP.o.1 2 rfl;have g3:=cellq HP.o.1 3 rfl;have g4:=cellq HP.o.1 4 rfl;exact bodyPost_ret (v:=.tuple #[.agg #[.string ⟨#[99,117,116]⟩,.int .i64 0,.int .i64 1,.slice to' (termsR p y n).length tc',.int .i64 TB],.int .i64 0]) (by simp [results,Tryz.results61,go_sem,g0,g1,g2,g3,g4]) rfl (by rw [HRP.o]; exact ⟨_,rfl,⟨own_sl cT_len' HOw.o,HIn.o⟩,HXf.o,fun g hg=>(World.ownsRow.lt HOw.o g hg).1⟩)
def coverP (p:ProgV) (i:Nat) (vs:List Int):RowV × Int:=if covB p (p.r i) vs then (⟨cutName,0,0,onesT vs,(vs.length:Int) - 1⟩,0) else (row0,13)
structure VkSt (w wr:World) (cb resb rwb:Nat) (cc:Array Value) (vt:Value) (ts:List TermV) (bd:Int):Prop where
 ext:XF w wr
 cut:blk wr cb=some (.cells cc 29 (0,0))
 res:blk wr resb=some (.cells #[.string ⟨#[]⟩,.int .i64 0,.int .i64 0,.slice none 0 0,.int .i64 0] 35 (0,0))
 row:blk wr rwb=some (.cells #[.string ⟨#[99,117,116]⟩,.int .i64 0,.int .i64 0,vt,.int .i64 bd] 35 (0,0))
 own:wr.ownsRow w.heap.size 70 2 vt ts.length (ts.flatMap cT)
 ord:w.heap.size<=resb/\resb<rwb
section
variable {w wr w':World} {cb resb rwb:Nat} {cc:Array Value} {vt vt':Value} {ts:List TermV} {bd:Int} {t:TermV}
theorem VkSt.keep (h:VkSt w wr cb resb rwb cc vt ts bd) (hx:XF wr w'):VkSt w w' cb resb rwb cc vt ts bd :=
 ⟨h.ext.trans hx,blk_keep h.cut hx,blk_keep h.res hx,blk_keep h.row hx,ownsRow_ext h.own hx (fun _ _ e=>e),h.ord⟩
theorem VkSt.push (h:VkSt w wr cb resb rwb cc vt ts bd) (hn:w'.ownsRow w.heap.size 70 2 vt' (ts++[t]).length ((ts++[t]).flatMap cT)) (hx:Ext (fun k=>vt.ownBlock=some k) wr w') :
  VkSt w (w'.setCell ⟨rwb,3,none⟩ vt') cb resb rwb cc vt' (ts++[t]) bd/\blk w' rwb=some (.cells #[.string ⟨#[99,117,116]⟩,.int .i64 0,.int .i64 0,vt,.int .i64 bd] 35 (0,0)):=by
 obtain ⟨o0,o1⟩:=h.ord;have hty:∀ k,vt.ownBlock=some k->TyB wr k 70:=own_ty h.own;have k1:=blk_ext h.cut hx (fun e=>typ_ne' ⟨_,h.cut⟩ (hty _ e) (by decide) rfl);have k2:=blk_ext h.res hx (fun e=>typ_ne' ⟨_,h.res⟩ (hty _ e) (by decide) rfl);have k3:=blk_ext h.row hx (fun e=>typ_ne' ⟨_,h.row⟩ (hty _ e) (by decide) rfl);have hx2:=(Ext.refl (fun k=>k=rwb) w').setCell (p:=⟨rwb,3,none⟩) vt' (fun _=>rfl);exact ⟨⟨(h.ext.own hx (fun k e=>(World.ownsRow.lt h.own k e).1)).own hx2 (fun k e=>by have e':k=rwb:=e; omega),blk_ext k1 hx2 (fun e=>typ_ne' ⟨_,k1⟩ ⟨_,k3⟩ (by decide) e),blk_ext k2 hx2 (fun e=>by have e':resb=rwb:=e; omega),blk_setCell_same k3 3 vt',ownsRow_ext hn hx2 (fun g hg e=>typ_ne' (own_ty hn g hg) ⟨_,k3⟩ (by decide) e),h.ord⟩,k3⟩
end
theorem onesT_snoc (l:List Int) (v:Int):onesT (l++[v])=onesT l++[⟨v,1⟩]:=by unfold onesT; rw [List.map_append]; rfl
theorem Inz.termOk {p:ProgV} {l:List Int} (h:∀ v ∈ l,0<=v/\v<p.vars.length) (hn:p.vars.length<=1000):∀ t ∈ onesT l,TermOk t:=fun t ht=>by
 obtain ⟨v,hv,rfl⟩:=List.mem_map.1 ht;have:=h v hv;exact ⟨⟨by show (-9223372036854775808:Int)<=v; omega,by show v<=9223372036854775807; omega⟩,(by decide:(-9223372036854775808:Int)<=1/\(1:Int)<=9223372036854775807)⟩
theorem cover_any (w:World) (pv yv cvs:Value) (p:ProgV) (kd:Int) (i:Nat) (vs:List Int) (hp:IsPrg w pv p) (hyv:∃ ao n c,yv=.slice ao n c) (hv:Inz w cvs vs) (hi:i<p.rows.length) (hin:∀ t ∈ (p.r i).terms,0<=t.var/\t.var<p.vars.length) (hvs:∀ v ∈ vs,0<=v/\v<p.vars.length) (hn:p.vars.length<=1000) (hl:vs.length<=1000) :
  Calls Tryz.prog 62 #[pv,.agg #[.int .i64 kd,yv,.int .i64 i,cvs]] w (DrvPost w (coverP p i vs)):=by
 have HPr:=bH hp;obtain ⟨vv,rv,rfl,hpv,hpr⟩:=hp;obtain ⟨vo,vc,rfl,-,-,-⟩:=hpv.shape;obtain ⟨ro,rc,rfl,-,-,-⟩:=hpr.shape;obtain ⟨yo,yn,yc,rfl⟩:=hyv;obtain ⟨so,sc,rfl,hsm⟩:=hv.shape;obtain ⟨rb,off,ta,tc,rfl,-,e0,e1,e2,e3,e4,hok,hT⟩:=hpr.atp i hi;have HCv:=bH (fun W (hW:XF w W)=>covers_any W _ _ p (p.r i) ta tc vs (HPr.o.keep hW) hok (hT.keep hW) hin (hv.keep hW) hvs hn);have HV:=bH (bI hv (Inz.termOk hvs hn));have HE0:=bH (bI e0 (bI e1 (bI e2 (bI e3 e4))));obtain ⟨n,hn'⟩:∃ x,p.vars.length=x:=⟨_,rfl⟩;obtain ⟨m,hm'⟩:∃ x,p.rows.length=x:=⟨_,rfl⟩;obtain ⟨sl,hsl⟩:∃ x,vs.length=x:=⟨_,rfl⟩;obtain ⟨tl,htl⟩:∃ x,(p.r i).terms.length=x:=⟨_,rfl⟩;have HE:=bH (bI hsl (show vs.length<=1000 from hl));have i0:(0:Int)<=(i:Int):=by omega
 have i1:(i:Int)<(m:Int):=by omega
 have hmax:sl<=1000:=by omega
 obtain ⟨S,hS⟩:∃ S,covB p (p.r i) vs=S:=⟨_,rfl⟩;have HS:=bH hS;rw [hS,hn',hm',hsl,htl] at HCv;rw [htl] at HE0;rw [hsl] at HV;rw [hn',hm',hsl];generalize (p.r i).name=nm at *;generalize (p.r i).group=gr at *;generalize (p.r i).kind=rk at *;generalize (p.r i).bound=bd at *;clear hpv hpr hv hvs hin hn hl hi hok hT hn' hm' hsl htl hS hsm e0 e1 e2 e3 e4 HPr;have hxa:=(Ext.refl (fun _=>False) w).alloc (.cells #[.slice vo n vc,.slice (some ⟨rb,off,none⟩) m rc] 25);have hxb:=(Ext.refl (fun _=>False) (w.alloc (.cells #[.slice vo n vc,.slice (some ⟨rb,off,none⟩) m rc] 25))).alloc (.cells #[.int .i64 kd,.slice yo yn yc,.int .i64 i,.slice so sl sc] 29);have hxc:=(Ext.refl (fun _=>False) ((w.alloc (.cells #[.slice vo n vc,.slice (some ⟨rb,off,none⟩) m rc] 25)).alloc (.cells #[.int .i64 kd,.slice yo yn yc,.int .i64 i,.slice so sl sc] 29))).alloc (.cells #[.string ⟨#[]⟩,.int .i64 0,.int .i64 0,.slice none 0 0,.int .i64 0] 35);have hb1:=blk_keep (blk_alloc_at w (.cells #[.slice vo n vc,.slice (some ⟨rb,off,none⟩) m rc] 25)) (hxb.trans hxc);have hb2:blk (((w.alloc (.cells #[.slice vo n vc,.slice (some ⟨rb,off,none⟩) m rc] 25)).alloc (.cells #[.int .i64 kd,.slice yo yn yc,.int .i64 i,.slice so sl sc] 29)).alloc (.cells #[.string ⟨#[]⟩,.int .i64 0,.int .i64 0,.slice none 0 0,.int .i64 0] 35)) (w.heap.size+1)=some (.cells #[.int .i64 kd,.slice yo yn yc,.int .i64 i,.slice so sl sc] 29 (0,0)):=by
  have h:=blk_alloc_at (w.alloc (.cells #[.slice vo n vc,.slice (some ⟨rb,off,none⟩) m rc] 25)) (.cells #[.int .i64 kd,.slice yo yn yc,.int .i64 i,.slice so sl sc] 29);rw [World.size_alloc] at h;exact blk_keep h hxc
 have hb3:blk (((w.alloc (.cells #[.slice vo n vc,.slice (some ⟨rb,off,none⟩) m rc] 25)).alloc (.cells #[.int .i64 kd,.slice yo yn yc,.int .i64 i,.slice so sl sc] 29)).alloc (.cells #[.string ⟨#[]⟩,.int .i64 0,.int .i64 0,.slice none 0 0,.int .i64 0] 35)) (w.heap.size+1+1)=some (.cells #[.string ⟨#[]⟩,.int .i64 0,.int .i64 0,.slice none 0 0,.int .i64 0] 35 (0,0)):=by
  have h:=blk_alloc_at ((w.alloc (.cells #[.slice vo n vc,.slice (some ⟨rb,off,none⟩) m rc] 25)).alloc (.cells #[.int .i64 kd,.slice yo yn yc,.int .i64 i,.slice so sl sc] 29)) (.cells #[.string ⟨#[]⟩,.int .i64 0,.int .i64 0,.slice none 0 0,.int .i64 0] 35);rwa [World.size_alloc,World.size_alloc] at h
 have HB:=bH (bI hb1 (bI hb2 (bI hb3 (bI ((hxa.trans hxb).trans hxc) (show w.heap.size<=w.heap.size+1+1 by omega)))));clear hxa hxb hxc hb1 hb2 hb3;go_enter Tryz.func62,Tryz.ntmps62;go_upto_region 1 with fail;generalize ((w.alloc (.cells #[.slice vo n vc,.slice (some ⟨rb,off,none⟩) m rc] 25)).alloc (.cells #[.int .i64 kd,.slice yo yn yc,.int .i64 i,.slice so sl sc] 29)).alloc (.cells #[.string ⟨#[]⟩,.int .i64 0,.int .i64 0,.slice none 0 0,.int .i64 0] 35)=w1 at *;generalize w.heap.size+1+1=resb at *;generalize w.heap.size+1=cb at *;obtain ⟨pb,hpb⟩:∃ q,w.heap.size=q:=⟨_,rfl⟩;have HLo:=bH HB.o.2.2.2.2;rw [hpb] at HB ⊢;clear hpb;replace HCv:=bH (fun W (hW:XF w1 W)=>HCv.o W (HB.o.2.2.2.1.trans hW));have p0:=cq (cellq HB.o.1 0 rfl);have p1:=cq (cellq HB.o.1 1 rfl);have c2:=cq (cellq HB.o.2.1 2 rfl);have c3:=cq (cellq HB.o.2.1 3 rfl);have e0:=cq (cell_keep HE0.o.1 HB.o.2.2.2.1);have e1:=cq (cell_keep HE0.o.2.1 HB.o.2.2.2.1);have e2:=cq (cell_keep HE0.o.2.2.1 HB.o.2.2.2.1);have e3:=cq (cell_keep HE0.o.2.2.2.1 HB.o.2.2.2.1);have e4:=cq (cell_keep HE0.o.2.2.2.2 HB.o.2.2.2.1);refine wp_region_held_drew (S:=(XF w1)) (by kernel_rfl) ((Ext.refl _ w1).drew) (fun hHeld=>?_);refine ht 0 (h:=(ht 1 (h:=(ht 2 (h:=(ht 3 (h:=(ht 4 (h:=(ht 5 (h:=(ht 6 (h:=(ht 7 (h:=(ht 8 (h:=?_)))))))))))))))));(try go_frame);refine hst 9 (h:=fun K hK=>?_);(go_simp; go_at_call 76; (with_reducible refine (HCv.o _ hHeld).mono ?_); rintro q1 w2 ⟨rfl,hx2⟩; have hX2:=hHeld.trans hx2);refine hK.o _ _ (hX2) (fun hHeld=>?_);clear hK K;(try go_frame);refine ht 10 (h:=?_);(try go_frame);refine wpAnyH_done (by kernel_rfl) ?_ _;replace HB:=bH (bI (blk_keep HB.o.2.1 hX2) (bI (blk_keep HB.o.2.2.1 hX2) (HB.o.2.2.2.1.trans hX2)));clear p0 p1 c2 c3 e0 e1 e2 e3 e4 hX2 hx2 HCv hHeld;cases S with
 | false =>
  have HRP:=bH (show coverP p i vs=(row0,13) from by unfold coverP; rw [HS.o]; rfl);have y0:=free_of_cells HB.o.2.1;have z0:=cellq HB.o.2.1 0 rfl;have z1:=cellq HB.o.2.1 1 rfl;have z2:=cellq HB.o.2.1 2 rfl;have z3:=cellq HB.o.2.1 3 rfl;have z4:=cellq HB.o.2.1 4 rfl;have HP:=bH (row_put HB.o.2.1 (.string ⟨#[]⟩) (.int .i64 0) (.int .i64 0) (.slice none 0 0) (.int .i64 0));go_wp2;generalize ((((w2.setCell ⟨resb,0,none⟩ (.string ⟨#[]⟩)).setCell ⟨resb,1,none⟩ (.int .i64 0)).setCell ⟨resb,2,none⟩ (.int .i64 0)).setCell ⟨resb,3,none⟩ (.slice none 0 0)).setCell ⟨resb,4,none⟩ (.int .i64 0)=w9 at *;have g0:=cellq HP.o.1 0 rfl;have g1:=cellq HP.o.1 1 rfl;have g2:=cellq HP.o.1 2 rfl;have g3:=cellq HP.o.1 3 rfl;have g4:=cellq HP.o.1 4 rfl;exact bodyPost_ret (v:=.tuple #[.agg #[.string ⟨#[]⟩,.int .i64 0,.int .i64 0,.slice none 0 0,.int .i64 0],.int .i64 13]) (by simp [results,Tryz.results62,go_sem,g0,g1,g2,g3,g4]) rfl (by rw [HRP.o]; exact ⟨_,rfl,row0_tms _,HB.o.2.2.own HP.o.2 (fun k e=>by rw [e]; exact HLo.o),fun g hg=>by cases hg⟩)
 | true =>
  have HRP:=bH (show coverP p i vs=(⟨cutName,0,0,onesT vs,(vs.length:Int) - 1⟩,0) from by unfold coverP; rw [HS.o]; rfl);have c3:=cellq HB.o.1 3 rfl;have hwr:IntKind.i64.wrap ((sl:Int) - 1)=(sl:Int) - 1:=IntWalk.i64_in _ (by omega);obtain ⟨BD,hBD⟩:∃ x,(sl:Int) - 1=x:=⟨_,rfl⟩;rw [hBD] at hwr;have hxr:=(Ext.refl (fun _=>False) w2).alloc (.cells #[.string ⟨#[99,117,116]⟩,.int .i64 0,.int .i64 0,.slice none 0 0,.int .i64 BD] 35);have HVk:=bH (show VkSt w (w2.alloc (.cells #[.string ⟨#[99,117,116]⟩,.int .i64 0,.int .i64 0,.slice none 0 0,.int .i64 BD] 35)) cb resb w2.heap.size #[.int .i64 kd,.slice yo yn yc,.int .i64 i,.slice so sl sc] (.slice none 0 0) [] BD from
   ⟨HB.o.2.2.trans hxr,blk_keep HB.o.1 hxr,blk_keep HB.o.2.1 hxr,blk_alloc_at w2 _,World.ownsRow_nil _ _ _ 2,HLo.o,blk_lt HB.o.2.1⟩)
  clear hxr;go_upto_region 4 with fail;clear c3;generalize w2.alloc (.cells #[.string ⟨#[99,117,116]⟩,.int .i64 0,.int .i64 0,.slice none 0 0,.int .i64 BD] 35)=w3 at *;generalize w2.heap.size=rwb at *;have HBDe:=bH hBD;clear hBD hwr;have c3:=cellq HVk.o.cut 3 rfl;go_wp2_with fail;clear c3;go_loopg [29] sl (fun gg v29 wr=>∃ (k:Nat) (vt:Value),k<=sl/\gg=sl - k/\v29=.int .i64 k/\VkSt w wr cb resb rwb #[.int .i64 kd,.slice yo yn yc,.int .i64 i,.slice so sl sc] vt (onesT (vs.take k)) BD);case atStart=>exact ⟨0,_,Nat.zero_le _,rfl,rfl,HVk.o⟩
  case round =>
   clear HVk;obtain ⟨k,vt,hkk,rfl,rfl,hst⟩:=hrel;have HVk:=bH hst;clear hst;by_cases hkn:k<sl
   ·have k0:(k:Int)<(sl:Int):=(by omega);have k1:(0:Int)<=(k:Int):=(by omega);have hkl:k<vs.length:=(by rw [HE.o.1]; exact hkn);obtain ⟨b1,o1,rfl,e0⟩:=(HV.o.1.keep HVk.o.ext).at_ (i:=k) hkl;have HN:=bH (show onesT (vs.take (k+1))=onesT (vs.take k)++[⟨vs.getD k 0,1⟩] from by rw [take_snoc (d:=0) hkl,onesT_snoc]);generalize vs.getD k 0=v at *;have hxA:=(Ext.refl (fun _=>False) wr).alloc (.cells #[.int .i64 v,.int .i64 1] 70);have HKp:=bH (bI (HVk.o.keep hxA) (term_src wr ⟨v,1⟩));have HLn:=bH (show (onesT (vs.take k)).length<=1000 from by unfold onesT; rw [List.length_map,List.length_take]; have:=HE.o.2; omega);have t3:=cellq HVk.o.row 3 rfl;clear hxA hkl;go_wp2_with (at_builtin; refine wpList_append_el (f:=cT) rfl (.tmp 34) (.tmp 37) rfl cT_len' ⟨v,1⟩ (cT_one' _) Tryz.underlying33 Tryz.infoTerm rfl (by decide) (by decide) w.heap.size vt (onesT (vs.take k)) rfl HKp.o.1.own ⟨wr.heap.size,0,none⟩ 1 rfl HKp.o.2 (by have h1:=HLn.o; omega) HKp.o.1.ext.size ?_; intro v15 w15 g1 g2 g3; obtain ⟨to',tc',e15⟩:=ownsRow_shape g1; rw [List.length_append,List.length_singleton] at e15; subst e15; have HP:=bH (HKp.o.1.push g1 g2); clear g1 g2 g3; have q3:=cellq HP.o.2 3 rfl; have q4:=free_of_cells HP.o.2 3);go_roundg (sl - (k+1));case measure=>omega
    case rel=>exact ⟨k+1,_,by omega,rfl,by go_num,by rw [HN.o]; exact HP.o.1⟩
   ·obtain rfl:sl=k:=(by omega);have hkt:vs.take sl=vs:=(by rw [<- HE.o.1,List.take_length]);rw [hkt] at HVk;clear hkt;obtain ⟨to',tc',hvt⟩:=ownsRow_shape HVk.o.own;have hres:=HVk.o.res;have hrow:=HVk.o.row;have y0:=free_of_cells hres;have z0:=cellq hres 0 rfl;have z1:=cellq hres 1 rfl;have z2:=cellq hres 2 rfl;have z3:=cellq hres 3 rfl;have z4:=cellq hres 4 rfl;have r0:=cellq hrow 0 rfl;have r1:=cellq hrow 1 rfl;have r2:=cellq hrow 2 rfl;have r3:=cellq hrow 3 rfl;have r4:=cellq hrow 4 rfl;have HP:=bH (row_put hres (.string ⟨#[99,117,116]⟩) (.int .i64 0) (.int .i64 0) vt (.int .i64 BD));have HOw:=bH (ownsRow_ext HVk.o.own HP.o.2 (fun g hg e=>typ_ne' (own_ty HVk.o.own g hg) ⟨_,hres⟩ (by decide) e));have HXf:=bH (HVk.o.ext.own HP.o.2 (fun k e=>by have e':k=resb:=e; have h:=HVk.o.ord; omega));have HBf:=bH (show (vs.length:Int) - 1=BD from by rw [HE.o.1]; exact HBDe.o);clear hres hrow;subst hvt;go_wp2;generalize ((((wr.setCell ⟨resb,0,none⟩ (.string ⟨#[99,117,116]⟩)).setCell ⟨resb,1,none⟩ (.int .i64 0)).setCell ⟨resb,2,none⟩ (.int .i64 0)).setCell ⟨resb,3,none⟩ (.slice to' (onesT vs).length tc')).setCell ⟨resb,4,none⟩ (.int .i64 BD)=w9 at *;have g0:=cellq HP.o.1 0 rfl;have g1:=cellq HP.o.1 1 rfl;have g2:=cellq HP.o.1 2 rfl;have g3:=cellq HP.o.1 3 rfl;have g4:=cellq HP.o.1 4 rfl;exact bodyPost_ret (v:=.tuple #[.agg #[.string ⟨#[99,117,116]⟩,.int .i64 0,.int .i64 0,.slice to' (onesT vs).length tc',.int .i64 BD],.int .i64 0]) (by simp [results,Tryz.results62,go_sem,g0,g1,g2,g3,g4]) rfl (by rw [HRP.o,HBf.o]; exact ⟨_,rfl,⟨own_sl cT_len' HOw.o,HV.o.2⟩,HXf.o,fun g hg=>(World.ownsRow.lt HOw.o g hg).1⟩)
def lastO:Int->List Int->Int
 | last,[]=>last
 | _,v :: l=>lastO v l
theorem lastO_snoc:∀ (l:List Int) (last v:Int),lastO last (l++[v])=v
 | [],_,_=>rfl
 | u :: l,_,v=>lastO_snoc l u v
theorem incB_snoc {p:ProgV}:∀ (l:List Int) (last v:Int),incB p last (l++[v])=(incB p last l && (decide (lastO last l<v) && binB p v))
 | [],last,v=>by
  show (decide (last<v) && binB p v && true)=(true && _);rw [Bool.and_true,Bool.true_and]; rfl
 | u :: l,last,v=>by
  show (decide (last<u) && binB p u && incB p u (l++[v]))=(decide (last<u) && binB p u && incB p u l && (decide (lastO u l<v) && binB p v));rw [incB_snoc l u v,Bool.and_assoc,Bool.and_assoc,Bool.and_assoc]
theorem form1_any (w:World) (cb pb n m yn sl:Nat) (kd crow:Int) (vo ro yo so:Option Addr) (vc rc yc sc:Nat) (hc:blk w cb=some (.cells #[.int .i64 kd,.slice yo yn yc,.int .i64 crow,.slice so sl sc] 29 (0,0))) (hp:blk w pb=some (.cells #[.slice vo n vc,.slice ro m rc] 25 (0,0))) :
  Calls Tryz.prog 121 #[.pointer (some ⟨cb,0,none⟩),.pointer (some ⟨pb,0,none⟩)] w (BoolPost w (decide (crow=0) && (decide (sl=0) && decide (yn<=m)))):=by
 have c1:=cellq hc 1 rfl;have c2:=cellq hc 2 rfl;have c3:=cellq hc 3 rfl;have p1:=cellq hp 1 rfl;clear hc hp;by_cases h1:crow=0
 ·by_cases h2:sl=0
  ·by_cases h3:yn<=m
   ·have HE:=bH (show (decide (crow=0) && (decide (sl=0) && decide (yn<=m)))=true from by rw [decide_eq_true h1,decide_eq_true h2,decide_eq_true h3]; rfl);rw [HE.o];subst h1 h2;have h4:(yn:Int)<=(m:Int):=(by omega);go_enter Tryz.func121,Tryz.ntmps121;go_wp2;go_ret;exact ⟨ret_bool rfl,Ext.refl _ _⟩
   ·have HE:=bH (show (decide (crow=0) && (decide (sl=0) && decide (yn<=m)))=false from by rw [decide_eq_true h1,decide_eq_true h2,decide_eq_false h3]; rfl);rw [HE.o];subst h1 h2;have h4:¬ (yn:Int)<=(m:Int):=(by omega);have h5:decide (yn<=m)=false:=decide_eq_false h3;go_enter Tryz.func121,Tryz.ntmps121;go_wp2;go_ret;exact ⟨ret_bool rfl,Ext.refl _ _⟩
  ·have HE:=bH (show (decide (crow=0) && (decide (sl=0) && decide (yn<=m)))=false from by rw [decide_eq_true h1,decide_eq_false h2]; rfl);rw [HE.o];subst h1;have h4:¬ (sl:Int)=0:=(by omega);have h5:((sl:Int) == 0)=false:=(by simpa using h4);have h6:decide ((sl:Int)=0)=false:=decide_eq_false h4;have h7:(sl == 0)=false:=(by simpa using h2);have h8:decide (sl=0)=false:=decide_eq_false h2;go_enter Tryz.func121,Tryz.ntmps121;go_wp2;go_ret;exact ⟨ret_bool rfl,Ext.refl _ _⟩
 ·have HE:=bH (show (decide (crow=0) && (decide (sl=0) && decide (yn<=m)))=false from by rw [decide_eq_false h1]; rfl);rw [HE.o];have h5:(crow == 0)=false:=(by simpa using h1);have h6:decide (crow=0)=false:=decide_eq_false h1;go_enter Tryz.func121,Tryz.ntmps121;go_wp2;go_ret;exact ⟨ret_bool rfl,Ext.refl _ _⟩
def frm2 (yn m sl:Nat) (crow:Int):Bool:=decide (yn=0) && (decide (0<=crow) && (decide (crow<m) && decide (0<sl)))
theorem form2_any (w:World) (cb pb yn:Nat) (kd crow:Int) (vo ro yo so:Option Addr) (vc rc yc sc sl n m:Nat) (p:ProgV) (vs:List Int) (hn:p.vars.length=n) (hm:p.rows.length=m) (hsl:vs.length=sl) (hc:blk w cb=some (.cells #[.int .i64 kd,.slice yo yn yc,.int .i64 crow,.slice so sl sc] 29 (0,0))) (hp:blk w pb=some (.cells #[.slice vo n vc,.slice ro m rc] 25 (0,0)))
  (hpr:IsPrg w (.agg #[.slice vo n vc,.slice ro m rc]) p) (hv:Inz w (.slice so sl sc) vs) :
  Calls Tryz.prog 122 #[.pointer (some ⟨cb,0,none⟩),.pointer (some ⟨pb,0,none⟩)] w (BoolPost w (frm2 yn m sl crow && incB p (-1) vs)):=by
 have hsm:vs.length<=maxLen:=by obtain ⟨_,_,_,h⟩:=hv.shape; exact h
 have hsm2:(sl:Int)<=9223372036854775807:=by unfold maxLen at hsm; omega
 have HBn:=bH (fun W (hW:XF w W) v=>bin_any W _ p (hpr.keep hW) v);have HE:=bH (bI hsl (bI hc (bI hp hv)));clear hpr hsl hc hp hv hsm hn hm;go_enter Tryz.func122,Tryz.ntmps122;go_upto_region 1 with fail;obtain ⟨G0,hG0⟩:∃ x,frm2 yn m sl crow=x:=⟨_,rfl⟩;have HG0:=bH hG0;rw [hG0];clear hG0;go_cut [3,4] (fun v3 v4 wx=>v3=.int .i64 (-1)/\v4=.bool G0/\XF w wx);case first =>
  have c1:=cq (cellq HE.o.2.1 1 rfl);have c2:=cq (cellq HE.o.2.1 2 rfl);have c3:=cq (cellq HE.o.2.1 3 rfl);have p1:=cq (cellq HE.o.2.2.1 1 rfl);by_cases h1:yn=0
  ·by_cases h2:0<=crow
   ·by_cases h3:crow<m
    ·have HW:=bH (show G0=decide (0<sl) from by rw [<- HG0.o]; unfold frm2; rw [decide_eq_true h1,decide_eq_true h2,decide_eq_true h3]; rfl);subst h1;refine wp_region_held_drew (S:=(XF w)) (by kernel_rfl) ((Ext.refl _ w).drew) (fun hHeld=>?_);refine ht 0 (h:=(ht 1 (h:=(ht 2 (h:=(ht 3 (h:=(ht 4 (h:=?_)))))))));(try go_frame);refine ht 5 (h:=?_);(try go_frame);refine ht 6 (h:=?_);(try go_frame);refine ht 7 (h:=(ht 8 (h:=(ht 9 (h:=?_)))));(try go_frame);refine ht 10 (h:=?_);(try go_frame);refine ht 11 (h:=?_);(try go_frame);refine ht 12 (h:=?_);(try go_frame);refine ht 13 (h:=?_);(try go_frame);refine ht 14 (h:=?_);(try go_frame);refine ht 15 (h:=(ht 16 (h:=(ht 17 (h:=?_)))));(try go_frame);refine ht 18 (h:=?_);(try go_frame);refine ht 19 (h:=?_);(try go_frame);refine ht 20 (h:=?_);(try go_frame);refine ht 21 (h:=(ht 22 (h:=(ht 23 (h:=(ht 24 (h:=?_)))))));(try go_frame);refine wpAnyH_done (by kernel_rfl) ?_ _;go_wp2;go_meet;exact ⟨rfl,by rw [HW.o],hHeld⟩
    ·have HW:=bH (show G0=false from by rw [<- HG0.o]; unfold frm2; rw [decide_eq_true h1,decide_eq_true h2,decide_eq_false h3]; rfl);subst h1;have h4:decide (crow<m)=false:=decide_eq_false h3;refine wp_region_held_drew (S:=(XF w)) (by kernel_rfl) ((Ext.refl _ w).drew) (fun hHeld=>?_);refine ht 0 (h:=(ht 1 (h:=(ht 2 (h:=(ht 3 (h:=(ht 4 (h:=?_)))))))));(try go_frame);refine ht 5 (h:=?_);(try go_frame);refine ht 6 (h:=?_);(try go_frame);refine ht 7 (h:=(ht 8 (h:=(ht 9 (h:=?_)))));(try go_frame);refine ht 10 (h:=?_);(try go_frame);refine ht 11 (h:=?_);(try go_frame);refine ht 12 (h:=?_);(try go_frame);refine ht 13 (h:=?_);(try go_frame);refine ht 14 (h:=?_);(try go_frame);refine ht 15 (h:=(ht 16 (h:=(ht 17 (h:=?_)))));(try go_frame);refine hk 18 (h:=?_);(try go_frame);refine hk 19 (h:=?_);(try go_frame);refine hk 20 (h:=?_);(try go_frame);refine hk 21 (h:=(ht 22 (h:=(ht 23 (h:=(ht 24 (h:=?_)))))));(try go_frame);refine wpAnyH_done (by kernel_rfl) ?_ _;go_wp2;go_meet;exact ⟨rfl,by rw [HW.o],hHeld⟩
   ·have HW:=bH (show G0=false from by rw [<- HG0.o]; unfold frm2; rw [decide_eq_true h1,decide_eq_false h2]; rfl);subst h1;have h4:decide (0<=crow)=false:=decide_eq_false h2;refine wp_region_held_drew (S:=(XF w)) (by kernel_rfl) ((Ext.refl _ w).drew) (fun hHeld=>?_);refine ht 0 (h:=(ht 1 (h:=(ht 2 (h:=(ht 3 (h:=(ht 4 (h:=?_)))))))));(try go_frame);refine ht 5 (h:=?_);(try go_frame);refine ht 6 (h:=?_);(try go_frame);refine ht 7 (h:=(ht 8 (h:=(ht 9 (h:=?_)))));(try go_frame);refine hk 10 (h:=?_);(try go_frame);refine hk 11 (h:=?_);(try go_frame);refine hk 12 (h:=?_);(try go_frame);refine hk 13 (h:=?_);(try go_frame);refine hk 14 (h:=?_);(try go_frame);refine hk 15 (h:=(ht 16 (h:=(ht 17 (h:=?_)))));(try go_frame);refine hk 18 (h:=?_);(try go_frame);refine hk 19 (h:=?_);(try go_frame);refine hk 20 (h:=?_);(try go_frame);refine hk 21 (h:=(ht 22 (h:=(ht 23 (h:=(ht 24 (h:=?_)))))));(try go_frame);refine wpAnyH_done (by kernel_rfl) ?_ _;go_wp2;go_meet;exact ⟨rfl,by rw [HW.o],hHeld⟩
  ·have HW:=bH (show G0=false from by rw [<- HG0.o]; unfold frm2; rw [decide_eq_false h1]; rfl);have h4:¬ (yn:Int)=0:=(by omega);have h5:((yn:Int) == 0)=false:=(by simpa using h4);have h6:decide ((yn:Int)=0)=false:=decide_eq_false h4;have h7:(yn == 0)=false:=(by simpa using h1);have h8:decide (yn=0)=false:=decide_eq_false h1;refine wp_region_held_drew (S:=(XF w)) (by kernel_rfl) ((Ext.refl _ w).drew) (fun hHeld=>?_);refine ht 0 (h:=(ht 1 (h:=(ht 2 (h:=(ht 3 (h:=(ht 4 (h:=?_)))))))));(try go_frame);refine hk 5 (h:=?_);(try go_frame);refine hk 6 (h:=?_);(try go_frame);refine hk 7 (h:=(ht 8 (h:=(ht 9 (h:=?_)))));(try go_frame);refine hk 10 (h:=?_);(try go_frame);refine hk 11 (h:=?_);(try go_frame);refine hk 12 (h:=?_);(try go_frame);refine hk 13 (h:=?_);(try go_frame);refine hk 14 (h:=?_);(try go_frame);refine hk 15 (h:=(ht 16 (h:=(ht 17 (h:=?_)))));(try go_frame);refine hk 18 (h:=?_);(try go_frame);refine hk 19 (h:=?_);(try go_frame);refine hk 20 (h:=?_);(try go_frame);refine hk 21 (h:=(ht 22 (h:=(ht 23 (h:=(ht 24 (h:=?_)))))));(try go_frame);refine wpAnyH_done (by kernel_rfl) ?_ _;go_wp2;go_meet;exact ⟨rfl,by rw [HW.o],hHeld⟩
 case rest =>
 obtain ⟨rfl,rfl,hx1⟩:=hcut;have HX1:=bH hx1;have c3:=cell_keep (cellq HE.o.2.1 3 rfl) hx1;clear hx1;go_wp2_with fail;clear c3;go_loopg [33,3,4] sl (fun gg v33 v3 v4 wr=>∃ k:Nat,k<=sl/\gg=sl - k/\v33=.int .i64 k/\v3=.int .i64 (lastO (-1) (vs.take k))/\v4=.bool (G0 && incB p (-1) (vs.take k))/\XF w wr);case atStart=>exact ⟨0,Nat.zero_le _,rfl,rfl,rfl,(by show _=Value.bool (G0 && true); rw [Bool.and_true]),HX1.o⟩
 case round =>
  clear HX1;obtain ⟨k,hkk,rfl,rfl,rfl,rfl,hx⟩:=hrel;have HX:=bH hx;clear hx;by_cases hkn:k<sl
  ·have k0:(k:Int)<(sl:Int):=(by omega);have k1:(0:Int)<=(k:Int):=(by omega);have hkl:k<vs.length:=(by rw [HE.o.1]; exact hkn);obtain ⟨b1,o1,rfl,e0⟩:=(HE.o.2.2.2.keep HX.o).at_ (i:=k) hkl;have HN:=bH (bI (show lastO (-1) (vs.take (k+1))=vs.getD k 0 from by rw [take_snoc (d:=0) hkl,lastO_snoc]) (show incB p (-1) (vs.take (k+1))=(incB p (-1) (vs.take k) && (decide (lastO (-1) (vs.take k)<vs.getD k 0) && binB p (vs.getD k 0))) from by rw [take_snoc (d:=0) hkl,incB_snoc]));generalize vs.getD k 0=v at *;obtain ⟨L,hL⟩:∃ x,lastO (-1) (vs.take k)=x:=⟨_,rfl⟩;obtain ⟨G,hG⟩:∃ x,(G0 && incB p (-1) (vs.take k))=x:=⟨_,rfl⟩;have HGn:=bH (show (G0 && incB p (-1) (vs.take (k+1)))=(G && (decide (L<v) && binB p v)) from by rw [HN.o.2,<- hG,hL,Bool.and_assoc]);have HLn:=bH HN.o.1;rw [hL,hG];have p0:=cell_keep (cellq HE.o.2.2.1 0 rfl) HX.o;have p1:=cell_keep (cellq HE.o.2.2.1 1 rfl) HX.o;have HBv:=bH (HBn.o wr HX.o v);generalize binB p v=BV at *;clear hL hG hkl HN;go_upto_region 5 with fail;go_cut [4] (fun v4 wx=>v4=.bool (G && (decide (L<v) && BV))/\XF wr wx);case first =>
    cases G with
    | false =>
     go_wp2;go_meet;exact ⟨rfl,Ext.refl _ _⟩
    | true =>
     by_cases hlv:L<v
     ·have HD:=bH (show (true && (decide (L<v) && BV))=BV from by rw [decide_eq_true hlv]; rfl);go_wp2_with fail;refine HBv.o.mono ?_;rintro r2 w2 ⟨rfl,hx2⟩;go_wp2;go_meet;exact ⟨by rw [HD.o],hx2⟩
     ·have HD:=bH (show (true && (decide (L<v) && BV))=false from by rw [decide_eq_false hlv]; rfl);have h4:decide (L<v)=false:=decide_eq_false hlv;go_wp2;go_meet;exact ⟨by rw [HD.o],Ext.refl _ _⟩
   case rest =>
   obtain ⟨rfl,hx2⟩:=hcut;have HX2:=bH (HX.o.trans hx2);rw [<- HGn.o];clear hx2 e0 p0 p1;go_wp2;go_roundg (sl - (k+1));case measure=>omega
   case rel=>exact ⟨k+1,by omega,rfl,by go_num,by rw [HLn.o],rfl,HX2.o⟩
  ·obtain rfl:sl=k:=(by omega);have HT:=bH (show vs.take sl=vs from by rw [<- HE.o.1,List.take_length]);rw [HT.o];go_wp2;go_ret;exact ⟨ret_bool (by rw [HG0.o]),HX.o⟩
def IsCut (w:World) (v:Value) (c:CutV) (L:Nat):Prop:=∃ yv sv,v=.agg #[.int .i64 c.kind,yv,.int .i64 c.row,sv]/\Rats w yv c.mul L/\Inz w sv c.vars
theorem IsCut.keep {w w':World} {v:Value} {c:CutV} {L:Nat} (h:IsCut w v c L) (hx:XF w w'):IsCut w' v c L:=by
 obtain ⟨yv,sv,h1,h2,h3⟩:=h;exact ⟨yv,sv,h1,h2.keep hx,h3.keep hx⟩
theorem form_eq0 {p:ProgV} {c:CutV} (h:c.kind=0):formB p c=(decide (c.row=0) && (decide (c.vars.length=0) && decide (c.mul.length<=p.rows.length))):=by
 unfold formB;rw [if_pos h];congr 2;exact decide_eq_decide.2 List.length_eq_zero_iff.symm
theorem form_eq1 {p:ProgV} {c:CutV} (h:c.kind=1):formB p c=(frm2 c.mul.length p.rows.length c.vars.length c.row && incB p (-1) c.vars):=by
 unfold formB frm2;rw [if_neg (by rw [h]; decide),if_pos h];rw [show decide (c.mul=[])=decide (c.mul.length=0) from decide_eq_decide.2 List.length_eq_zero_iff.symm,show decide (c.vars≠[])=decide (0<c.vars.length) from decide_eq_decide.2 List.length_pos_iff.symm];simp only [Bool.and_assoc]
theorem form_any (w:World) (pv cv:Value) (p:ProgV) (c:CutV) (L:Nat) (hp:IsPrg w pv p) (hc:IsCut w cv c L):Calls Tryz.prog 63 #[pv,cv] w (BoolPost w (formB p c)):=by
 have HPr:=bH hp;obtain ⟨vv,rv,rfl,hpv,hpr⟩:=hp;obtain ⟨vo,vc,rfl,-,-,-⟩:=hpv.shape;obtain ⟨ro,rc,rfl,-,-,-⟩:=hpr.shape;obtain ⟨yv,sv,rfl,hy,hv⟩:=hc;obtain ⟨yo,yc,rfl,-,-,-⟩:=hy.shape;obtain ⟨so,sc,rfl,hsm⟩:=hv.shape;have HV:=bH hv;have HF0:=bH (form_eq0 (p:=p) (c:=c));have HF1:=bH (form_eq1 (p:=p) (c:=c));have HFn:=bH (show ¬ c.kind=0->¬ c.kind=1->formB p c=false from fun h0 h1=>by unfold formB; rw [if_neg h0,if_neg h1]);obtain ⟨kd,hkd⟩:∃ x,c.kind=x:=⟨_,rfl⟩;obtain ⟨crow,hcr⟩:∃ x,c.row=x:=⟨_,rfl⟩;obtain ⟨n,hn⟩:∃ x,p.vars.length=x:=⟨_,rfl⟩;obtain ⟨m,hm⟩:∃ x,p.rows.length=x:=⟨_,rfl⟩;obtain ⟨yn,hyn⟩:∃ x,c.mul.length=x:=⟨_,rfl⟩;obtain ⟨sl,hsl⟩:∃ x,c.vars.length=x:=⟨_,rfl⟩;have HE:=bH (bI hn (bI hm hsl));rw [hkd] at HF0 HF1 HFn;rw [hcr,hm,hyn,hsl] at HF0 HF1;rw [hkd,hcr,hn,hm,hyn,hsl];rw [hn,hm] at HPr;rw [hsl] at HV;clear hpv hpr hy hv hkd hcr hn hm hyn hsl hsm;have hxa:=(Ext.refl (fun _=>False) w).alloc (.cells #[.slice vo n vc,.slice ro m rc] 25);have hxb:=(Ext.refl (fun _=>False) (w.alloc (.cells #[.slice vo n vc,.slice ro m rc] 25))).alloc (.cells #[.int .i64 kd,.slice yo yn yc,.int .i64 crow,.slice so sl sc] 29);have hb2:blk ((w.alloc (.cells #[.slice vo n vc,.slice ro m rc] 25)).alloc (.cells #[.int .i64 kd,.slice yo yn yc,.int .i64 crow,.slice so sl sc] 29)) (w.heap.size+1)=some (.cells #[.int .i64 kd,.slice yo yn yc,.int .i64 crow,.slice so sl sc] 29 (0,0)):=by
  have h:=blk_alloc_at (w.alloc (.cells #[.slice vo n vc,.slice ro m rc] 25)) (.cells #[.int .i64 kd,.slice yo yn yc,.int .i64 crow,.slice so sl sc] 29);rwa [World.size_alloc] at h
 have HB:=bH (bI (blk_keep (blk_alloc_at w (.cells #[.slice vo n vc,.slice ro m rc] 25)) hxb) (bI hb2 (hxa.trans hxb)));clear hxa hxb hb2;go_enter Tryz.func63,Tryz.ntmps63;go_upto_region 1 with fail;generalize (w.alloc (.cells #[.slice vo n vc,.slice ro m rc] 25)).alloc (.cells #[.int .i64 kd,.slice yo yn yc,.int .i64 crow,.slice so sl sc] 29)=w4 at *;generalize w.heap.size+1=cb at *;obtain ⟨pb,hpb⟩:∃ q,w.heap.size=q:=⟨_,rfl⟩;rw [hpb] at HB ⊢;clear hpb;have hmm:=@run_makeMap Tryz.prog;obtain ⟨f1,hf1⟩:∃ f,(Value.func (.func 121) #[] #[.pointer (some ⟨cb,0,none⟩),.pointer (some ⟨pb,0,none⟩)])=f:=⟨_,rfl⟩;obtain ⟨f2,hf2⟩:∃ f,(Value.func (.func 122) #[] #[.pointer (some ⟨cb,0,none⟩),.pointer (some ⟨pb,0,none⟩)])=f:=⟨_,rfl⟩;obtain ⟨es1,cl1,hu1,hm1,hs1⟩:=run_update_int (P:=Tryz.prog) (b:=w4.heap.size) Tryz.underlying136 Tryz.underlying3 (show IntMap #[] [] from rfl) (stamped_empty 0) 0 f1;obtain ⟨es2,cl2,hu2,hm2,hs2⟩:=run_update_int (P:=Tryz.prog) (b:=w4.heap.size) Tryz.underlying136 Tryz.underlying3 hm1 hs1 1 f2;have hb1:=blk_setBlock_same (blk_alloc_at w4 (.map #[] 0)) (.map es1 cl1);have hb2:=blk_setBlock_same hb1 (.map es2 cl2);have hxm:XF w4 (setBlock (setBlock (w4.alloc (.map #[] 0)) w4.heap.size (.map es1 cl1)) w4.heap.size (.map es2 cl2)) :=
  (((Ext.refl _ w4).alloc _).setBlock _ _ (fun h=>absurd h (Nat.lt_irrefl _))).setBlock _ _ (fun h=>absurd h (Nat.lt_irrefl _))
 have HU:=bH (bI hu1 hu2);have HBs:=bH (bI hb1 hb2);have HM3:=bH hm2;have HXm:=bH hxm;clear hu1 hu2 hm1 hm2 hs1 hs2 hb1 hb2 hxm;go_upto_region 2 with fail;rw [HU.o.1 _ (blk_alloc_at w4 (.map #[] 0))];go_upto_region 2 with fail;rw [HU.o.2 _ HBs.o.1];go_upto_region 2 with fail;have HB5:=bH HBs.o.2;generalize setBlock (setBlock (w4.alloc (.map #[] 0)) w4.heap.size (.map es1 cl1)) w4.heap.size (.map es2 cl2)=w5 at *;have hlk:=fun s=>run_lookup_int (P:=Tryz.prog) Tryz.underlying136 Tryz.underlying3 HB5.o HM3.o (z:=.nilFunc) (Tryz.zeroValue30 w5) s false;generalize w4.heap.size=mk at *;replace HB:=bH (bI (blk_keep HB.o.1 HXm.o) (bI (blk_keep HB.o.2.1 HXm.o) (HB.o.2.2.trans HXm.o)));have c0:=cellq HB.o.2.1 0 rfl;clear HU HBs HM3 HXm HB5 hmm;have hlv:(Instr.lookup 136 (.map (some mk)) (.int .i64 kd) false).run Tryz.prog w5=.ok (if kd=0 then f1 else if kd=1 then f2 else .nilFunc) w5:=by
  rw [hlk kd];show Result.ok ((iget [(0,f1),(1,f2)] kd).getD .nilFunc) w5=_;congr 1;unfold iget iget iget;by_cases k0:kd=0
  ·rw [if_pos k0,if_pos k0.symm]; rfl
  ·rw [if_neg k0,if_neg (Ne.symm k0)];by_cases k1:kd=1
   ·rw [if_pos k1,if_pos k1.symm]; rfl
   ·rw [if_neg k1,if_neg (Ne.symm k1)]; rfl
 clear hlk;have hnil:∀ W:World,(binOp BinOp.neq 30 .nilFunc .nilFunc).run Tryz.prog W=.ok (.bool false) W:=fun _=>by kernel_rfl
 have hnn:∀ (g:Nat) (caps:Array Value) (W:World),(binOp BinOp.neq 30 (.func (.func g) #[] caps) .nilFunc).run Tryz.prog W=.ok (.bool true) W:=fun _ _ _=>by kernel_rfl
 have eg1:=enters_of Tryz.func121 (by kernel_rfl) rfl;have eg2:=enters_of Tryz.func122 (by kernel_rfl) rfl;by_cases k0:kd=0
 ·have HR:=bH (HF0.o k0);have HK:=bH (form1_any w5 cb pb n m yn sl kd crow vo ro yo so vc rc yc sc HB.o.2.1 HB.o.1);subst k0;rw [if_pos rfl] at hlv;subst hf1;go_wp2_with fail;refine HK.o.mono ?_;rintro r6 w6 ⟨rfl,hx6⟩;have HX6:=bH (HB.o.2.2.trans hx6);clear hx6 hlv c0;go_wp2;go_ret;exact ⟨ret_bool HR.o.symm,HX6.o⟩
 ·by_cases k1:kd=1
  ·have HR:=bH (HF1.o k1);have HK:=bH (form2_any w5 cb pb yn kd crow vo ro yo so vc rc yc sc sl n m p c.vars HE.o.1 HE.o.2.1 HE.o.2.2 HB.o.2.1 HB.o.1 (HPr.o.keep HB.o.2.2) (HV.o.keep HB.o.2.2));subst k1;rw [if_neg k0,if_pos rfl] at hlv;subst hf2;go_wp2_with fail;refine HK.o.mono ?_;rintro r6 w6 ⟨rfl,hx6⟩;have HX6:=bH (HB.o.2.2.trans hx6);clear hx6 hlv c0;go_wp2;go_ret;exact ⟨ret_bool HR.o.symm,HX6.o⟩
  ·have HR:=bH (HFn.o k0 k1);rw [if_neg k0,if_neg k1] at hlv;go_wp2;go_ret;exact ⟨ret_bool HR.o.symm,HB.o.2.2⟩
theorem Tms.pastB {S:Nat->Prop} {w w':World} {v:Value} {l:List TermV} (h:Tms w v l) (hx:Ext S w w') (hn:∀ g,v.ownBlock=some g->¬ S g):Tms w' v l:=by
 obtain ⟨⟨ao,c,rfl,h1,h2,h3,h4⟩,hok⟩:=h;refine ⟨⟨ao,c,rfl,h1,h2,h3,fun hp=>?_⟩,hok⟩;obtain ⟨b,off,rfl,hb,hc⟩:=h4 hp;exact ⟨b,off,rfl,Nat.lt_of_lt_of_le hb hx.size,fun i r hi j u hu=>(hx.cell (p:=⟨b,off+i*2+j,none⟩) hb (hn b rfl)).trans (hc i r hi j u hu)⟩
theorem form_kind {p:ProgV} {c:CutV} (h:formB p c=true):c.kind=0∨(c.kind=1/\0<=c.row/\c.row<p.rows.length/\∀ v ∈ c.vars,0<=v/\v<p.vars.length):=by
 by_cases h0:c.kind=0
 ·exact .inl h0
 ·right;unfold formB at h;rw [if_neg h0] at h;by_cases h1:c.kind=1
  ·rw [if_pos h1] at h;simp only [Bool.and_eq_true,decide_eq_true_eq] at h;exact ⟨h1,h.2.1,h.2.2.1,fun v hv=>⟨(binB_parts (incB_mem h.2.2.2.2 v hv).1).1,(binB_parts (incB_mem h.2.2.2.2 v hv).1).2.1⟩⟩
  ·rw [if_neg h1] at h; cases h
theorem valid_terms {p:ProgV} (hval:validB p=true) {i:Nat} (hi:i<p.rows.length):∀ t ∈ (p.r i).terms,0<=t.var/\t.var<p.vars.length:=fun t ht=>by
 obtain ⟨k,hkl,rfl⟩:=List.getElem_of_mem ht;have:=row_terms (valid_row hval hi) k hkl;unfold RowV.t at this;rw [getD_lt hkl] at this;exact this
structure CSmall (p:ProgV) (c:CutV):Prop where
 vars:p.vars.length<=6
 rows:p.rows.length<=8
 terms:∀ i,i<p.rows.length->(p.r i).terms.length<=12
 cut:c.vars.length<=1000
theorem derive_any (w:World) (pv cv:Value) (p:ProgV) (c:CutV) (hp:IsPrg w pv p) (hc:IsCut w cv c 10) (hval:validB p=true) (hs:CSmall p c):Calls Tryz.prog 34 #[pv,cv] w (DrvPost w (dervP p c)):=by
 have HFm:=bH (fun W (hW:XF w W)=>form_any W pv cv p c 10 (hp.keep hW) (hc.keep hW));have HPc:=bH (bI hp hc);obtain ⟨vv,rv,rfl,hpv,hpr⟩:=hp;obtain ⟨vo,vc,rfl,-,-,-⟩:=hpv.shape;obtain ⟨ro,rc,rfl,-,-,-⟩:=hpr.shape;obtain ⟨yv,sv,rfl,hy,hv⟩:=hc;obtain ⟨yo,yc,rfl,-,-,-⟩:=hy.shape;obtain ⟨so,sc,rfl,hsm⟩:=hv.shape;have HRd:=bH (fun W (hW:XF w W)=>round_any W _ _ (.slice so c.vars.length sc) p c.mul c.kind c.row (HPc.o.1.keep hW) (hy.keep hW) ⟨_,_,_,rfl⟩ hs.vars hs.rows hs.terms);have HCo:=bH (fun (i:Nat) (hi:i<p.rows.length) (hcr:c.row=i) (hvs:∀ v ∈ c.vars,0<=v/\v<p.vars.length) W (hW:XF w W)=>cover_any W _ (.slice yo c.mul.length yc) (.slice so c.vars.length sc) p c.kind i c.vars (HPc.o.1.keep hW) ⟨_,_,_,rfl⟩ (hv.keep hW) hi (valid_terms hval hi) hvs (by have:=hs.vars; omega) hs.cut);have HK:=bH (form_kind (p:=p) (c:=c));obtain ⟨FB,hFB⟩:∃ x,formB p c=x:=⟨_,rfl⟩;have HFB:=bH hFB;rw [hFB] at HFm HK;obtain ⟨kd,hkd⟩:∃ x,c.kind=x:=⟨_,rfl⟩;obtain ⟨crow,hcr⟩:∃ x,c.row=x:=⟨_,rfl⟩;obtain ⟨n,hn⟩:∃ x,p.vars.length=x:=⟨_,rfl⟩;obtain ⟨m,hm⟩:∃ x,p.rows.length=x:=⟨_,rfl⟩;obtain ⟨yn,hyn⟩:∃ x,c.mul.length=x:=⟨_,rfl⟩;obtain ⟨sl,hsl⟩:∃ x,c.vars.length=x:=⟨_,rfl⟩;have HE:=bH (bI hkd hcr);rw [hkd,hcr,hn,hm,hyn,hsl] at HFm HRd;rw [hkd,hn,hm,hyn,hsl,hcr] at HCo;rw [hkd,hcr,hm,hn] at HK;rw [hkd,hcr,hn,hm,hyn,hsl];clear hpv hpr hy hv hkd hcr hn hm hyn hsl hsm hFB hs hval HPc;have hxa:=(Ext.refl (fun _=>False) w).alloc (.cells #[.slice vo n vc,.slice ro m rc] 25);have hxb:=(Ext.refl (fun _=>False) (w.alloc (.cells #[.slice vo n vc,.slice ro m rc] 25))).alloc (.cells #[.int .i64 kd,.slice yo yn yc,.int .i64 crow,.slice so sl sc] 29);have hxc:=(Ext.refl (fun _=>False) ((w.alloc (.cells #[.slice vo n vc,.slice ro m rc] 25)).alloc (.cells #[.int .i64 kd,.slice yo yn yc,.int .i64 crow,.slice so sl sc] 29))).alloc (.cells #[.string ⟨#[]⟩,.int .i64 0,.int .i64 0,.slice none 0 0,.int .i64 0] 35);have hb1:=blk_keep (blk_alloc_at w (.cells #[.slice vo n vc,.slice ro m rc] 25)) (hxb.trans hxc);have hb2:blk (((w.alloc (.cells #[.slice vo n vc,.slice ro m rc] 25)).alloc (.cells #[.int .i64 kd,.slice yo yn yc,.int .i64 crow,.slice so sl sc] 29)).alloc (.cells #[.string ⟨#[]⟩,.int .i64 0,.int .i64 0,.slice none 0 0,.int .i64 0] 35)) (w.heap.size+1)=some (.cells #[.int .i64 kd,.slice yo yn yc,.int .i64 crow,.slice so sl sc] 29 (0,0)):=by
  have h:=blk_alloc_at (w.alloc (.cells #[.slice vo n vc,.slice ro m rc] 25)) (.cells #[.int .i64 kd,.slice yo yn yc,.int .i64 crow,.slice so sl sc] 29);rw [World.size_alloc] at h;exact blk_keep h hxc
 have hb3:blk (((w.alloc (.cells #[.slice vo n vc,.slice ro m rc] 25)).alloc (.cells #[.int .i64 kd,.slice yo yn yc,.int .i64 crow,.slice so sl sc] 29)).alloc (.cells #[.string ⟨#[]⟩,.int .i64 0,.int .i64 0,.slice none 0 0,.int .i64 0] 35)) (w.heap.size+1+1)=some (.cells #[.string ⟨#[]⟩,.int .i64 0,.int .i64 0,.slice none 0 0,.int .i64 0] 35 (0,0)):=by
  have h:=blk_alloc_at ((w.alloc (.cells #[.slice vo n vc,.slice ro m rc] 25)).alloc (.cells #[.int .i64 kd,.slice yo yn yc,.int .i64 crow,.slice so sl sc] 29)) (.cells #[.string ⟨#[]⟩,.int .i64 0,.int .i64 0,.slice none 0 0,.int .i64 0] 35);rwa [World.size_alloc,World.size_alloc] at h
 have HB:=bH (bI hb1 (bI hb2 (bI hb3 (bI ((hxa.trans hxb).trans hxc) (show w.heap.size<=w.heap.size+1+1 by omega)))));clear hxa hxb hxc hb1 hb2 hb3;go_enter Tryz.func34,Tryz.ntmps34;go_upto_region 1 with fail;generalize ((w.alloc (.cells #[.slice vo n vc,.slice ro m rc] 25)).alloc (.cells #[.int .i64 kd,.slice yo yn yc,.int .i64 crow,.slice so sl sc] 29)).alloc (.cells #[.string ⟨#[]⟩,.int .i64 0,.int .i64 0,.slice none 0 0,.int .i64 0] 35)=w4 at *;generalize w.heap.size+1+1=resb at *;generalize w.heap.size+1=cb at *;obtain ⟨pb,hpb⟩:∃ q,w.heap.size=q:=⟨_,rfl⟩;have HLo:=bH HB.o.2.2.2.2;rw [hpb] at HB ⊢;clear hpb;have hmm:=@run_makeMap Tryz.prog;obtain ⟨f1,hf1⟩:∃ f,(Value.func (.func 61) #[] #[])=f:=⟨_,rfl⟩;obtain ⟨f2,hf2⟩:∃ f,(Value.func (.func 62) #[] #[])=f:=⟨_,rfl⟩;obtain ⟨es1,cl1,hu1,hm1,hs1⟩:=run_update_int (P:=Tryz.prog) (b:=w4.heap.size) Tryz.underlying95 Tryz.underlying3 (show IntMap #[] [] from rfl) (stamped_empty 0) 0 f1;obtain ⟨es2,cl2,hu2,hm2,hs2⟩:=run_update_int (P:=Tryz.prog) (b:=w4.heap.size) Tryz.underlying95 Tryz.underlying3 hm1 hs1 1 f2;have hb1:=blk_setBlock_same (blk_alloc_at w4 (.map #[] 0)) (.map es1 cl1);have hb2:=blk_setBlock_same hb1 (.map es2 cl2);have hxm:XF w4 (setBlock (setBlock (w4.alloc (.map #[] 0)) w4.heap.size (.map es1 cl1)) w4.heap.size (.map es2 cl2)) :=
  (((Ext.refl _ w4).alloc _).setBlock _ _ (fun h=>absurd h (Nat.lt_irrefl _))).setBlock _ _ (fun h=>absurd h (Nat.lt_irrefl _))
 have HU:=bH (bI hu1 hu2);have HBs:=bH (bI hb1 hb2);have HM3:=bH hm2;have HXm:=bH hxm;clear hu1 hu2 hm1 hm2 hs1 hs2 hb1 hb2 hxm;go_upto_region 2 with fail;rw [HU.o.1 _ (blk_alloc_at w4 (.map #[] 0))];go_upto_region 2 with fail;rw [HU.o.2 _ HBs.o.1];go_upto_region 2 with fail;have HB5:=bH HBs.o.2;generalize setBlock (setBlock (w4.alloc (.map #[] 0)) w4.heap.size (.map es1 cl1)) w4.heap.size (.map es2 cl2)=w5 at *;generalize w4.heap.size=mk at *;replace HB:=bH (bI (blk_keep HB.o.1 HXm.o) (bI (blk_keep HB.o.2.1 HXm.o) (bI (blk_keep HB.o.2.2.1 HXm.o) (HB.o.2.2.2.1.trans HXm.o))));clear HU HBs HXm hmm;have p0:=cellq HB.o.1 0 rfl;have p1:=cellq HB.o.1 1 rfl;have c0:=cellq HB.o.2.1 0 rfl;have c1:=cellq HB.o.2.1 1 rfl;have c2:=cellq HB.o.2.1 2 rfl;have c3:=cellq HB.o.2.1 3 rfl;go_wp2_with fail;refine (HFm.o w5 HB.o.2.2.2).mono ?_;rintro r6 w7 ⟨rfl,hx7⟩;obtain ⟨esq,clq,hbq⟩:∃ es cl,blk w5 mk=some (.map es cl)/\IntMap es _:=⟨_,_,HB5.o,HM3.o⟩;have HB7:=bH (bI ((hx7.blk (blk_lt hbq.1) id).trans hbq.1) hbq.2);replace HB:=bH (bI (blk_keep HB.o.1 hx7) (bI (blk_keep HB.o.2.1 hx7) (bI (blk_keep HB.o.2.2.1 hx7) (HB.o.2.2.2.trans hx7))));clear p0 p1 c0 c1 c2 c3 hx7 HB5 HM3 hbq HFm;cases FB with
 | false =>
  have HR:=bH (show dervP p c=(row0,1) from by unfold dervP; rw [HFB.o]; rfl);have hres:=HB.o.2.2.1;have y0:=free_of_cells hres;have z0:=cellq hres 0 rfl;have z1:=cellq hres 1 rfl;have z2:=cellq hres 2 rfl;have z3:=cellq hres 3 rfl;have z4:=cellq hres 4 rfl;have HP:=bH (row_put hres (.string ⟨#[]⟩) (.int .i64 0) (.int .i64 0) (.slice none 0 0) (.int .i64 0));clear hres;go_wp2;generalize ((((w7.setCell ⟨resb,0,none⟩ (.string ⟨#[]⟩)).setCell ⟨resb,1,none⟩ (.int .i64 0)).setCell ⟨resb,2,none⟩ (.int .i64 0)).setCell ⟨resb,3,none⟩ (.slice none 0 0)).setCell ⟨resb,4,none⟩ (.int .i64 0)=w9 at *;have g0:=cellq HP.o.1 0 rfl;have g1:=cellq HP.o.1 1 rfl;have g2:=cellq HP.o.1 2 rfl;have g3:=cellq HP.o.1 3 rfl;have g4:=cellq HP.o.1 4 rfl;exact bodyPost_ret (v:=.tuple #[.agg #[.string ⟨#[]⟩,.int .i64 0,.int .i64 0,.slice none 0 0,.int .i64 0],.int .i64 1]) (by simp [results,Tryz.results34,go_sem,g0,g1,g2,g3,g4]) rfl (by rw [HR.o]; exact ⟨_,rfl,row0_tms _,HB.o.2.2.2.own HP.o.2 (fun k e=>by rw [e]; exact HLo.o),fun g hg=>by cases hg⟩)
 | true =>
  have hlk:=fun s=>run_lookup_int (P:=Tryz.prog) Tryz.underlying95 Tryz.underlying3 HB7.o.1 HB7.o.2 (z:=.nilFunc) (Tryz.zeroValue38 w7) s false;have p0:=cellq HB.o.1 0 rfl;have p1:=cellq HB.o.1 1 rfl;have c0:=cellq HB.o.2.1 0 rfl;have c1:=cellq HB.o.2.1 1 rfl;have c2:=cellq HB.o.2.1 2 rfl;have c3:=cellq HB.o.2.1 3 rfl;have hlv:(Instr.lookup 95 (.map (some mk)) (.int .i64 kd) false).run Tryz.prog w7=.ok (if kd=0 then f1 else if kd=1 then f2 else .nilFunc) w7:=by
   rw [hlk kd];show Result.ok ((iget [(0,f1),(1,f2)] kd).getD .nilFunc) w7=_;congr 1;unfold iget iget iget;by_cases k0:kd=0
   ·rw [if_pos k0,if_pos k0.symm]; rfl
   ·rw [if_neg k0,if_neg (Ne.symm k0)];by_cases k1:kd=1
    ·rw [if_pos k1,if_pos k1.symm]; rfl
    ·rw [if_neg k1,if_neg (Ne.symm k1)]; rfl
  clear hlk HB7;have eg1:=enters_of Tryz.func61 (by kernel_rfl) rfl;have eg2:=enters_of Tryz.func62 (by kernel_rfl) rfl;rcases HK.o rfl with k0 | ⟨k1,hr0,hr1,hvs⟩
  ·have HR:=bH (show dervP p c=roundP p c.mul from by unfold dervP; rw [HFB.o,if_pos rfl,if_pos (HE.o.1.trans k0)]);subst k0;rw [if_pos rfl] at hlv;subst hf1;go_wp2_with fail;refine (HRd.o w7 HB.o.2.2.2).mono ?_;rintro r6 w6 ⟨tv,rfl,htm,hx6,hge⟩;obtain ⟨tao,tac,rfl,-⟩:=htm.shape;have hres:=blk_keep HB.o.2.2.1 hx6;have HX6:=bH (bI (HB.o.2.2.2.trans hx6) (bI htm (bI hge (bI HB.o.2.2.2.size (blk_lt HB.o.2.2.1)))));clear htm hx6 hge;generalize roundP p c.mul=re at *;obtain ⟨⟨nm,gr,rk,ts,bd⟩,er⟩:=re;dsimp only at HX6;dsimp only;generalize ts.length=tl at *;have y0:=free_of_cells hres;have z0:=cellq hres 0 rfl;have z1:=cellq hres 1 rfl;have z2:=cellq hres 2 rfl;have z3:=cellq hres 3 rfl;have z4:=cellq hres 4 rfl;have HP:=bH (row_put hres (.string nm) (.int .i64 gr) (.int .i64 rk) (.slice tao tl tac) (.int .i64 bd));clear hres;go_wp2;generalize ((((w6.setCell ⟨resb,0,none⟩ (.string nm)).setCell ⟨resb,1,none⟩ (.int .i64 gr)).setCell ⟨resb,2,none⟩ (.int .i64 rk)).setCell ⟨resb,3,none⟩ (.slice tao tl tac)).setCell ⟨resb,4,none⟩ (.int .i64 bd)=w9 at *;have g0:=cellq HP.o.1 0 rfl;have g1:=cellq HP.o.1 1 rfl;have g2:=cellq HP.o.1 2 rfl;have g3:=cellq HP.o.1 3 rfl;have g4:=cellq HP.o.1 4 rfl;exact bodyPost_ret (v:=.tuple #[.agg #[.string nm,.int .i64 gr,.int .i64 rk,.slice tao tl tac,.int .i64 bd],.int .i64 er]) (by simp [results,Tryz.results34,go_sem,g0,g1,g2,g3,g4]) rfl (by
    rw [HR.o];exact ⟨_,rfl,HX6.o.2.1.pastB HP.o.2 (fun g hg e=>by have h1:=HX6.o.2.2.1 g hg; have h2:=HX6.o.2.2.2.2; have e':g=resb:=e; omega),HX6.o.1.own HP.o.2 (fun k e=>by rw [e]; exact HLo.o),fun g hg=>Nat.le_trans HX6.o.2.2.2.1 (HX6.o.2.2.1 g hg)⟩)
  ·have k0:¬ kd=0:=(by omega);obtain ⟨i,rfl⟩:∃ i:Nat,crow=i:=⟨crow.toNat,by omega⟩;have HR:=bH (show dervP p c=coverP p i c.vars from by
    unfold dervP coverP;rw [HFB.o,if_pos rfl,if_neg (by rw [HE.o.1]; exact k0),HE.o.2];rfl)
   have HCi:=bH (HCo.o i (by omega) rfl hvs w7 HB.o.2.2.2);subst k1;rw [if_neg k0,if_pos rfl] at hlv;subst hf2;clear hvs hr0 hr1;go_wp2_with fail;refine HCi.o.mono ?_;rintro r6 w6 ⟨tv,rfl,htm,hx6,hge⟩;obtain ⟨tao,tac,rfl,-⟩:=htm.shape;have hres:=blk_keep HB.o.2.2.1 hx6;have HX6:=bH (bI (HB.o.2.2.2.trans hx6) (bI htm (bI hge (bI HB.o.2.2.2.size (blk_lt HB.o.2.2.1)))));clear htm hx6 hge;generalize coverP p i c.vars=re at *;obtain ⟨⟨nm,gr,rk,ts,bd⟩,er⟩:=re;dsimp only at HX6;dsimp only;generalize ts.length=tl at *;have y0:=free_of_cells hres;have z0:=cellq hres 0 rfl;have z1:=cellq hres 1 rfl;have z2:=cellq hres 2 rfl;have z3:=cellq hres 3 rfl;have z4:=cellq hres 4 rfl;have HP:=bH (row_put hres (.string nm) (.int .i64 gr) (.int .i64 rk) (.slice tao tl tac) (.int .i64 bd));clear hres;go_wp2;generalize ((((w6.setCell ⟨resb,0,none⟩ (.string nm)).setCell ⟨resb,1,none⟩ (.int .i64 gr)).setCell ⟨resb,2,none⟩ (.int .i64 rk)).setCell ⟨resb,3,none⟩ (.slice tao tl tac)).setCell ⟨resb,4,none⟩ (.int .i64 bd)=w9 at *;have g0:=cellq HP.o.1 0 rfl;have g1:=cellq HP.o.1 1 rfl;have g2:=cellq HP.o.1 2 rfl;have g3:=cellq HP.o.1 3 rfl;have g4:=cellq HP.o.1 4 rfl;exact bodyPost_ret (v:=.tuple #[.agg #[.string nm,.int .i64 gr,.int .i64 rk,.slice tao tl tac,.int .i64 bd],.int .i64 er]) (by simp [results,Tryz.results34,go_sem,g0,g1,g2,g3,g4]) rfl (by
    rw [HR.o];exact ⟨_,rfl,HX6.o.2.1.pastB HP.o.2 (fun g hg e=>by have h1:=HX6.o.2.2.1 g hg; have h2:=HX6.o.2.2.2.2; have e':g=resb:=e; omega),HX6.o.1.own HP.o.2 (fun k e=>by rw [e]; exact HLo.o),fun g hg=>Nat.le_trans HX6.o.2.2.2.1 (HX6.o.2.2.1 g hg)⟩)
theorem Derive_any (w:World) (pv cv:Value) (p:ProgV) (c:CutV) (hp:IsPrg w pv p) (hc:IsCut w cv c 10) (hs:CSmall p c):Calls Tryz.prog 12 #[pv,cv] w (DrvPost w (deriveP p c)):=by
 have HVa:=bH (fun W (hW:XF w W)=>Valid_any W pv p (hp.keep hW));have HDv:=bH (fun (hval:validB p=true) W (hW:XF w W)=>derive_any W pv cv p c (hp.keep hW) (hc.keep hW) hval hs);obtain ⟨vv,rv,rfl,hpv,hpr⟩:=hp;obtain ⟨vo,vc,rfl,-,-,-⟩:=hpv.shape;obtain ⟨ro,rc,rfl,-,-,-⟩:=hpr.shape;obtain ⟨yv,sv,rfl,hy,hv⟩:=hc;obtain ⟨yo,yc,rfl,-,-,-⟩:=hy.shape;obtain ⟨so,sc,rfl,hsm⟩:=hv.shape;obtain ⟨VB,hVB⟩:∃ x,validB p=x:=⟨_,rfl⟩;have HVB:=bH hVB;rw [hVB] at HVa HDv;obtain ⟨kd,hkd⟩:∃ x,c.kind=x:=⟨_,rfl⟩;obtain ⟨crow,hcr⟩:∃ x,c.row=x:=⟨_,rfl⟩;obtain ⟨n,hn⟩:∃ x,p.vars.length=x:=⟨_,rfl⟩;obtain ⟨m,hm⟩:∃ x,p.rows.length=x:=⟨_,rfl⟩;obtain ⟨yn,hyn⟩:∃ x,c.mul.length=x:=⟨_,rfl⟩;obtain ⟨sl,hsl⟩:∃ x,c.vars.length=x:=⟨_,rfl⟩;rw [hn,hm] at HVa;rw [hkd,hcr,hn,hm,hyn,hsl] at HDv;rw [hkd,hcr,hn,hm,hyn,hsl];clear hpv hpr hy hv hkd hcr hn hm hyn hsl hsm hVB hs;have hxa:=(Ext.refl (fun _=>False) w).alloc (.cells #[.slice vo n vc,.slice ro m rc] 25);have hxb:=(Ext.refl (fun _=>False) (w.alloc (.cells #[.slice vo n vc,.slice ro m rc] 25))).alloc (.cells #[.int .i64 kd,.slice yo yn yc,.int .i64 crow,.slice so sl sc] 29);have hxc:=(Ext.refl (fun _=>False) ((w.alloc (.cells #[.slice vo n vc,.slice ro m rc] 25)).alloc (.cells #[.int .i64 kd,.slice yo yn yc,.int .i64 crow,.slice so sl sc] 29))).alloc (.cells #[.string ⟨#[]⟩,.int .i64 0,.int .i64 0,.slice none 0 0,.int .i64 0] 35);have hb1:=blk_keep (blk_alloc_at w (.cells #[.slice vo n vc,.slice ro m rc] 25)) (hxb.trans hxc);have hb2:blk (((w.alloc (.cells #[.slice vo n vc,.slice ro m rc] 25)).alloc (.cells #[.int .i64 kd,.slice yo yn yc,.int .i64 crow,.slice so sl sc] 29)).alloc (.cells #[.string ⟨#[]⟩,.int .i64 0,.int .i64 0,.slice none 0 0,.int .i64 0] 35)) (w.heap.size+1)=some (.cells #[.int .i64 kd,.slice yo yn yc,.int .i64 crow,.slice so sl sc] 29 (0,0)):=by
  have h:=blk_alloc_at (w.alloc (.cells #[.slice vo n vc,.slice ro m rc] 25)) (.cells #[.int .i64 kd,.slice yo yn yc,.int .i64 crow,.slice so sl sc] 29);rw [World.size_alloc] at h;exact blk_keep h hxc
 have hb3:blk (((w.alloc (.cells #[.slice vo n vc,.slice ro m rc] 25)).alloc (.cells #[.int .i64 kd,.slice yo yn yc,.int .i64 crow,.slice so sl sc] 29)).alloc (.cells #[.string ⟨#[]⟩,.int .i64 0,.int .i64 0,.slice none 0 0,.int .i64 0] 35)) (w.heap.size+1+1)=some (.cells #[.string ⟨#[]⟩,.int .i64 0,.int .i64 0,.slice none 0 0,.int .i64 0] 35 (0,0)):=by
  have h:=blk_alloc_at ((w.alloc (.cells #[.slice vo n vc,.slice ro m rc] 25)).alloc (.cells #[.int .i64 kd,.slice yo yn yc,.int .i64 crow,.slice so sl sc] 29)) (.cells #[.string ⟨#[]⟩,.int .i64 0,.int .i64 0,.slice none 0 0,.int .i64 0] 35);rwa [World.size_alloc,World.size_alloc] at h
 have HB:=bH (bI hb1 (bI hb2 (bI hb3 (bI ((hxa.trans hxb).trans hxc) (show w.heap.size<=w.heap.size+1+1 by omega)))));clear hxa hxb hxc hb1 hb2 hb3;go_enter Tryz.func12,Tryz.ntmps12;go_upto_region 1 with fail;generalize ((w.alloc (.cells #[.slice vo n vc,.slice ro m rc] 25)).alloc (.cells #[.int .i64 kd,.slice yo yn yc,.int .i64 crow,.slice so sl sc] 29)).alloc (.cells #[.string ⟨#[]⟩,.int .i64 0,.int .i64 0,.slice none 0 0,.int .i64 0] 35)=w4 at *;generalize w.heap.size+1+1=resb at *;generalize w.heap.size+1=cb at *;obtain ⟨pb,hpb⟩:∃ q,w.heap.size=q:=⟨_,rfl⟩;have HLo:=bH HB.o.2.2.2.2;rw [hpb] at HB ⊢;clear hpb;have p0:=cellq HB.o.1 0 rfl;have p1:=cellq HB.o.1 1 rfl;go_wp2_with fail;refine (HVa.o w4 HB.o.2.2.2.1).mono ?_;rintro r6 w7 ⟨rfl,hx7⟩;replace HB:=bH (bI (blk_keep HB.o.1 hx7) (bI (blk_keep HB.o.2.1 hx7) (bI (blk_keep HB.o.2.2.1 hx7) (HB.o.2.2.2.1.trans hx7))));clear p0 p1 hx7 HVa;cases VB with
 | false =>
  have HR:=bH (show deriveP p c=(row0,1) from by unfold deriveP; rw [HVB.o]; rfl);have hres:=HB.o.2.2.1;have y0:=free_of_cells hres;have z0:=cellq hres 0 rfl;have z1:=cellq hres 1 rfl;have z2:=cellq hres 2 rfl;have z3:=cellq hres 3 rfl;have z4:=cellq hres 4 rfl;have HP:=bH (row_put hres (.string ⟨#[]⟩) (.int .i64 0) (.int .i64 0) (.slice none 0 0) (.int .i64 0));clear hres;go_wp2;generalize ((((w7.setCell ⟨resb,0,none⟩ (.string ⟨#[]⟩)).setCell ⟨resb,1,none⟩ (.int .i64 0)).setCell ⟨resb,2,none⟩ (.int .i64 0)).setCell ⟨resb,3,none⟩ (.slice none 0 0)).setCell ⟨resb,4,none⟩ (.int .i64 0)=w9 at *;have g0:=cellq HP.o.1 0 rfl;have g1:=cellq HP.o.1 1 rfl;have g2:=cellq HP.o.1 2 rfl;have g3:=cellq HP.o.1 3 rfl;have g4:=cellq HP.o.1 4 rfl;exact bodyPost_ret (v:=.tuple #[.agg #[.string ⟨#[]⟩,.int .i64 0,.int .i64 0,.slice none 0 0,.int .i64 0],.int .i64 1]) (by simp [results,Tryz.results12,go_sem,g0,g1,g2,g3,g4]) rfl (by rw [HR.o]; exact ⟨_,rfl,row0_tms _,HB.o.2.2.2.own HP.o.2 (fun k e=>by rw [e]; exact HLo.o),fun g hg=>by cases hg⟩)
 | true =>
  have HR:=bH (show deriveP p c=dervP p c from by unfold deriveP; rw [HVB.o]; rfl);have p0:=cellq HB.o.1 0 rfl;have p1:=cellq HB.o.1 1 rfl;have c0:=cellq HB.o.2.1 0 rfl;have c1:=cellq HB.o.2.1 1 rfl;have c2:=cellq HB.o.2.1 2 rfl;have c3:=cellq HB.o.2.1 3 rfl;go_wp2_with fail;refine (HDv.o trivial w7 HB.o.2.2.2).mono ?_;rintro r6 w6 ⟨tv,rfl,htm,hx6,hge⟩;obtain ⟨tao,tac,rfl,-⟩:=htm.shape;have hres:=blk_keep HB.o.2.2.1 hx6;have HX6:=bH (bI (HB.o.2.2.2.trans hx6) (bI htm (bI hge (bI HB.o.2.2.2.size (blk_lt HB.o.2.2.1)))));clear htm hx6 hge;generalize dervP p c=re at *;obtain ⟨⟨nm,gr,rk,ts,bd⟩,er⟩:=re;dsimp only at HX6;dsimp only;generalize ts.length=tl at *;have y0:=free_of_cells hres;have z0:=cellq hres 0 rfl;have z1:=cellq hres 1 rfl;have z2:=cellq hres 2 rfl;have z3:=cellq hres 3 rfl;have z4:=cellq hres 4 rfl;have HP:=bH (row_put hres (.string nm) (.int .i64 gr) (.int .i64 rk) (.slice tao tl tac) (.int .i64 bd));clear hres;go_wp2;generalize ((((w6.setCell ⟨resb,0,none⟩ (.string nm)).setCell ⟨resb,1,none⟩ (.int .i64 gr)).setCell ⟨resb,2,none⟩ (.int .i64 rk)).setCell ⟨resb,3,none⟩ (.slice tao tl tac)).setCell ⟨resb,4,none⟩ (.int .i64 bd)=w9 at *;have g0:=cellq HP.o.1 0 rfl;have g1:=cellq HP.o.1 1 rfl;have g2:=cellq HP.o.1 2 rfl;have g3:=cellq HP.o.1 3 rfl;have g4:=cellq HP.o.1 4 rfl;exact bodyPost_ret (v:=.tuple #[.agg #[.string nm,.int .i64 gr,.int .i64 rk,.slice tao tl tac,.int .i64 bd],.int .i64 er]) (by simp [results,Tryz.results12,go_sem,g0,g1,g2,g3,g4]) rfl (by
   rw [HR.o];exact ⟨_,rfl,HX6.o.2.1.pastB HP.o.2 (fun g hg e=>by have h1:=HX6.o.2.2.1 g hg; have h2:=HX6.o.2.2.2.2; have e':g=resb:=e; omega),HX6.o.1.own HP.o.2 (fun k e=>by rw [e]; exact HLo.o),fun g hg=>Nat.le_trans HX6.o.2.2.2.1 (HX6.o.2.2.1 g hg)⟩)
def orL:List Int->Int
 | []=>0
 | a :: l=>if a=0 then orL l else a
theorem orL_skip:∀ {l:List Int} {k:Nat},k<=l.length->(∀ i,i<k->l.getD i 0=0)->orL l=orL (l.drop k)
 | _,0,_,_=>rfl
 | [],k+1,h,_=>by simp at h
 | a :: l,k+1,h,h0=>by
  have ha:a=0:=h0 0 (Nat.succ_pos _);show (if a=0 then orL l else a)=orL (l.drop k);rw [if_pos ha,orL_skip (k:=k) (Nat.le_of_succ_le_succ h) (fun i hi=>h0 (i+1) (by omega))]
theorem orL_hit {l:List Int} {k:Nat} (hk:k<l.length) (h0:∀ i,i<k->l.getD i 0=0) (h:¬ l.getD k 0=0):orL l=l.getD k 0:=by
 rw [orL_skip (Nat.le_of_lt hk) h0,List.drop_eq_getElem_cons hk];rw [getD_lt hk] at h ⊢;exact if_neg h
def IntPostV (w:World) (z:Int) (r:Ending) (w':World):Prop:=r=.returned (.int .i64 z)/\XF w w'
theorem Or_any (w:World) (v:Value) (l:List Int) (h:Inz w v l):Calls Tryz.prog 73 #[v] w (IntPostV w (orL l)):=by
 obtain ⟨ao,c,rfl,hsm⟩:=h.shape;have HH:=bH h;obtain ⟨n,hn⟩:∃ n,l.length=n:=⟨_,rfl⟩;have HN:=bH hn;rw [hn] at HH ⊢;have hsm2:(n:Int)<=9223372036854775807:=by unfold maxLen at hsm; omega
 clear h hn hsm;go_enter Tryz.func73,Tryz.ntmps73;go_wp2_with fail;go_loopg [8] n (fun gg v8 wr=>∃ k:Nat,k<=n/\gg=n - k/\v8=.int .i64 k/\(∀ i,i<k->l.getD i 0=0)/\XF w wr);case atStart=>exact ⟨0,Nat.zero_le _,rfl,rfl,fun i hi=>absurd hi (Nat.not_lt_zero i),Ext.refl _ _⟩
 case round =>
  obtain ⟨k,hkk,rfl,rfl,hall,hx⟩:=hrel;have HA:=bH (bI hall hx);clear hall hx;by_cases hkn:k<n
  ·have k0:(k:Int)<(n:Int):=(by omega);have k1:(0:Int)<=(k:Int):=(by omega);have hkl:k<l.length:=(by rw [HN.o]; exact hkn);obtain ⟨b1,o1,rfl,e0⟩:=(HH.o.keep HA.o.2).at_ (i:=k) hkl;have HO:=bH (fun h=>orL_hit hkl HA.o.1 h);obtain ⟨x,hxx⟩:∃ x,l.getD k 0=x:=⟨_,rfl⟩;have HXx:=bH hxx;rw [hxx] at e0 HO;clear hxx hkl;by_cases h0:x=0
   ·subst h0;go_wp2;go_roundg (n - (k+1));case measure=>omega
    case rel=>exact ⟨k+1,by omega,rfl,by go_num,fun i hi=>by
     by_cases e:i=k
     ·subst e; exact HXx.o
     ·exact HA.o.1 i (by omega),HA.o.2⟩
   ·have h2:(x != 0)=true:=(by simpa using h0);have h3:decide (x=0)=false:=decide_eq_false h0;have h4:(x == 0)=false:=(by simpa using h0);go_wp2;go_ret;exact ⟨by rw [HO.o h0]; rfl,HA.o.2⟩
  ·obtain rfl:n=k:=(by omega);have HO:=bH (show orL l=0 from by rw [orL_skip (Nat.le_of_eq HN.o.symm) HA.o.1,<- HN.o,List.drop_length]; rfl);go_wp2;go_ret;exact ⟨by rw [HO.o]; rfl,HA.o.2⟩
theorem two_inz {w:World} {s:Nat} {a b:Int} (h:blk w s=some (.cells #[.int .i64 a,.int .i64 b] 3 (0,0))):Inz w (.slice (some ⟨s,0,none⟩) 2 2) [a,b] :=
 IRow.inz (base:=0) ⟨rfl,.inr ⟨s,2,_,rfl,Nat.zero_le _,h,Nat.le_refl _,by unfold maxLen; decide,rfl,rfl⟩⟩
def cmpX (x:List Rat) (a b:Int):Int:=orL [(atQ x b - atQ x a).num.sign,a - b]
theorem cmpX_lt {x:List Rat} {a b:Int}:cmpX x a b<0↔bef x a b:=by
 unfold cmpX bef;show (if _=0 then (if a - b=0 then 0 else a - b) else _)<0↔_;have hs:=sign_lt (atQ x b - atQ x a);have hz:(atQ x b - atQ x a).num.sign=0↔atQ x a=atQ x b:=by
  have h:=sign_eq0 (atQ x b - atQ x a);rw [decide_eq_decide] at h;rw [h];constructor <;> intro h <;> grind
 generalize (atQ x b - atQ x a).num.sign=S at *;by_cases h0:S=0
 ·rw [if_pos h0];have he:=hz.1 h0;by_cases hab:a - b=0
  ·rw [if_pos hab];constructor
   ·intro h; omega
   ·rintro (h | ⟨_,h⟩)
    ·rw [he] at h; exact absurd h Rat.lt_irrefl
    ·omega
  ·rw [if_neg hab];constructor
   ·intro h; exact .inr ⟨he,by omega⟩
   ·rintro (h | ⟨_,h⟩)
    ·rw [he] at h; exact absurd h Rat.lt_irrefl
    ·omega
 ·rw [if_neg h0,hs];constructor
  ·intro h; exact .inl (by grind)
  ·rintro (h | ⟨h,_⟩)
   ·grind
   ·exact absurd (hz.2 h) h0
theorem min1_any (w:World) (xb:Nat) (xv:Value) (x:List Rat) (L:Nat) (hb:blk w xb=some (.cells #[xv] 26 (0,0))) (hx:Rats w xv x L) (h1:1<=L) (hL:L<=4194304) (a b:Int) (ha:0<=a/\a<=1000000) (hb0:0<=b/\b<=1000000) :
  Calls Tryz.prog 72 #[.int .i64 a,.int .i64 b,.pointer (some ⟨xb,0,none⟩)] w (IntPostV w (cmpX x a b)):=by
 have HA:=bH (fun W (hW:XF w W) (i:Int)=>cat_any W xv x L (hx.keep hW) b hb0.1);have HA2:=bH (fun W (hW:XF w W) (i:Int)=>cat_any W xv x L (hx.keep hW) a ha.1);have HC:=bH (fun W u v (hu:Rrat W u (atQ x b) L) (hv:Rrat W v (atQ x a) L)=>rcmp_any W u v _ _ L hu hv h1 hL);obtain ⟨xo,xc,rfl,-,-,-⟩:=hx.shape;have HE:=bH (show cmpX x a b=orL [(atQ x b - atQ x a).num.sign,a - b] from rfl);generalize (atQ x b - atQ x a).num.sign=S at *;have hwr:IntKind.i64.wrap (a - b)=a - b:=IntWalk.i64_in _ (by omega);obtain ⟨D,hD⟩:∃ D,a - b=D:=⟨_,rfl⟩;rw [hD] at hwr HE;rw [HE.o];generalize x.length=xn at *;have e0:=cq (cellq hb 0 rfl);clear hx hb ha hb0;go_enter Tryz.func72,Tryz.ntmps72;go_upto_region 1 with fail;refine wp_region_held_drew (S:=(XF w)) (by kernel_rfl) ((Ext.refl _ w).drew) (fun hHeld=>?_);refine ht 0 (h:=(ht 1 (h:=(ht 3 (h:=(ht 4 (h:=(ht 7 (h:=(ht 8 (h:=(ht 9 (h:=?_)))))))))))));(try go_frame);refine hst 2 (h:=fun K hK=>?_);(go_simp; go_at_call 75; (with_reducible refine (HA.o _ hHeld b).mono ?_); rintro q1 w11 ⟨v11,rfl,h11,hx11⟩; have hX1:=hHeld.trans hx11; have H11:=bH h11);refine hK.o _ _ (hX1) (fun hHeld=>?_);clear hK K;(try go_frame);refine hst 5 (h:=fun K hK=>?_);(go_simp; go_at_call 75; (with_reducible refine (HA2.o _ hX1 a).mono ?_); rintro q2 w12 ⟨v12,rfl,h12,hx12⟩; have hX2:=hX1.trans hx12; have H12:=bH (bI (H11.o.keep hx12) h12));refine hK.o _ _ (hX2) (fun hHeld=>?_);clear hK K;(try go_frame);refine hst 6 (h:=fun K hK=>?_);(go_simp; go_at_call 74; (with_reducible refine (HC.o _ _ _ H12.o.1 H12.o.2).mono ?_); rintro q3 w13 ⟨rfl,hx13⟩; have hX3:=hX2.trans hx13);refine hK.o _ _ (hX3) (fun hHeld=>?_);clear hK K;(try go_frame);refine hst 10 (h:=fun K hK=>?_);(go_simp; have HR:=bH (show Inz (w13.alloc (.cells #[.int .i64 S,.int .i64 D] 3)) (.slice (some ⟨w13.heap.size,0,none⟩) 2 2) [S,D] from two_inz (blk_alloc_at w13 _)); have hX4:=hX3.alloc (.cells #[.int .i64 S,.int .i64 D] 3); generalize w13.alloc (.cells #[.int .i64 S,.int .i64 D] 3)=w14 at *; generalize w13.heap.size=sb at *);refine hK.o _ _ (hX4) (fun hHeld=>?_);clear hK K;(try go_frame);refine hst 11 (h:=fun K hK=>?_);(go_simp; go_at_call 73; (with_reducible refine (Or_any _ _ _ HR.o).mono ?_); rintro q5 w15 ⟨rfl,hx15⟩; have hX5:=hX4.trans hx15);refine hK.o _ _ (hX5) (fun hHeld=>?_);clear hK K;(try go_frame);refine ht 12 (h:=?_);(try go_frame);refine wpAnyH_done (by kernel_rfl) ?_ _;go_wp2;go_ret;exact ⟨rfl,hX5⟩
def mvL (s:List Int) (x:Int) (rest:List Int) (j:Nat):List Int:=s.take j++x :: (s.drop j++rest)
theorem mvL_len (s:List Int) (x:Int) (rest:List Int) (j:Nat):(mvL s x rest j).length=s.length+1+rest.length:=by
 unfold mvL;rw [List.length_append,List.length_cons,List.length_append,List.length_take,List.length_drop];omega
theorem mvL_perm (s:List Int) (x:Int) (rest:List Int) (j:Nat):(mvL s x rest j).Perm (s++x :: rest):=by
 have h:(s.take j++x :: (s.drop j++rest)).Perm (x :: (s.take j++(s.drop j++rest))):=List.perm_middle;rw [<- List.append_assoc,List.take_append_drop] at h;exact h.trans List.perm_middle.symm
theorem mvL_top {s:List Int} {x:Int} {rest:List Int}:mvL s x rest s.length=s++x :: rest:=by
 unfold mvL; rw [List.take_length,List.drop_length]; rfl
theorem mvL_at {s:List Int} {x:Int} {rest:List Int} {j:Nat} (h:j<=s.length):(mvL s x rest j).getD j 0=x:=by
 unfold mvL;rw [List.getD_eq_getElem?_getD,List.getElem?_append_right (by rw [List.length_take]; omega),List.length_take,Nat.min_eq_left h,Nat.sub_self];rfl
theorem mvL_pre {s:List Int} {x:Int} {rest:List Int} {j:Nat} (h:j+1<=s.length):(mvL s x rest (j+1)).getD j 0=s.getD j 0:=by
 unfold mvL;rw [List.getD_eq_getElem?_getD,List.getElem?_append_left (by rw [List.length_take]; omega),List.getElem?_take_of_lt (by omega),<- List.getD_eq_getElem?_getD]
theorem mvL_swap {s:List Int} {x:Int} {rest:List Int} {j:Nat} (h:j+1<=s.length):((mvL s x rest (j+1)).set (j+1) (s.getD j 0)).set j x=mvL s x rest j:=by
 have hj:j<s.length:=by omega
 have e1:s.take (j+1)=s.take j++[s.getD j 0]:=take_snoc hj;have e2:s.drop j=s.getD j 0 :: s.drop (j+1):=by rw [List.drop_eq_getElem_cons hj,getD_lt hj]
 unfold mvL;rw [e1,e2];generalize s.getD j 0=y;have hl:(s.take j).length=j:=by rw [List.length_take]; omega
 generalize s.take j=A at *;rw [List.append_assoc,List.set_append_right _ _ (by omega),hl,show j+1 - j=1 by omega];show (A++([y]++x :: (s.drop (j+1)++rest)).set 1 y).set j x=_;rw [List.set_append_right _ _ (by omega),hl,Nat.sub_self];rfl
section
variable {R:Int->Int->Prop} {s:List Int} {x:Int} {rest:List Int} {j:Nat}
theorem mvL_sorted (ht:∀ a b c,R a b->R b c->R a c) (hto:∀ a b,a≠b->R a b∨R b a) (hs:s.Pairwise R) (hn:∀ u ∈ s,u≠x) (hj:j<=s.length) (h1:∀ u ∈ s.drop j,R x u) (h2:0<j->¬ R x (s.getD (j - 1) 0)):((mvL s x rest j).take (s.length+1)).Pairwise R:=by
 have e:(mvL s x rest j).take (s.length+1)=s.take j++x :: s.drop j:=by
  unfold mvL;rw [<- List.cons_append,<- List.append_assoc,List.take_append_of_le_length (by rw [List.length_append,List.length_cons,List.length_take,List.length_drop]; omega),List.take_of_length_le (by rw [List.length_append,List.length_cons,List.length_take,List.length_drop]; omega)]
 rw [e];have hsp:(s.take j++s.drop j).Pairwise R:=by rw [List.take_append_drop]; exact hs
 have hp:=List.pairwise_append.1 hsp;have hb:∀ u ∈ s.take j,R u x:=fun u hu=>by
  obtain ⟨i,hi,rfl⟩:=List.getElem_of_mem hu;have hi':i<j/\i<s.length:=(by rw [List.length_take] at hi; omega);rw [List.getElem_take];have hlast:=h2 (by omega);have hjl:j - 1<s.length:=(by omega);rw [getD_lt hjl] at hlast;have hlx:R s[j - 1] x:=(hto _ _ (hn _ (List.getElem_mem hjl))).resolve_right hlast;by_cases e:i=j - 1
  ·subst e; exact hlx
  ·exact ht _ _ _ (List.pairwise_iff_getElem.1 hs i (j - 1) hi'.2 hjl (by omega)) hlx
 refine List.pairwise_append.2 ⟨hp.1,List.pairwise_cons.2 ⟨h1,hp.2.1⟩,fun a ha b hbm=>?_⟩;rcases List.mem_cons.1 hbm with rfl | hbm
 ·exact hb a ha
 ·exact hp.2.2 a ha b hbm
end
theorem split_at {l:List Int} {i:Nat} (h:i<l.length):l.take i++l.getD i 0 :: l.drop (i+1)=l:=by
 rw [getD_lt h,<- List.drop_eq_getElem_cons h,List.take_append_drop]
theorem IRow.set {w:World} {base g n c:Nat} {l:List Int} (h:IRow w base (.slice (some ⟨g,0,none⟩) n c) l) {k:Nat} (hk:k<l.length) (x:Int):IRow (w.setCell ⟨g,k,none⟩ (.int .i64 x)) base (.slice (some ⟨g,0,none⟩) n c) (l.set k x)/\w.frozen? ⟨g,k,none⟩=false/\w.cell? ⟨g,k,none⟩=some (.int .i64 (l.getD k 0)):=by
 rcases h.2 with ⟨e,h0⟩ | ⟨g',cap,cur,e,hb,hg,hnc,hcm,hcs,htake⟩
 ·cases e
 ·cases e;have hget:(cur.toList.take (l.length*1))[k]?=some (.int .i64 (l.getD k 0)):=by
   rw [htake,List.getElem?_map,List.getElem?_eq_getElem hk,getD_lt hk]; rfl
  refine ⟨?_,free_of_cells hg _,?_⟩
  ·refine ⟨by rw [List.length_map,Nat.mul_one],.inr ⟨g,c,_,by rw [List.length_set],hb,blk_setCell_same hg k (.int .i64 x),by rw [List.length_set]; exact hnc,hcm,by rw [Array.size_setIfInBounds]; exact hcs,?_⟩⟩;rw [List.length_set,Array.toList_setIfInBounds,List.take_set,htake,List.map_set]
  ·rw [cell_of_cells hg,<- Array.getElem?_toList,<- hget,List.getElem?_take_of_lt (by omega)]
theorem IRow.keep {w w':World} {base:Nat} {v:Value} {l:List Int} (h:IRow w base v l) (hx:XF w w'):IRow w' base v l:=ownsRow_ext h hx (fun _ _ e=>e)
structure CmpC (w0:World) (g F:Nat) (caps:Array Value) (cf:Int->Int->Int) (l0:List Int):Prop where
 enters:∀ args W,(callFunc F args).run Tryz.prog W=.ok (.enter F args) W
 call:∀ W,Ext (fun k=>k=g) w0 W->∀ a ∈ l0,∀ b ∈ l0,Calls Tryz.prog F (#[.int .i64 a,.int .i64 b]++caps) W (IntPostV W (cf a b))
 trans:∀ a b c,cf a b<0->cf b c<0->cf a c<0
 total:∀ a b,a≠b->cf a b<0∨cf b a<0
def SrtPost (w:World) (g n c:Nat) (cf:Int->Int->Int) (l0:List Int) (r:Ending) (w':World):Prop :=
 r=.returned (.tuple #[])/\∃ l,l.Perm l0/\l.Pairwise (fun a b=>cf a b<0)/\IRow w' 0 (.slice (some ⟨g,0,none⟩) n c) l/\Ext (fun k=>k=g) w w'
theorem insS_any (w:World) (g n c F:Nat) (caps:Array Value) (cf:Int->Int->Int) (l0:List Int) (hC:CmpC w g F caps cf l0) (hr:IRow w 0 (.slice (some ⟨g,0,none⟩) n c) l0) (hl:l0.length=n) (hnd:l0.Nodup) (hn:n<=12) :
  Calls Tryz.prog 176 #[.slice (some ⟨g,0,none⟩) n c,.int .i64 0,.int .i64 n,.func (.func F) #[] caps] w (SrtPost w g n c cf l0):=by
 have HC:=bH hC;have HR:=bH hr;have HL:=bH (bI hl hnd);have eg:=hC.enters;clear hC hr hl hnd;go_enter Tryz.func176,Tryz.ntmps176;go_wp2_with fail;go_loopg [8] n (fun gg v8 wr=>∃ (i:Nat) (l:List Int),1<=i/\i<=n+1/\gg=n+1 - i/\v8=.int .i64 i/\l.Perm l0/\(l.take i).Pairwise (fun a b=>cf a b<0)/\IRow wr 0 (.slice (some ⟨g,0,none⟩) n c) l/\Ext (fun k=>k=g) w wr);case atStart=>exact ⟨1,l0,Nat.le_refl _,by omega,by omega,by go_num,List.Perm.refl _,(by cases l0 with | nil=>exact List.Pairwise.nil | cons a l=>exact List.pairwise_singleton _ _),HR.o,Ext.refl _ _⟩
 case round =>
  clear HR;obtain ⟨i,l,hi1,hi2,rfl,rfl,hp,hs,hr,hx⟩:=hrel;have HS:=bH (bI hp (bI hs (bI hr hx)));clear hp hs hr hx;by_cases hin:i<n
  ·have i0:(i:Int)<(n:Int):=(by omega);have hll:l.length=n:=(by rw [HS.o.1.length_eq]; exact HL.o.1);have hil:i<l.length:=(by omega);have hsl:(l.take i).length=i:=(by rw [List.length_take]; omega);have HNd:=bH (show ∀ u ∈ l.take i,u≠l.getD i 0 from by
    have h1:=HS.o.1.nodup_iff.2 HL.o.2;rw [<- split_at hil] at h1;exact fun u hu e=>(List.nodup_append.1 h1).2.2 u hu _ (List.mem_cons_self ..) e)
   have HMv:=bH (show mvL (l.take i) (l.getD i 0) (l.drop (i+1)) i=l from by
    have h:=mvL_top (s:=l.take i) (x:=l.getD i 0) (rest:=l.drop (i+1));rw [hsl] at h;rw [h,split_at hil])
   have HPm:=bH (show ∀ j,(mvL (l.take i) (l.getD i 0) (l.drop (i+1)) j).Perm l0 from fun j=>(mvL_perm _ _ _ j).trans (by rw [split_at hil]; exact HS.o.1));have HXm:=bH (show l.getD i 0 ∈ l0 from HS.o.1.mem_iff.1 (by rw [getD_lt hil]; exact List.getElem_mem _));have HSm:=bH (show ∀ j,j<i->(l.take i).getD j 0 ∈ l0 from fun j hj=>HS.o.1.mem_iff.1 (List.mem_of_mem_take (by rw [getD_lt (by omega)]; exact List.getElem_mem _)));have HSl:=bH (bI hsl (show (l.take i).length+1+(l.drop (i+1)).length=n from by rw [hsl,List.length_drop]; omega));have HSo:=bH HS.o.2.1;have HR:=bH HS.o.2.2;rw [<- HMv.o] at HR;clear hll hil hsl HMv HS;generalize l.getD i 0=x at *;generalize l.drop (i+1)=rest at *;generalize l.take i=s at *;go_upto_region 3 with fail;go_wp2_with fail;go_loopg [9] i (fun gg v9 wj=>∃ j:Nat,j<=i/\gg=j/\v9=.int .i64 j/\(∀ u ∈ s.drop j,cf x u<0)/\IRow wj 0 (.slice (some ⟨g,0,none⟩) n c) (mvL s x rest j)/\Ext (fun k=>k=g) w wj);case atStart=>exact ⟨i,Nat.le_refl _,rfl,rfl,(by rw [<- HSl.o.1,List.drop_length]; intro u hu; cases hu),HR.o.1,HR.o.2⟩
   case round =>
    clear HR;obtain ⟨j,hji,hgj,rfl,hdr,hrw,hxj⟩:=hrel;have HDr:=bH hdr;have HRw:=bH hrw;have HXj:=bH hxj;clear hdr hrw hxj;obtain ⟨wj,rfl⟩:∃ q,q=wr:=⟨_,rfl⟩;by_cases hj0:j=0
    ·subst hj0;have HNx:=bH (show (mvL s x rest 0).Perm l0/\((mvL s x rest 0).take (i+1)).Pairwise (fun a b=>cf a b<0) from ⟨HPm.o 0,by
      have h:=mvL_sorted (rest:=rest) HC.o.trans HC.o.total HSo.o HNd.o (Nat.zero_le _) HDr.o (fun h=>absurd h (Nat.lt_irrefl 0));rwa [HSl.o.1] at h⟩)
     go_upto_region 4 with fail;refine wp_region_held_drew (S:=(XF wj)) (by kernel_rfl) ((Ext.refl _ wj).drew) (fun hHeld=>?_);refine ht 0 (h:=(ht 1 (h:=(ht 2 (h:=(ht 3 (h:=?_)))))));(try go_frame);refine hk 4 (h:=?_);(try go_frame);refine hk 5 (h:=?_);(try go_frame);refine hk 6 (h:=?_);(try go_frame);refine hk 7 (h:=?_);(try go_frame);refine hk 8 (h:=?_);(try go_frame);refine hk 9 (h:=?_);(try go_frame);refine hk 10 (h:=?_);(try go_frame);refine hk 11 (h:=?_);(try go_frame);refine hk 12 (h:=?_);(try go_frame);refine hk 13 (h:=?_);(try go_frame);refine hk 14 (h:=?_);(try go_frame);refine hk 15 (h:=(ht 16 (h:=?_)));(try go_frame);refine wpAnyH_done (by kernel_rfl) ?_ _;go_wp2;go_roundg (n - i);case measure=>omega
     case rel=>exact ⟨i+1,mvL s x rest 0,by omega,by omega,by omega,by go_num,HNx.o.1,HNx.o.2,HRw.o.keep hHeld,HXj.o.trans hHeld.none⟩
    ·obtain ⟨k,rfl⟩:∃ k,j=k+1:=⟨j - 1,by omega⟩;have hk1:k+1<=s.length:=(by rw [HSl.o.1]; exact hji);have hlen:=mvL_len s x rest (k+1);have hlm:(mvL s x rest (k+1)).length=n:=(by rw [hlen]; exact HSl.o.2);have hc1:=(HRw.o.set (k:=k+1) (by omega) 0).2;have hc0:=(HRw.o.set (k:=k) (by omega) 0).2;rw [mvL_at hk1] at hc1;rw [mvL_pre hk1] at hc0;have HYm:=bH (HSm.o k (by omega));have HSw:=bH (mvL_swap (x:=x) (rest:=rest) hk1);have HSt:=bH (fun (h:¬ cf x (s.getD k 0)<0)=>mvL_sorted (rest:=rest) HC.o.trans HC.o.total HSo.o HNd.o hk1 HDr.o (fun _=>h));have HDn:=bH (fun (h:cf x (s.getD k 0)<0) u (hu:u ∈ s.drop k)=>show cf x u<0 from by
      rw [List.drop_eq_getElem_cons (show k<s.length by omega)] at hu;rcases List.mem_cons.1 hu with rfl | hu
      ·rwa [getD_lt (show k<s.length by omega)] at h
      ·exact HDr.o u hu)
     obtain ⟨y,hy⟩:∃ y,s.getD k 0=y:=⟨_,rfl⟩;rw [hy] at hc0 HYm HSw HSt HDn;have HFz:=bH (bI hc1.1 hc0.1);have e1:=cq hc1.2;have e0:=cq hc0.2;have HCm:=bH (fun W (hW:XF wj W)=>HC.o.call W (HXj.o.trans hW.none) x HXm.o y HYm.o);obtain ⟨S,hS⟩:∃ S,cf x y=S:=⟨_,rfl⟩;rw [hS] at HSt HDn HCm;have k0:(0:Int)<=(k:Int)+1:=(by omega);have k1:(k:Int)+1<(n:Int):=(by omega);have k2:IntKind.i64.wrap (k:Int)=(k:Int):=IntWalk.i64_in _ (by omega);have k3:(k:Int)<(n:Int):=(by omega);have k4:(0:Int)<(k:Int)+1:=(by omega);clear hy hc1 hc0 hS hlen hk1;go_upto_region 4 with fail;go_cut [34] (fun v34 wx=>v34=.bool (decide (S<0))/\XF wj wx);case first =>
      refine wp_region_held_drew (S:=(XF wj)) (by kernel_rfl) ((Ext.refl _ wj).drew) (fun hHeld=>?_);refine ht 0 (h:=(ht 1 (h:=(ht 2 (h:=(ht 3 (h:=?_)))))));(try go_frame);refine ht 4 (h:=?_);(try go_frame);refine ht 5 (h:=?_);(try go_frame);refine ht 6 (h:=?_);(try go_frame);refine ht 7 (h:=?_);(try go_frame);refine ht 8 (h:=?_);(try go_frame);refine ht 9 (h:=?_);(try go_frame);refine ht 10 (h:=?_);(try go_frame);refine ht 11 (h:=?_);(try go_frame);refine ht 12 (h:=?_);(try go_frame);refine ht 13 (h:=?_);(try go_frame);refine hst 14 (h:=fun K hK=>?_);(go_simp; (with_reducible refine (HCm.o _ hHeld).mono ?_); rintro q1 w11 ⟨rfl,hx11⟩; have hX1:=hHeld.trans hx11);refine hK.o _ _ (hX1) (fun hHeld=>?_);clear hK K;(try go_frame);refine ht 15 (h:=(ht 16 (h:=?_)));(try go_frame);refine wpAnyH_done (by kernel_rfl) ?_ _;go_wp2;go_meet;exact ⟨rfl,hX1⟩
     case rest =>
     obtain ⟨rfl,hxc⟩:=hcut;obtain ⟨w3,rfl⟩:∃ q,q=wc:=⟨_,rfl⟩;replace HRw:=bH (HRw.o.keep hxc);replace HXj:=bH (HXj.o.trans hxc.none);replace e1:=cq (e1 _ hxc);replace e0:=cq (e0 _ hxc);clear HFz hxc;by_cases hS0:S<0
     ·obtain ⟨hA,hA1,-⟩:=HRw.o.set (k:=k+1) (by omega) y;obtain ⟨hB,hB1,-⟩:=hA.set (k:=k) (by rw [List.length_set]; omega) x;rw [HSw.o] at hB;have HNw:=bH (bI hB (bI hA1 hB1));clear hA hB;have HDk:=bH (HDn.o hS0);have hSd:decide (S<0)=true:=decide_eq_true hS0;rw [hSd];clear hA1 hB1 HSt HDn HCm;go_upto_region 6 with fail;refine mbegin 15 (XF w3) (by kernel_rfl) ((Ext.refl _ w3).drew) (fun hHeld=>?_);refine mu 0 (h:=(mu 1 (h:=(mf 2 (h:=(mf 3 (h:=(mf 4 (h:=(mu 5 (h:=(mu 6 (h:=(mu 7 (h:=(mu 8 (h:=(mu 9 (h:=(mu 10 (h:=(mu 11 (h:=(mu 12 (h:=(mu 13 (h:=(mu 14 (h:=?_)))))))))))))))))))))))))))));(try go_frame);have tf0:=HNw.o.2.1;have e1r:=e1 _ (Ext.refl _ w3);refine ml 15 (h:=fun K hK=>?_);go_simp;refine hK.o _ _ ?_;clear hK K;(try go_frame);refine ml 16 (h:=fun K hK=>?_);go_simp;refine hK.o _ _ ?_;clear hK K;(try go_frame);clear tf0 e1r;have e0r:=e0 _ (Ext.refl _ w3);have tf1:=HNw.o.2.2;refine ml 17 (h:=fun K hK=>?_);go_simp;refine hK.o _ _ ?_;clear hK K;(try go_frame);refine mdone (by kernel_rfl) ?_ _;go_wp2;go_roundg k;case measure=>omega
      case rel=>exact ⟨k,by omega,by omega,by go_num,HDk.o,HNw.o.1.keep ((Ext.refl (fun _=>False) _).drew),HXj.o.trans ((((Ext.refl (fun k=>k=g) w3).setCell _ (fun _=>rfl)).setCell _ (fun _=>rfl)).drew)⟩
     ·have hSd:decide (S<0)=false:=decide_eq_false hS0;have HNx:=bH (show (mvL s x rest (k+1)).Perm l0/\((mvL s x rest (k+1)).take (i+1)).Pairwise (fun a b=>cf a b<0) from ⟨HPm.o (k+1),by
       have h:=HSt.o hS0;rwa [HSl.o.1] at h⟩)
      rw [hSd];clear HSt HDn HCm;go_wp2;go_roundg (n - i);case measure=>omega
      case rel=>exact ⟨i+1,mvL s x rest (k+1),by omega,by omega,by omega,by go_num,HNx.o.1,HNx.o.2,HRw.o,HXj.o⟩
  ·have HT:=bH (show l.take i=l from List.take_of_length_le (by rw [HS.o.1.length_eq,HL.o.1]; omega));have i0:¬ (i:Int)<(n:Int):=(by omega);have HF:=bH (show l.Pairwise (fun a b=>cf a b<0) from by have h:=HS.o.2.1; rwa [HT.o] at h);go_wp2;go_end0;exact ⟨rfl,l,HS.o.1,HF.o,HS.o.2.2.1,HS.o.2.2.2⟩
theorem blen64_any (w:World) (n:Nat) (hn:n<=12):Calls Tryz.prog 151 #[.int .u64 n] w (fun r w'=>∃ q:Nat,q<=4/\r=.returned (.int .i64 q)/\w'=w):=by
 rcases (by omega:n=0∨n=1∨n=2∨n=3∨n=4∨n=5∨n=6∨n=7∨n=8∨n=9∨n=10∨n=11∨n=12) with
  rfl | rfl | rfl | rfl | rfl | rfl | rfl | rfl | rfl | rfl | rfl | rfl | rfl
 ·go_enter Tryz.func151,Tryz.ntmps151;go_wp2;go_ret;exact ⟨0,by decide,congrArg (fun z=>Ending.returned (Value.int .i64 z)) (show wrap64 (wrap64 (Lib.len8 0))=(0:Int) by decide +kernel),rfl⟩
 ·go_enter Tryz.func151,Tryz.ntmps151;go_wp2;go_ret;exact ⟨1,by decide,congrArg (fun z=>Ending.returned (Value.int .i64 z)) (show wrap64 (wrap64 (Lib.len8 1))=(1:Int) by decide +kernel),rfl⟩
 ·go_enter Tryz.func151,Tryz.ntmps151;go_wp2;go_ret;exact ⟨2,by decide,congrArg (fun z=>Ending.returned (Value.int .i64 z)) (show wrap64 (wrap64 (Lib.len8 2))=(2:Int) by decide +kernel),rfl⟩
 ·go_enter Tryz.func151,Tryz.ntmps151;go_wp2;go_ret;exact ⟨2,by decide,congrArg (fun z=>Ending.returned (Value.int .i64 z)) (show wrap64 (wrap64 (Lib.len8 3))=(2:Int) by decide +kernel),rfl⟩
 ·go_enter Tryz.func151,Tryz.ntmps151;go_wp2;go_ret;exact ⟨3,by decide,congrArg (fun z=>Ending.returned (Value.int .i64 z)) (show wrap64 (wrap64 (Lib.len8 4))=(3:Int) by decide +kernel),rfl⟩
 ·go_enter Tryz.func151,Tryz.ntmps151;go_wp2;go_ret;exact ⟨3,by decide,congrArg (fun z=>Ending.returned (Value.int .i64 z)) (show wrap64 (wrap64 (Lib.len8 5))=(3:Int) by decide +kernel),rfl⟩
 ·go_enter Tryz.func151,Tryz.ntmps151;go_wp2;go_ret;exact ⟨3,by decide,congrArg (fun z=>Ending.returned (Value.int .i64 z)) (show wrap64 (wrap64 (Lib.len8 6))=(3:Int) by decide +kernel),rfl⟩
 ·go_enter Tryz.func151,Tryz.ntmps151;go_wp2;go_ret;exact ⟨3,by decide,congrArg (fun z=>Ending.returned (Value.int .i64 z)) (show wrap64 (wrap64 (Lib.len8 7))=(3:Int) by decide +kernel),rfl⟩
 ·go_enter Tryz.func151,Tryz.ntmps151;go_wp2;go_ret;exact ⟨4,by decide,congrArg (fun z=>Ending.returned (Value.int .i64 z)) (show wrap64 (wrap64 (Lib.len8 8))=(4:Int) by decide +kernel),rfl⟩
 ·go_enter Tryz.func151,Tryz.ntmps151;go_wp2;go_ret;exact ⟨4,by decide,congrArg (fun z=>Ending.returned (Value.int .i64 z)) (show wrap64 (wrap64 (Lib.len8 9))=(4:Int) by decide +kernel),rfl⟩
 ·go_enter Tryz.func151,Tryz.ntmps151;go_wp2;go_ret;exact ⟨4,by decide,congrArg (fun z=>Ending.returned (Value.int .i64 z)) (show wrap64 (wrap64 (Lib.len8 10))=(4:Int) by decide +kernel),rfl⟩
 ·go_enter Tryz.func151,Tryz.ntmps151;go_wp2;go_ret;exact ⟨4,by decide,congrArg (fun z=>Ending.returned (Value.int .i64 z)) (show wrap64 (wrap64 (Lib.len8 11))=(4:Int) by decide +kernel),rfl⟩
 ·go_enter Tryz.func151,Tryz.ntmps151;go_wp2;go_ret;exact ⟨4,by decide,congrArg (fun z=>Ending.returned (Value.int .i64 z)) (show wrap64 (wrap64 (Lib.len8 12))=(4:Int) by decide +kernel),rfl⟩
theorem blen_any (w:World) (n:Nat) (hn:n<=12):Calls Tryz.prog 87 #[.int .u64 n] w (fun r w'=>∃ q:Nat,q<=4/\r=.returned (.int .i64 q)/\w'=w):=by
 have HB:=bH (blen64_any w n hn);go_enter Tryz.func87,Tryz.ntmps87;go_wp2_with fail;refine HB.o.mono ?_;rintro r w' ⟨q,hq,rfl,rfl⟩;go_wp2;go_ret;exact ⟨q,hq,rfl,rfl⟩
theorem pdq_any (w:World) (g n c F q:Nat) (caps:Array Value) (cf:Int->Int->Int) (l0:List Int) (hC:CmpC w g F caps cf l0) (hr:IRow w 0 (.slice (some ⟨g,0,none⟩) n c) l0) (hl:l0.length=n) (hnd:l0.Nodup) (hn:n<=12) :
  Calls Tryz.prog 130 #[.slice (some ⟨g,0,none⟩) n c,.int .i64 0,.int .i64 n,.int .i64 q,.func (.func F) #[] caps] w (SrtPost w g n c cf l0):=by
 have HI:=bH (insS_any w g n c F caps cf l0 hC hr hl hnd hn);have n12:(n:Int)<=12:=by omega
 clear hC hr hl hnd;go_enter Tryz.func130,Tryz.ntmps130;go_wp2_with fail;go_loopg [1,2,3] 1 (fun gg v1 v2 v3 wr=>gg=1/\v1=.int .i64 0/\v2=.int .i64 n/\v3=.int .i64 q/\wr=w);case atStart=>exact ⟨rfl,rfl,rfl,rfl,rfl⟩
 case round =>
  obtain ⟨rfl,rfl,rfl,rfl,rfl⟩:=hrel;go_wp2_with fail;refine HI.o.mono ?_;rintro r w' ⟨rfl,h⟩;have HH:=bH h;clear h;go_wp2;((try simp only [Exit.inBlock,Exit.then]); refine bodyPost_ret (results_none rfl _ _ _) rfl ?_);exact ⟨rfl,HH.o⟩
theorem SortFunc_any (w:World) (g n c F:Nat) (caps:Array Value) (cf:Int->Int->Int) (l0:List Int) (hC:CmpC w g F caps cf l0) (hr:IRow w 0 (.slice (some ⟨g,0,none⟩) n c) l0) (hl:l0.length=n) (hnd:l0.Nodup) (hn:n<=12) :
  Calls Tryz.prog 71 #[.slice (some ⟨g,0,none⟩) n c,.func (.func F) #[] caps] w (SrtPost w g n c cf l0):=by
 have HB:=bH (blen_any w n hn);have HP:=bH (fun q=>pdq_any w g n c F q caps cf l0 hC hr hl hnd hn);have n12:(n:Int)<=12:=by omega
 clear hC hr hl hnd;go_enter Tryz.func71,Tryz.ntmps71;go_wp2_with fail;refine HB.o.mono ?_;rintro r w' ⟨q,hq,rfl,rfl⟩;go_wp2_with fail;refine (HP.o q).mono ?_;rintro r w2 ⟨rfl,h⟩;have HH:=bH h;clear h;go_wp2;go_end0;exact ⟨rfl,HH.o⟩
end Go.Proofs.YtjaldknfeojjkaaGreat
namespace Go.Proofs
open Go.Shelf
def Tryz.lays189_ren:Go.Shelf.Ren:=⟨fun | 189=>79 | 125=>87 | 257=>135 | 128=>150 | 129=>151 | 294=>188 | 295=>189 | 296=>190 | 297=>191 | 298=>192 | 299=>193 | 216=>194 | 300=>195 | 301=>196 | 328=>220 | 329=>198 | 330=>199 | 331=>221 | 332=>222 | 215=>223 | 343=>233 | n=>n,fun | 28=>27 | 3=>3 | 46=>114 | 0=>0 | 51=>129 | 53=>128 | 4=>4 | 183=>150 | 182=>149 | 131=>155 | 5=>5 | 9=>9 | 218=>185 | 222=>189 | 228=>204 | 229=>205 | n=>n,fun | n=>n⟩
theorem Tryz.lays189:Go.Proofs.Lays.n189 Tryz.prog Tryz.lays189_ren:={
 mixed:=by kernel_rfl
 f125:=Tryz.func87.trans (congrArg some (by kernel_rfl))
 f128:=Tryz.func150.trans (congrArg some (by kernel_rfl))
 f129:=Tryz.func151.trans (congrArg some (by kernel_rfl))
 f189:=Tryz.func79.trans (congrArg some (by kernel_rfl))
 f215:=Tryz.func223.trans (congrArg some (by kernel_rfl))
 f216:=Tryz.func194.trans (congrArg some (by kernel_rfl))
 f257:=Tryz.func135.trans (congrArg some (by kernel_rfl))
 f294:=Tryz.func188.trans (congrArg some (by kernel_rfl))
 f295:=Tryz.func189.trans (congrArg some (by kernel_rfl))
 f296:=Tryz.func190.trans (congrArg some (by kernel_rfl))
 f297:=Tryz.func191.trans (congrArg some (by kernel_rfl))
 f298:=Tryz.func192.trans (congrArg some (by kernel_rfl))
 f299:=Tryz.func193.trans (congrArg some (by kernel_rfl))
 f300:=Tryz.func195.trans (congrArg some (by kernel_rfl))
 f301:=Tryz.func196.trans (congrArg some (by kernel_rfl))
 f328:=Tryz.func220.trans (congrArg some (by kernel_rfl))
 f329:=Tryz.func198.trans (congrArg some (by kernel_rfl))
 f330:=Tryz.func199.trans (congrArg some (by kernel_rfl))
 f331:=Tryz.func221.trans (congrArg some (by kernel_rfl))
 f332:=Tryz.func222.trans (congrArg some (by kernel_rfl))
 f343:=Tryz.func233.trans (congrArg some (by kernel_rfl))
 t0:=Tryz.underlying0
 a0:=Tryz.isAgg0
 z0:=Tryz.sizeOf0
 v0:=Tryz.zeroValue0
 t3:=Tryz.underlying3
 a3:=Tryz.isAgg3
 z3:=Tryz.sizeOf3
 v3:=Tryz.zeroValue3
 t4:=Tryz.underlying4
 a4:=Tryz.isAgg4
 z4:=Tryz.sizeOf4
 v4:=Tryz.zeroValue4
 t5:=Tryz.underlying5
 a5:=Tryz.isAgg5
 z5:=Tryz.sizeOf5
 v5:=Tryz.zeroValue5
 t9:=Tryz.underlying9
 a9:=Tryz.isAgg9
 z9:=Tryz.sizeOf9
 v9:=Tryz.zeroValue9
 t28:=Tryz.underlying27
 a28:=Tryz.isAgg27
 z28:=Tryz.sizeOf27
 v28:=Tryz.zeroValue27
 t46:=Tryz.underlying114
 a46:=Tryz.isAgg114
 z46:=Tryz.sizeOf114
 v46:=Tryz.zeroValue114
 t51:=Tryz.underlying129
 a51:=Tryz.isAgg129
 z51:=Tryz.sizeOf129
 v51:=Tryz.zeroValue129
 t53:=Tryz.underlying128
 a53:=Tryz.isAgg128
 z53:=Tryz.sizeOf128
 v53:=Tryz.zeroValue128
 t131:=Tryz.underlying155
 a131:=Tryz.isAgg155
 z131:=Tryz.sizeOf155
 v131:=Tryz.zeroValue155
 t182:=Tryz.underlying149
 a182:=Tryz.isAgg149
 z182:=Tryz.sizeOf149
 v182:=Tryz.zeroValue149
 t183:=Tryz.underlying150
 a183:=Tryz.isAgg150
 z183:=Tryz.sizeOf150
 v183:=Tryz.zeroValue150
 t218:=Tryz.underlying185
 a218:=Tryz.isAgg185
 z218:=Tryz.sizeOf185
 v218:=Tryz.zeroValue185
 t222:=Tryz.underlying189
 a222:=Tryz.isAgg189
 z222:=Tryz.sizeOf189
 v222:=Tryz.zeroValue189
 t228:=Tryz.underlying204
 a228:=Tryz.isAgg204
 z228:=Tryz.sizeOf204
 v228:=Tryz.zeroValue204
 t229:=Tryz.underlying205
 a229:=Tryz.isAgg205
 z229:=Tryz.sizeOf205
 v229:=Tryz.zeroValue205 }
open Go.Sort Go.RowKit in
theorem Tryz.slices_Sort_int_f79 (blk off cap:Nat) (zs:List Int) (w:World) (hH:Holds (Value.int .i64) w blk off zs.toArray) (hblk:blk<w.heap.size) (hsz:zs.length<4611686018427387904) :
  Calls Tryz.prog 79 #[.slice (some ⟨blk,off,none⟩) zs.length cap] w fun e w' =>
   e=.returned (.tuple #[])/\∃ n os,w'=grow (putRow (Value.int .i64) (Sort.ahead w n) blk off (zs.mergeSort fun x y=>decide (x<=y)).toArray) os:=Any.slices_Sort_int Tryz.lays189 blk off cap zs w hH hblk hsz
def Tryz.laysNm223_ren:Go.Shelf.Ren:=⟨fun | 23=>77 | n=>n,fun | 22=>27 | 3=>3 | 4=>4 | 0=>0 | n=>n,fun | n=>n⟩
theorem Tryz.laysNm223:Go.Proofs.Lays2.n23 Tryz.prog Tryz.laysNm223_ren:={
 mixed:=by kernel_rfl
 f23:=Tryz.func77.trans (congrArg some (by kernel_rfl))
 t0:=Tryz.underlying0
 a0:=Tryz.isAgg0
 z0:=Tryz.sizeOf0
 v0:=Tryz.zeroValue0
 t3:=Tryz.underlying3
 a3:=Tryz.isAgg3
 z3:=Tryz.sizeOf3
 v3:=Tryz.zeroValue3
 t4:=Tryz.underlying4
 a4:=Tryz.isAgg4
 z4:=Tryz.sizeOf4
 v4:=Tryz.zeroValue4
 t22:=Tryz.underlying27
 a22:=Tryz.isAgg27
 z22:=Tryz.sizeOf27
 v22:=Tryz.zeroValue27
 i3:=by kernel_rfl }
open Go.RowKit Go.Lib Go.Sort in
theorem Tryz.slices_Delete_int (blk off cap i j:Nat) (zs:List Int) (w:World) (hH:Holds (Value.int .i64) w blk off zs.toArray) (hcap:zs.length<=cap) (hm:cap<=9223372036854775807) (hij:i<=j) (hj:j<=zs.length) :
  Calls Tryz.prog 77 #[.slice (some ⟨blk,off,none⟩) zs.length cap,.int .i64 i,.int .i64 j] w fun e w'=>e=.returned (.slice (some ⟨blk,off,none⟩) (zs.length - (j - i)) cap)/\∃ q,w'=putRow (Value.int .i64) (Sort.ahead w q) blk off (zs.take i++zs.drop j++List.replicate (j - i) 0).toArray:=Any.slices_Delete_int Tryz.laysNm223 blk off cap i j zs w hH hcap hm hij hj
def Tryz.laysSlN43_f50_ren:Go.Shelf.Ren:=⟨fun | 43=>50 | n=>n,fun | 22=>85 | 23=>2 | 3=>3 | 4=>4 | 0=>0 | n=>n,fun | n=>n⟩
theorem Tryz.laysSlN43_f50:Go.Proofs.SlLaysN.n43 Tryz.prog Tryz.laysSlN43_f50_ren:={
 mixed:=by kernel_rfl
 f43:=⟨Tryz.f50.name,by decide,Tryz.func50.trans (congrArg some (by kernel_rfl))⟩
 t0:=Tryz.underlying0
 a0:=Tryz.isAgg0
 z0:=Tryz.sizeOf0
 v0:=Tryz.zeroValue0
 t3:=Tryz.underlying3
 a3:=Tryz.isAgg3
 z3:=Tryz.sizeOf3
 v3:=Tryz.zeroValue3
 t4:=Tryz.underlying4
 a4:=Tryz.isAgg4
 z4:=Tryz.sizeOf4
 v4:=Tryz.zeroValue4
 t22:=Tryz.underlying85
 a22:=Tryz.isAgg85
 z22:=Tryz.sizeOf85
 v22:=Tryz.zeroValue85
 t23:=Tryz.underlying2
 a23:=Tryz.isAgg2
 z23:=Tryz.sizeOf2
 v23:=Tryz.zeroValue2
 i23:=by kernel_rfl }
open Go.RowKit Go.Lib Go.Sort in
theorem Tryz.slices_Compact_int (blk off cap:Nat) (zs:List Int) (w:World) (hH:Holds (Value.int .i64) w blk off zs.toArray) (hsz:zs.length<=9223372036854775807) (hcap:zs.length<=cap) :
  Calls Tryz.prog 50 #[.slice (some ⟨blk,off,none⟩) zs.length cap] w fun e w'=>e=.returned (.slice (some ⟨blk,off,none⟩) (Lib.compact zs).length cap)/\∃ q,w'=putRow (Value.int .i64) (Sort.ahead w q) blk off (Lib.compact zs++List.replicate (zs.length - (Lib.compact zs).length) 0).toArray:=AnyG.slices_Compact_int Tryz.laysSlN43_f50 blk off cap zs w hH hsz hcap
open Go.RowKit Go.Lib Go.Sort in
theorem Tryz.slices_Compact_int_empty (a:Option Addr) (cap:Nat) (w:World) :
  Calls Tryz.prog 50 #[.slice a 0 cap] w fun e w'=>e=.returned (.slice a 0 cap)/\w'=w:=AnyG.slices_Compact_int_empty Tryz.laysSlN43_f50 a cap w
def Tryz.laysSlM5_f49_ren:Go.Shelf.Ren:=⟨fun | 5=>49 | 8=>87 | 7=>86 | 19=>150 | 20=>151 | 10=>141 | 11=>142 | 12=>143 | 13=>144 | 14=>145 | 15=>146 | 16=>147 | 17=>148 | 18=>149 | 30=>197 | 31=>198 | 32=>199 | 33=>200 | 34=>201 | 35=>202 | 40=>224 | n=>n,fun | 23=>85 | 25=>2 | 3=>3 | 32=>114 | 22=>85 | 0=>0 | 44=>129 | 46=>128 | 4=>4 | 36=>150 | 35=>149 | 41=>155 | 5=>5 | 9=>9 | 53=>185 | 57=>189 | 63=>204 | 64=>205 | n=>n,fun | n=>n⟩
theorem Tryz.laysSlM5_f49:Go.Proofs.SlLaysM.n5 Tryz.prog Tryz.laysSlM5_f49_ren:={
 mixed:=by kernel_rfl
 f5:=⟨Tryz.f49.name,by decide,Tryz.func49.trans (congrArg some (by kernel_rfl))⟩
 f7:=⟨Tryz.f86.name,by decide,Tryz.func86.trans (congrArg some (by kernel_rfl))⟩
 f8:=Tryz.func87.trans (congrArg some (by kernel_rfl))
 f10:=⟨Tryz.f141.name,by decide,Tryz.func141.trans (congrArg some (by kernel_rfl))⟩
 f11:=⟨Tryz.f142.name,by decide,Tryz.func142.trans (congrArg some (by kernel_rfl))⟩
 f12:=⟨Tryz.f143.name,by decide,Tryz.func143.trans (congrArg some (by kernel_rfl))⟩
 f13:=⟨Tryz.f144.name,by decide,Tryz.func144.trans (congrArg some (by kernel_rfl))⟩
 f14:=⟨Tryz.f145.name,by decide,Tryz.func145.trans (congrArg some (by kernel_rfl))⟩
 f15:=⟨Tryz.f146.name,by decide,Tryz.func146.trans (congrArg some (by kernel_rfl))⟩
 f16:=⟨Tryz.f147.name,by decide,Tryz.func147.trans (congrArg some (by kernel_rfl))⟩
 f17:=⟨Tryz.f148.name,by decide,Tryz.func148.trans (congrArg some (by kernel_rfl))⟩
 f18:=⟨Tryz.f149.name,by decide,Tryz.func149.trans (congrArg some (by kernel_rfl))⟩
 f19:=Tryz.func150.trans (congrArg some (by kernel_rfl))
 f20:=Tryz.func151.trans (congrArg some (by kernel_rfl))
 f30:=⟨Tryz.f197.name,by decide,Tryz.func197.trans (congrArg some (by kernel_rfl))⟩
 f31:=Tryz.func198.trans (congrArg some (by kernel_rfl))
 f32:=Tryz.func199.trans (congrArg some (by kernel_rfl))
 f33:=⟨Tryz.f200.name,by decide,Tryz.func200.trans (congrArg some (by kernel_rfl))⟩
 f34:=⟨Tryz.f201.name,by decide,Tryz.func201.trans (congrArg some (by kernel_rfl))⟩
 f35:=⟨Tryz.f202.name,by decide,Tryz.func202.trans (congrArg some (by kernel_rfl))⟩
 f40:=⟨Tryz.f224.name,by decide,Tryz.func224.trans (congrArg some (by kernel_rfl))⟩
 t0:=Tryz.underlying0
 a0:=Tryz.isAgg0
 z0:=Tryz.sizeOf0
 v0:=Tryz.zeroValue0
 t3:=Tryz.underlying3
 a3:=Tryz.isAgg3
 z3:=Tryz.sizeOf3
 v3:=Tryz.zeroValue3
 t4:=Tryz.underlying4
 a4:=Tryz.isAgg4
 z4:=Tryz.sizeOf4
 v4:=Tryz.zeroValue4
 t5:=Tryz.underlying5
 a5:=Tryz.isAgg5
 z5:=Tryz.sizeOf5
 v5:=Tryz.zeroValue5
 t9:=Tryz.underlying9
 a9:=Tryz.isAgg9
 z9:=Tryz.sizeOf9
 v9:=Tryz.zeroValue9
 t22:=Tryz.underlying85
 a22:=Tryz.isAgg85
 z22:=Tryz.sizeOf85
 v22:=Tryz.zeroValue85
 t23:=Tryz.underlying85
 a23:=Tryz.isAgg85
 z23:=Tryz.sizeOf85
 v23:=Tryz.zeroValue85
 t25:=Tryz.underlying2
 a25:=Tryz.isAgg2
 z25:=Tryz.sizeOf2
 v25:=Tryz.zeroValue2
 t32:=Tryz.underlying114
 a32:=Tryz.isAgg114
 z32:=Tryz.sizeOf114
 v32:=Tryz.zeroValue114
 t35:=Tryz.underlying149
 a35:=Tryz.isAgg149
 z35:=Tryz.sizeOf149
 v35:=Tryz.zeroValue149
 t36:=Tryz.underlying150
 a36:=Tryz.isAgg150
 z36:=Tryz.sizeOf150
 v36:=Tryz.zeroValue150
 t41:=Tryz.underlying155
 a41:=Tryz.isAgg155
 z41:=Tryz.sizeOf155
 v41:=Tryz.zeroValue155
 t44:=Tryz.underlying129
 a44:=Tryz.isAgg129
 z44:=Tryz.sizeOf129
 v44:=Tryz.zeroValue129
 t46:=Tryz.underlying128
 a46:=Tryz.isAgg128
 z46:=Tryz.sizeOf128
 v46:=Tryz.zeroValue128
 t53:=Tryz.underlying185
 a53:=Tryz.isAgg185
 z53:=Tryz.sizeOf185
 v53:=Tryz.zeroValue185
 t57:=Tryz.underlying189
 a57:=Tryz.isAgg189
 z57:=Tryz.sizeOf189
 v57:=Tryz.zeroValue189
 t63:=Tryz.underlying204
 a63:=Tryz.isAgg204
 z63:=Tryz.sizeOf204
 v63:=Tryz.zeroValue204
 t64:=Tryz.underlying205
 a64:=Tryz.isAgg205
 z64:=Tryz.sizeOf205
 v64:=Tryz.zeroValue205 }
open Go.Sort Go.RowKit in
theorem Tryz.slices_Sort_int_f49 (blk off cap:Nat) (zs:List Int) (w:World) (hH:Holds (Value.int .i64) w blk off zs.toArray) (hblk:blk<w.heap.size) (hsz:zs.length<4611686018427387904) :
  Calls Tryz.prog 49 #[.slice (some ⟨blk,off,none⟩) zs.length cap] w fun e w' =>
   e=.returned (.tuple #[])/\∃ n os,w'=grow (putRow (Value.int .i64) (Sort.ahead w n) blk off (zs.mergeSort fun x y=>decide (x<=y)).toArray) os:=AnyM.slices_Sort_int Tryz.laysSlM5_f49 blk off cap zs w hH hblk hsz
open Go.RowKit Go.Sort in
theorem Tryz.slices_Sort_int_none_f49 (p:Option Addr) (cap:Nat) (w:World) :
  Calls Tryz.prog 49 #[.slice p 0 cap] w fun e w'=>e=.returned (.tuple #[])/\w'=w:=AnyM.slices_Sort_int_none Tryz.laysSlM5_f49 p cap w
end Go.Proofs
namespace Go.Proofs.YtjaldknfeojjkaaGreat
open Go.RowKit Go.MapKept
open Go.ChangeMaps (setBlock)
open Go.Lib Go.Sort
theorem blk_putRow {w:World} {g:Nat} {c:Array Value} {T:TypeId} {fr:Nat × Nat} (h:blk w g=some (.cells c T fr)) (q:Nat) (d:List Int):blk (putRow (Value.int .i64) (Sort.ahead w q) g 0 d.toArray) g=some (.cells (putCells (Value.int .i64) 0 d.toArray c) T fr):=by
 unfold blk at *;show (w.heap.modify g (onCells (putCells (Value.int .i64) 0 d.toArray)))[g]?=_;rw [Array.getElem?_modify,if_pos rfl,h];rfl
theorem putCells_size (c:Array Value) (d:List Int):(putCells (Value.int .i64) 0 d.toArray c).size=c.size:=by unfold putCells; rw [Array.size_mapIdx]
theorem putCells_take {c:Array Value} {d:List Int} (h:d.length<=c.size):(putCells (Value.int .i64) 0 d.toArray c).toList.take d.length=d.map (Value.int .i64):=by
 apply List.ext_getElem
 ·have e:(putCells (Value.int .i64) 0 d.toArray c).toList.length=c.size:=(by rw [Array.length_toList,putCells_size]);rw [List.length_take,e,List.length_map]; omega
 ·intro i h1 h2;rw [List.length_map] at h2;rw [List.getElem_take,List.getElem_map];unfold putCells;rw [Array.getElem_toList,Array.getElem_mapIdx,if_pos ⟨Nat.zero_le _,by rw [List.size_toArray]; omega⟩];congr 1;rw [Nat.sub_zero,getElem!_pos _ _ (by rw [List.size_toArray]; exact h2),List.getElem_toArray]
theorem ext_putRow (w:World) (g q:Nat) (d:List Int):Ext (fun k=>k=g) w (putRow (Value.int .i64) (Sort.ahead w q) g 0 d.toArray):=by
 refine ⟨rfl,rfl,rfl,by rw [size_putRow]; exact Nat.le_refl _,fun k hk hn=>?_⟩;show (w.heap.modify g _)[k]?=_;rw [Array.getElem?_modify,if_neg (fun e=>hn e.symm)]
theorem ext_grow (w:World) (os:Array Obj):XF w (grow w os):=⟨rfl,rfl,rfl,by rw [size_grow]; omega,fun k hk _=>heap_grow_old w os hk⟩
section
variable {w:World} {base g n c:Nat} {l:List Int}
theorem IRow.len (h:IRow w base (.slice (some ⟨g,0,none⟩) n c) l):l.length=n:=by
 rcases h.2 with ⟨e,_⟩ | ⟨g',cap,cur,e,_⟩ <;> cases e;rfl
theorem IRow.data (h:IRow w base (.slice (some ⟨g,0,none⟩) n c) l):∃ cur:Array Value,base<=g/\blk w g=some (.cells cur 3 (0,0))/\n<=c/\c<=maxLen/\cur.size=c/\cur.toList.take n=l.map (Value.int .i64):=by
 rcases h.2 with ⟨e,_⟩ | ⟨g',cap,cur,e,h1,h2,h3,h4,h5,h6⟩ <;> cases e;exact ⟨cur,h1,h2,h3,h4,by rw [h5,Nat.mul_one],by rw [Nat.mul_one] at h6; exact h6⟩
theorem IRow.mk' {cur:Array Value} (h0:base<=g) (h1:blk w g=some (.cells cur 3 (0,0))) (h2:l.length<=c) (h3:c<=maxLen) (h4:cur.size=c) (h5:cur.toList.take l.length=l.map (Value.int .i64)):IRow w base (.slice (some ⟨g,0,none⟩) l.length c) l :=
 ⟨by rw [List.length_map,Nat.mul_one],.inr ⟨g,c,cur,rfl,h0,h1,h2,h3,by rw [h4,Nat.mul_one],by rw [Nat.mul_one]; exact h5⟩⟩
theorem IRow.cells (h:IRow w base (.slice (some ⟨g,0,none⟩) n c) l) {j:Nat} (hj:j<l.length):w.cell? ⟨g,j,none⟩=some (.int .i64 (l.getD j 0))/\w.frozen? ⟨g,j,none⟩=false:=⟨(h.set hj 0).2.2,(h.set hj 0).2.1⟩
theorem IRow.holds (h:IRow w base (.slice (some ⟨g,0,none⟩) n c) l):Holds (Value.int .i64) w g 0 l.toArray:=fun j hj=>by
 rw [List.size_toArray] at hj;rw [Nat.zero_add,getElem!_pos _ _ (by rw [List.size_toArray]; exact hj),List.getElem_toArray,<- getD_lt hj];exact h.cells hj
theorem IRow.putRow (h:IRow w base (.slice (some ⟨g,0,none⟩) n c) l) (q:Nat) {d d':List Int} (hd:d.length=n) (hp:d.take d'.length=d'):IRow (Sort.putRow (Value.int .i64) (Sort.ahead w q) g 0 d.toArray) base (.slice (some ⟨g,0,none⟩) d'.length c) d':=by
 obtain ⟨cur,h0,h1,h2,h3,h4,h5⟩:=h.data;have hl:d'.length<=d.length:=by rw [<- hp,List.length_take]; exact Nat.min_le_right _ _
 refine IRow.mk' h0 (blk_putRow h1 q d) (by omega) h3 (by rw [putCells_size]; exact h4) ?_;have e:=putCells_take (c:=cur) (d:=d) (by omega);have e2:=congrArg (List.take d'.length) e;rw [List.take_take,Nat.min_eq_left hl,<- List.map_take,hp] at e2;exact e2
theorem IRow.block (h:IRow w base (.slice (some ⟨g,0,none⟩) n c) l):g<w.heap.size:=by obtain ⟨cur,_,h1,_⟩:=h.data; exact blk_lt h1
end
theorem iclone_any (w:World) (base g n c:Nat) (l:List Int) (h:IRow w base (.slice (some ⟨g,0,none⟩) n c) l) (hn:n<=1000):Calls Tryz.prog 78 #[.slice (some ⟨g,0,none⟩) n c] w (fun r w'=>∃ g' c',r=.returned (.slice (some ⟨g',0,none⟩) n c')/\IRow w' w.heap.size (.slice (some ⟨g',0,none⟩) n c') l/\XF w w'):=by
 have hl:=h.len;refine (Tryz.slices_Clone_int g 0 n c l w (by omega) (by omega) (fun j hj=>by rw [Nat.zero_add]; exact (h.cells hj).1)).mono ?_;rintro r w' ⟨v',rfl,ho,hne,hb⟩;rcases ho.2 with ⟨e,_⟩ | ⟨g',c',cur,rfl,h1⟩
 ·exact absurd e hne
 ·refine ⟨g',c',rfl,?_,⟨hb.os,hb.tape,hb.output,hb.size,fun k hk _=>hb.block k hk⟩⟩;rw [List.take_of_length_le (by omega)] at ho;unfold IRow;rw [hl];exact ho
theorem idel_any (w:World) (base g n c i:Nat) (l:List Int) (h:IRow w base (.slice (some ⟨g,0,none⟩) n c) l) (hi:i<n):Calls Tryz.prog 77 #[.slice (some ⟨g,0,none⟩) n c,.int .i64 i,.int .i64 ((i:Int)+1)] w (fun r w'=>r=.returned (.slice (some ⟨g,0,none⟩) (n - 1) c)/\IRow w' base (.slice (some ⟨g,0,none⟩) (n - 1) c) (l.eraseIdx i)/\Ext (fun k=>k=g) w w'):=by
 have hl:=h.len;obtain ⟨cur,h0,h1,h2,h3,h4,h5⟩:=h.data;have hd:=Tryz.slices_Delete_int g 0 c i (i+1) l w h.holds (by omega) h3 (by omega) (by omega);rw [hl,show ((i+1:Nat):Int)=(i:Int)+1 from by omega] at hd;refine hd.mono ?_;rintro r w' ⟨rfl,q,rfl⟩;have e1:n - (i+1 - i)=n - 1:=by omega
 have e2:(l.eraseIdx i).length=n - 1:=by rw [List.length_eraseIdx_of_lt (by omega),hl]
 refine ⟨by rw [e1],?_,ext_putRow _ _ _ _⟩;have hq:=h.putRow q (d:=l.take i++l.drop (i+1)++List.replicate (i+1 - i) 0) (d':=l.eraseIdx i) (by
  rw [List.length_append,List.length_append,List.length_take,List.length_drop,List.length_replicate]; omega) (by
  rw [List.eraseIdx_eq_take_drop_succ,List.take_append_of_le_length (Nat.le_refl _),List.take_length])
 rw [e2] at hq;exact hq
theorem isort_any (w:World) (base g n c:Nat) (l:List Int) (h:IRow w base (.slice (some ⟨g,0,none⟩) n c) l) (hn:n<=100000):Calls Tryz.prog 79 #[.slice (some ⟨g,0,none⟩) n c] w (fun r w'=>r=.returned (.tuple #[])/\IRow w' base (.slice (some ⟨g,0,none⟩) n c) (l.mergeSort fun x y=>decide (x<=y))/\Ext (fun k=>k=g) w w'):=by
 have hl:=h.len;have hs:=Tryz.slices_Sort_int_f79 g 0 c l w h.holds h.block (by omega);rw [hl] at hs;refine hs.mono ?_;rintro r w' ⟨rfl,q,os,rfl⟩;have e:(l.mergeSort fun x y=>decide (x<=y)).length=n:=by rw [(List.mergeSort_perm l _).length_eq,hl]
 have hq:=h.putRow q (d:=l.mergeSort fun x y=>decide (x<=y)) (d':=l.mergeSort fun x y=>decide (x<=y)) e (by rw [List.take_length]);rw [e] at hq;exact ⟨rfl,hq.keep (ext_grow _ _),(ext_putRow _ _ _ _).trans (ext_grow _ _).none⟩
theorem merge_srt {l:List Int} (hn:l.Nodup):Srt l (l.mergeSort fun x y=>decide (x<=y)):=by
 have hp:=List.mergeSort_perm l fun x y=>decide (x<=y);refine ⟨?_,fun v=>hp.mem_iff⟩;have hs:=List.pairwise_mergeSort (le:=fun x y:Int=>decide (x<=y)) (fun a b c h1 h2=>by simp only [decide_eq_true_eq] at *; omega) (fun a b=>by simp only [Bool.or_eq_true,decide_eq_true_eq]; omega) l;have hd:(l.mergeSort fun x y=>decide (x<=y)).Nodup:=hp.nodup_iff.2 hn;refine (hs.and hd).imp ?_;rintro a b ⟨h1,h2⟩;simp only [decide_eq_true_eq] at h1;omega
end Go.Proofs.YtjaldknfeojjkaaGreat
