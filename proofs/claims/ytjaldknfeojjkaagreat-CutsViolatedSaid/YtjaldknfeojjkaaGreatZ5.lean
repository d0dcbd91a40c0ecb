/-
  Texts of the proof, part 5. Conditions: each lemma names its own.
-/
import Derived.Test.YtjaldknfeojjkaaGreatZ1
import Derived.Test.YtjaldknfeojjkaaGreatZ4
import Derived.Shelf.SlicesQ.IndexFunc
import Derived.Shelf.SlGeneric
import Derived.Ground.SlgfProg
import Derived.Shelf.Small.Bits
import Derived.Shelf.Strconv.Itoa0
import Derived.Shelf.GgClosure.StringsIndexFunc
import Derived.Ground.GgwProg
import Derived.Shelf.GgClosure.StringsIndexFuncTop
import Derived.Shelf.Strings.FuncGrows
import Derived.Shelf.Slices.Turned
import Derived.Ground.Names2Prog
import Derived.Shelf.Slices.Clone
import Derived.Ground.SlgfProg
import Derived.Shelf.SlicesE.IndexFunc
import Derived.Test.YtjaldknfeojjkaaGreatProg
import Derived.Laws.RangeAny
import Derived.Maps.RangeWalk
set_option linter.unusedVariables false
set_option linter.unusedSimpArgs false
set_option maxRecDepth 100000
set_option maxHeartbeats 16000000
namespace Go.Proofs.YtjaldknfeojjkaaGreat
open Go.RowKit Go.MapKept
open Go.ChangeMaps (setBlock)
abbrev S9 (b0 b1 b2 b3 b4 b5 b6 b7 b8 o0 o1 o2 o3 o4 o5 o6 o7 o8:Nat) (x0 x1 x2 x3 x4 x5 x6 x7 x8:Value) (W:World):Prop:=W.cell? ⟨b0,o0,none⟩=some x0/\W.cell? ⟨b1,o1,none⟩=some x1/\W.cell? ⟨b2,o2,none⟩=some x2/\W.cell? ⟨b3,o3,none⟩=some x3/\W.cell? ⟨b4,o4,none⟩=some x4/\W.cell? ⟨b5,o5,none⟩=some x5/\W.cell? ⟨b6,o6,none⟩=some x6/\W.cell? ⟨b7,o7,none⟩=some x7/\W.cell? ⟨b8,o8,none⟩=some x8
section
variable {b0 b1 b2 b3 b4 b5 b6 b7 b8 o0 o1 o2 o3 o4 o5 o6 o7 o8:Nat} {x0 x1 x2 x3 x4 x5 x6 x7 x8:Value} {W:World}
theorem S9.drew (h:S9 b0 b1 b2 b3 b4 b5 b6 b7 b8 o0 o1 o2 o3 o4 o5 o6 o7 o8 x0 x1 x2 x3 x4 x5 x6 x7 x8 W):S9 b0 b1 b2 b3 b4 b5 b6 b7 b8 o0 o1 o2 o3 o4 o5 o6 o7 o8 x0 x1 x2 x3 x4 x5 x6 x7 x8 W.drew:=h
theorem S9.keep {W':World} (h:S9 b0 b1 b2 b3 b4 b5 b6 b7 b8 o0 o1 o2 o3 o4 o5 o6 o7 o8 x0 x1 x2 x3 x4 x5 x6 x7 x8 W) (hx:XF W W'):S9 b0 b1 b2 b3 b4 b5 b6 b7 b8 o0 o1 o2 o3 o4 o5 o6 o7 o8 x0 x1 x2 x3 x4 x5 x6 x7 x8 W':=⟨cell_keep h.1 hx,cell_keep h.2.1 hx,cell_keep h.2.2.1 hx,cell_keep h.2.2.2.1 hx,cell_keep h.2.2.2.2.1 hx,cell_keep h.2.2.2.2.2.1 hx,cell_keep h.2.2.2.2.2.2.1 hx,cell_keep h.2.2.2.2.2.2.2.1 hx,cell_keep h.2.2.2.2.2.2.2.2 hx⟩
end
theorem sumTo_sz {g:Nat->Rat} {M:Nat}:∀ {n:Nat},(∀ i,i<n->Sz (g i) M)->Sz (sumTo n g) (1+n*(M+1))
 | 0,_=>Sz.zero.mono (by omega)
 | n+1,h=>by
  have e:1+n*(M+1)+M+1=1+(n+1)*(M+1):=by rw [Nat.succ_mul]; omega
  exact ((sumTo_sz (n:=n) (fun i hi=>h i (by omega))).add (h n (by omega))).mono (Nat.le_of_eq e)
def termA (r:RowV) (q:Rat) (j k:Nat):Rat:=if (r.t k).var=(j:Int) then ((r.t k).coef:Rat)*q else 0
def rowA (p:ProgV) (y:List Rat) (j i:Nat):Rat:=sumTo (p.r i).terms.length (termA (p.r i) (atQ y i) j)
theorem combA_eq (p:ProgV) (y:List Rat) (j:Nat):combA p y j=sumTo p.rows.length (rowA p y j):=rfl
theorem termA_sz {r:RowV} {q:Rat} {L:Nat} (hq:Sz q L) {k:Nat} (hk:TermOk (r.t k)) (j:Nat):Sz (termA r q j k) (L+2):=by
 unfold termA
 split
 ·exact ((Sz.int hk.coef).mul hq).mono (by omega)
 ·exact Sz.zero.mono (by omega)
theorem termA_zero {r:RowV} {j k:Nat}:termA r 0 j k=0:=by
 unfold termA
 split
 ·exact Rat.mul_zero _
 ·rfl
theorem rowA_zero {p:ProgV} {y:List Rat} {i:Nat} (h:atQ y i=0) (j:Nat):rowA p y j i=0:=by
 unfold rowA
 rw [h]
 exact sumTo_zero' (fun k _=>termA_zero)
theorem RArr.past {w w':World} {b n:Nat} {f:Nat->Rat} {S:Nat->Prop} (h:RArr w b n f) (hx:Ext S w w') (hb:¬ S b) (hr:∀ v l,Rds w v l->Rds w' v l):RArr w' b n f:=by
 obtain ⟨arr,h1,h2⟩:=h.row
 refine ⟨⟨arr,(hx.blk (blk_lt h1) hb).trans h1,h2⟩,fun i hi=>?_⟩
 obtain ⟨neg,a1,m1,c1,a2,m2,c2,e0,e1,e2,mag,dv',g1,g2,g3⟩:=h.cells i hi
 exact ⟨neg,a1,m1,c1,a2,m2,c2,(hx.cell (p:=⟨b,i*3,none⟩) h.lt hb).trans e0,(hx.cell (p:=⟨b,i*3+1,none⟩) h.lt hb).trans e1,(hx.cell (p:=⟨b,i*3+2,none⟩) h.lt hb).trans e2,mag,dv',g1,hr _ _ g2,hr _ _ g3⟩
def CombPost (w:World) (n:Nat) (f:Nat->Rat) (q:Rat) (r:Ending) (w':World):Prop:=∃ B v,r=.returned (.tuple #[.slice (some ⟨B,0,none⟩) n n,v])/\w.heap.size<=B/\RArr w' B n f/\IsRat w' v q/\XF w w'
theorem Combine_any (w:World) (pv yv:Value) (p:ProgV) (y:List Rat) (L T:Nat) (hp:IsPrg w pv p) (hy:Rats w yv y L) (h1:1<=L) (hT:∀ i,i<p.rows.length->(p.r i).terms.length<=T)
  (hL:1+p.rows.length*(T*(L+3)+2)+(1+T*(L+3))+(L+3)<=4000000) (hL2:1+p.rows.length*(L+3)+(L+3)<=4000000) (hvn:p.vars.length<=1000000) :
  Calls Tryz.prog 111 #[pv,yv] w (CombPost w p.vars.length (combA p y) (combB p y)):=by
 obtain ⟨vv,rv,rfl,hv,hr⟩:=hp
 obtain ⟨vo,vc,rfl,-,-,-⟩:=hv.shape
 obtain ⟨ro,rc,rfl,-,hn,-⟩:=hr.shape
 obtain ⟨yo,yc,rfl,-,hyn,-⟩:=hy.shape
 obtain ⟨b0,b1,b2,hx⟩:=box3 w (.cells #[.slice vo p.vars.length vc,.slice ro p.rows.length rc] 25) (.cells #[.slice yo y.length yc] 26) (.cells #[.bool false,.slice none 0 0,.slice none 0 0] 64)
 have HS:=bH (fun W0 (hW0:XF (((w.alloc (.cells #[.slice vo p.vars.length vc,.slice ro p.rows.length rc] 25)).alloc (.cells #[.slice yo y.length yc] 26)).alloc (.cells #[.bool false,.slice none 0 0,.slice none 0 0] 64)) W0) =>
  lsum_any W0 p.rows.length 164 #[.pointer (some ⟨w.heap.size,0,none⟩),.pointer (some ⟨w.heap.size+1,0,none⟩)] (fun i=>(p.r i).bound) (fun i=>atQ y i) L h1 hL2
   (fun i hi=>(hr.ok i hi).bound) (fun i _=>hy.sz h1 i) (enters_of Tryz.func164 (by kernel_rfl) rfl)
   (fun W hW i hi=>comb1_any W w.heap.size (w.heap.size+1) _ _ _ p y L (blk_keep b0 (hW0.trans hW)) (blk_keep b1 (hW0.trans hW)) (hr.keep ((hx.trans hW0).trans hW)) (hy.keep ((hx.trans hW0).trans hW)) i hi))
 have HV:=bH (bI hr hy)
 have HA:=bH (fun W (hW:XF w W) (i:Nat)=>lat_any W _ y L (hy.keep hW) i)
 have HG:=bH (fun W u q (hu:Rrat W u q L)=>rsign_any W u q L hu (by omega))
 have hsz:∀ i j k,i<p.rows.length->k<(p.r i).terms.length->Sz (sumTo i (rowA p y j)+sumTo k (termA (p.r i) (atQ y i) j)) (1+p.rows.length*(T*(L+3)+2)+(1+T*(L+3))+1):=fun i j k hi hk=>by
  have hok:∀ i,i<p.rows.length->∀ k,k<(p.r i).terms.length->TermOk ((p.r i).t k):=fun i hi k hk=>by
   obtain ⟨_,_,_,_,rfl,_,_,_,_,_,_,_,ht⟩:=hr.atp i hi
   exact ht.ok k hk
  have g1:∀ i,i<p.rows.length->∀ k,k<=(p.r i).terms.length->Sz (sumTo k (termA (p.r i) (atQ y i) j)) (1+T*(L+3)):=fun i hi k hk =>
   (sumTo_sz (M:=L+2) (fun k' hk'=>termA_sz (hy.sz h1 i) (hok i hi k' (by omega)) j)).mono (by
    have:=Nat.mul_le_mul_right (L+3) (Nat.le_trans hk (hT i hi))
    show 1+k*(L+3)<=_
    omega)
  have g2:Sz (sumTo i (rowA p y j)) (1+p.rows.length*(T*(L+3)+2)) :=
   (sumTo_sz (M:=1+T*(L+3)) (fun i' hi'=>g1 i' (by omega) _ (Nat.le_refl _))).mono (by
    have:=Nat.mul_le_mul_right (T*(L+3)+2) (Nat.le_of_lt hi)
    rw [show 1+T*(L+3)+1=T*(L+3)+2 from by omega]
    omega)
  exact g2.add (g1 i hi k (by omega))
 have Hsz:=bH hsz
 have Hq:=bH (fun i=>hy.sz h1 i)
 generalize hM:1+p.rows.length*(T*(L+3)+2)+(1+T*(L+3))+1=M at *
 have hML:M+(L+2)<=4000000:=by omega
 have HB:=bH (bI b0 (bI b1 (bI (boxR_of b2) hx)))
 obtain ⟨w2,hmk,hA,hx2⟩:=run_make_rats (((w.alloc (.cells #[.slice vo p.vars.length vc,.slice ro p.rows.length rc] 25)).alloc (.cells #[.slice yo y.length yc] 26)).alloc (.cells #[.bool false,.slice none 0 0,.slice none 0 0] 64)) p.vars.length hvn
 clear hv hr hy b0 b1 b2 hx hsz hL hL2 hM hT
 obtain ⟨m,hm'⟩:∃ m,p.rows.length=m:=⟨_,rfl⟩
 have HN:=bH hm'
 obtain ⟨qb,hqb⟩:∃ qb,combB p y=qb:=⟨_,rfl⟩
 unfold combB at hqb
 rw [hqb] at HS
 unfold combB
 rw [hqb]
 clear hqb
 rw [hm'] at hn ⊢ HV HB HS Hsz hmk hA hx2
 obtain ⟨yn,hyn'⟩:∃ yn,y.length=yn:=⟨_,rfl⟩
 have HYN:=bH hyn'
 rw [hyn'] at hyn ⊢ HV HB HS HA hmk hA hx2
 clear hyn'
 clear hm'
 generalize p.vars.length=n at *
 go_enter Tryz.func111,Tryz.ntmps111
 go_upto_region 1 with fail
 generalize (((w.alloc (.cells #[.slice vo n vc,.slice ro m rc] 25)).alloc (.cells #[.slice yo yn yc] 26)).alloc (.cells #[.bool false,.slice none 0 0,.slice none 0 0] 64))=w1 at *
 obtain ⟨pb,hpb⟩:∃ pb,w.heap.size=pb:=⟨_,rfl⟩
 have hpw:w.heap.size<=pb:=Nat.le_of_eq hpb
 rw [hpb] at HB HS ⊢
 clear hpb
 obtain ⟨B,hB⟩:∃ B,w1.heap.size=B:=⟨_,rfl⟩
 have hBw:w1.heap.size<=B:=Nat.le_of_eq hB
 have hB3:pb+1+1<B:=by have:=HB.out.2.2.1.lt; omega
 rw [hB] at hmk hA
 clear hB
 have HA2:=bH (bI hA hx2)
 clear hA
 have z0:=cellq HB.out.1 0 rfl
 have z1:=cellq HB.out.1 1 rfl
 have z1':=cell_keep z1 hx2
 clear hx2
 go_wp2_with fail
 clear hmk z0 z1 z1'
 go_loopg [18] m (fun gg v18 wr=>∃ i:Nat,i<=m/\gg=m - i/\v18=.int .i64 i/\RArr wr B n (fun j=>sumTo i (rowA p y j))/\XF w1 wr)
 case atStart=>exact ⟨0,Nat.zero_le _,rfl,rfl,HA2.out.1.congr (fun _ _=>rfl),HA2.out.2⟩
 case round =>
  obtain ⟨i,hi,rfl,rfl,harr,hx⟩:=hrel
  by_cases hin:i<m
  ·have i0:(i:Int)<(m:Int):=by omega
   have hX0:=HB.out.2.2.2.trans hx
   have HX:=bH (bI harr hx)
   clear harr hx
   obtain ⟨b,off,ta,tc,rfl,hlt,e0,e1,e2,e3,e4,-,htm⟩:=HV.out.1.atp i (by rw [HN.out]; exact hin)
   replace e0:=cell_keep e0 hX0
   replace e1:=cell_keep e1 hX0
   replace e2:=cell_keep e2 hX0
   replace e3:=cell_keep e3 hX0
   replace e4:=cell_keep e4 hX0
   have Htm:=bH htm
   obtain ⟨-,-,-,-,htn,-⟩:=htm.shape
   clear htm
   have HA1:=bH (fun W (hW:XF wr W)=>HA.out W (hX0.trans hW) i)
   have HszI:=bH (fun j k hk=>Hsz.out i j k hin hk)
   obtain ⟨tl,htl⟩:∃ tl,(p.r i).terms.length=tl:=⟨_,rfl⟩
   rw [htl] at e3 Htm HszI htn
   have HTL:=bH htl
   have hx3:=(Ext.refl (fun _=>False) wr).alloc (.cells #[.string (p.r i).name,.int .i64 (p.r i).group,.int .i64 (p.r i).kind,.slice ta tl tc,.int .i64 (p.r i).bound] 35)
   have hb3:=blk_alloc_at wr (.cells #[.string (p.r i).name,.int .i64 (p.r i).group,.int .i64 (p.r i).kind,.slice ta tl tc,.int .i64 (p.r i).bound] 35)
   have HB3:=bH (bI hb3 hx3)
   clear hb3 hx3 htl hX0
   have y0:=cell_keep (cell_keep (cellq HB.out.2.1 0 rfl) HX.out.2) HB3.out.2
   go_upto_region 5 with fail
   obtain ⟨rb,hrb⟩:∃ rb,wr.heap.size=rb:=⟨_,rfl⟩
   rw [hrb] at HB3 ⊢
   generalize wr.alloc (.cells #[.string (p.r i).name,.int .i64 (p.r i).group,.int .i64 (p.r i).kind,.slice ta tl tc,.int .i64 (p.r i).bound] 35)=w3 at *
   clear e0 e1 e2 e3 e4 hrb
   go_wp2_with fail
   refine (HA1.out w3 HB3.out.2).mono ?_
   rintro r4 w4 ⟨v4,rfl,h4,hx4⟩
   have HG4:=bH (HG.out w4 v4 _ h4)
   have HX4:=bH hx4
   clear h4 hx4 HA1 y0
   go_wp2_with fail
   refine HG4.out.mono ?_
   rintro r5 w5 ⟨rfl,hx5⟩
   have hx35:=HX4.out.trans hx5
   have HX5:=bH (HB3.out.2.trans hx35)
   have e3:=cell_keep (cellq HB3.out.1 3 rfl) hx35
   clear hx5 hx35 HX4 HG4
   by_cases hs:(atQ y i).num.sign=0
   ·have hs':((atQ y i).num.sign == 0)=true:=by simpa using hs
    have hz:=(sign_zero _).1 hs
    have HZ:=bH hz
    clear hz
    rw [hs]
    clear hs hs'
    go_wp2
    go_roundg (m - (i+1))
    case measure=>omega
    case rel=>exact ⟨i+1,by omega,rfl,by go_num,(HX.out.1.keep HX5.out).congr (fun j _=>(by show _=sumTo i (rowA p y j)+rowA p y j i; rw [rowA_zero HZ.out,Rat.add_zero])),HX.out.2.trans HX5.out⟩
   ·have hs1:((atQ y i).num.sign == 0)=false:=by simpa using hs
    have hin2:i<y.length:=by
     refine Nat.lt_of_not_le (fun hle=>hs ?_)
     rw [atQ_out y (by omega)]; rfl
    have HI2:=bH hin2
    clear hin2
    generalize (atQ y i).num.sign=sg at *
    go_wp2_with fail
    go_loopg [31] tl (fun gg v31 wq=>∃ k:Nat,k<=tl/\gg=tl - k/\v31=.int .i64 k/\RArr wq B n (fun j=>sumTo i (rowA p y j)+sumTo k (termA (p.r i) (atQ y i) j))/\XF w1 wq)
    case atStart=>exact ⟨0,Nat.zero_le _,rfl,rfl,(HX.out.1.keep HX5.out).congr (fun j _=>(by show _=_+(0:Rat); rw [Rat.add_zero])),HX.out.2.trans HX5.out⟩
    case round =>
     obtain ⟨k,hk,rfl,rfl,harr,hx⟩:=hrel
     clear e3
     by_cases hkn:k<tl
     ·have k0:(k:Int)<(tl:Int):=by omega
      have HW:=bH (bI harr hx)
      clear harr hx
      have hX0:=HB.out.2.2.2.trans HW.out.2
      obtain ⟨bt,offt,rfl,-,f0,f1,hok⟩:=(Htm.out.keep hX0).atr k (by rw [HTL.out]; exact hkn)
      have Hsz2:=bH (fun j=>HszI.out j k hkn)
      have HTA:=bH (show ∀ j,termA (p.r i) (atQ y i) j k=if ((p.r i).t k).var=(j:Int) then (((p.r i).t k).coef:Rat)*atQ y i else 0 from fun _=>rfl)
      have HOk:=bH hok
      clear hok
      obtain ⟨tv,htv⟩:∃ tv,((p.r i).t k).var=tv:=⟨_,rfl⟩
      obtain ⟨co,hco⟩:∃ co,((p.r i).t k).coef=co:=⟨_,rfl⟩
      have HOk':=bH (bI HOk.out.var HOk.out.coef)
      rw [htv] at f0 HTA
      rw [hco] at f1 HTA
      rw [htv,hco] at HOk'
      clear HOk htv hco
      have hx6:=(Ext.refl (fun _=>False) wr).alloc (.cells #[.int .i64 tv,.int .i64 co] 70)
      have hb6:=blk_alloc_at wr (.cells #[.int .i64 tv,.int .i64 co] 70)
      have HB6:=bH (bI hb6 hx6)
      have hBq:=HW.out.1.lt
      clear hb6 hx6 hX0
      go_upto_region 9 with fail
      obtain ⟨tb,htb⟩:∃ tb,wr.heap.size=tb:=⟨_,rfl⟩
      rw [htb] at HB6 hBq ⊢
      generalize wr.alloc (.cells #[.int .i64 tv,.int .i64 co] 70)=w6 at *
      clear f0 f1 htb
      obtain ⟨x0,x1⟩:w6.cell? ⟨tb,0,none⟩=some (.int .i64 tv)/\w6.cell? ⟨tb,1,none⟩=some (.int .i64 co):=⟨cellq HB6.out.1 0 rfl,cellq HB6.out.1 1 rfl⟩
      by_cases hin3:0<=tv/\tv<(n:Int)
      ·obtain ⟨v,rfl⟩:∃ v:Nat,tv=v:=⟨tv.toNat,by omega⟩
       have hvn:v<n:=by omega
       have v0:(0:Int)<=(v:Int):=by omega
       have v1:(v:Int)<(n:Int):=by omega
       clear hin3
       have hX6:=(HB.out.2.2.2.trans HW.out.2).trans HB6.out.2
       obtain ⟨yb,yoff,yn0,ya,yl,yc1,ya2,yl2,yc2,hyo,-,y0,y1,y2,hyq⟩:=HV.out.2.at i (by exact HI2.out)
       have hyq6:=hyq.keep hX6
       have harr6:=HW.out.1.keep HB6.out.2
       obtain ⟨on,oa,ol,oc,oa2,ol2,oc2,o0,o1,o2,hoq⟩:=harr6.cells v hvn
       have hyb:=cell_keep (cell_keep (cellq HB.out.2.1 0 rfl) HW.out.2) HB6.out.2
       rw [hyo] at hyb
       have i1:(i:Int)<(yn:Int):=by have:=HI2.out; rw [HYN.out] at this; omega
       have i00:(0:Int)<=(i:Int):=by omega
       have hS:S9 tb tb B B B (pb+1) yb yb yb 0 1 (v*3) (v*3+1) (v*3+2) 0 (yoff+i*3) (yoff+i*3+1) (yoff+i*3+2) (.int .i64 v) (.int .i64 co) (.bool on) (.slice oa ol oc) (.slice oa2 ol2 oc2) (.slice (some ⟨yb,yoff,none⟩) yn yc) (.bool yn0) (.slice ya yl yc1) (.slice ya2 yl2 yc2) w6 :=
        ⟨x0,x1,o0,o1,o2,hyb,cell_keep y0 hX6,cell_keep y1 hX6,cell_keep y2 hX6⟩
       have HF:=bH (fun W=>rfrom_any W co HOk'.out.2.1 HOk'.out.2.2)
       have HM:=bH (fun W (hW:XF w6 W) u (hu:IsRat W u ((co:Int):Rat))=>rmul_any W u _ _ (atQ y i) (L+2) (hu.reads ((Sz.int HOk'.out.2).mono (by omega))) ((hyq6.keep hW).mono (by omega)) (by omega) (by omega))
       have hpr:=(Sz.int HOk'.out.2).mul (Hq.out i)
       have HAd:=bH (fun W (hW:XF w6 W) u (hu:IsRat W u ((co:Rat)*atQ y i))=>radd_any W _ u _ _ (M+(L+2)) ((hoq.keep hW).reads ((Hsz2.out v).mono (by omega))) (hu.reads (hpr.mono (by omega))) (by omega) (by omega))
       have HArr:=bH (bI harr6 ((HW.out.2.trans HB6.out.2)))
       have HTv:=bH (show (fun j=>if j=v then (sumTo i (rowA p y v)+sumTo k (termA (p.r i) (atQ y i) v))+(co:Rat)*atQ y i else sumTo i (rowA p y j)+sumTo k (termA (p.r i) (atQ y i) j))=fun j=>sumTo i (rowA p y j)+sumTo (k+1) (termA (p.r i) (atQ y i) j) from funext fun j=>(by
        show _=sumTo i (rowA p y j)+(sumTo k (termA (p.r i) (atQ y i) j)+termA (p.r i) (atQ y i) j k)
        rw [HTA.out]
        by_cases e:j=v
        ·rw [if_pos e,e,if_pos rfl]; grind
        ·rw [if_neg e,if_neg (by omega)]; grind))
       clear x0 x1 o0 o1 o2 hyb y0 y1 y2 hyq hyq6 harr6 hoq hpr hX6 hyo Hsz2 HszI Hq Hsz HTA HA HG HS
       go_upto_region 10 with fail
       have Hv:=bH hvn
       clear hvn
       refine ends_begin 18 (S9 tb tb B B B (pb+1) yb yb yb 0 1 (v*3) (v*3+1) (v*3+2) 0 (yoff+i*3) (yoff+i*3+1) (yoff+i*3+2) (.int .i64 v) (.int .i64 co) (.bool on) (.slice oa ol oc) (.slice oa2 ol2 oc2) (.slice (some ⟨yb,yoff,none⟩) yn yc) (.bool yn0) (.slice ya yl yc1) (.slice ya2 yl2 yc2)) (by kernel_rfl) (hS.drew) (fun hHeld=>?_)
       refine ends_take 0 (v:=?_) rfl (by kernel_rfl) (by kernel_rfl) (by kernel_rfl) (by kernel_rfl) (fun _ _ _ h=>h) (by rfl) ?_ (by assumption) ?_
       rotate_left
       ·((intro w hSw; (try dsimp only at hSw); go_simp) <;> with_reducible rfl)
       (try go_frame)
       refine ends_take 1 (v:=?_) rfl (by kernel_rfl) (by kernel_rfl) (by kernel_rfl) (by kernel_rfl) (fun _ _ _ h=>h) (by rfl) ?_ (by assumption) ?_
       rotate_left
       ·((intro w hSw; (try dsimp only at hSw); go_simp) <;> with_reducible rfl)
       (try go_frame)
       refine ends_take 2 (v:=?_) rfl (by kernel_rfl) (by kernel_rfl) (by kernel_rfl) (by kernel_rfl) (fun _ _ _ h=>h) (by rfl) ?_ (by assumption) ?_
       rotate_left
       ·((intro w hSw; (try dsimp only at hSw); go_simp) <;> with_reducible rfl)
       (try go_frame)
       refine ends_take 3 (v:=?_) rfl (by kernel_rfl) (by kernel_rfl) (by kernel_rfl) (by kernel_rfl) (fun _ _ _ h=>h) (by rfl) ?_ (by assumption) ?_
       rotate_left
       ·((intro w hSw; (try dsimp only at hSw); go_simp) <;> with_reducible rfl)
       (try go_frame)
       refine ends_take 4 (v:=?_) rfl (by kernel_rfl) (by kernel_rfl) (by kernel_rfl) (by kernel_rfl) (fun _ _ _ h=>h) (by rfl) ?_ (by assumption) ?_
       rotate_left
       ·((intro w hSw; (try dsimp only at hSw); go_simp) <;> with_reducible rfl)
       (try go_frame)
       refine ends_take 5 (v:=?_) rfl (by kernel_rfl) (by kernel_rfl) (by kernel_rfl) (by kernel_rfl) (fun _ _ _ h=>h) (by rfl) ?_ (by assumption) ?_
       rotate_left
       ·((intro w hSw; (try dsimp only at hSw); go_simp) <;> with_reducible rfl)
       (try go_frame)
       refine ends_take 6 (v:=?_) rfl (by kernel_rfl) (by kernel_rfl) (by kernel_rfl) (by kernel_rfl) (fun _ _ _ h=>h) (by rfl) ?_ (by assumption) ?_
       rotate_left
       ·((intro w hSw; (try dsimp only at hSw); go_simp) <;> with_reducible rfl)
       (try go_frame)
       refine ends_take 7 (v:=?_) rfl (by kernel_rfl) (by kernel_rfl) (by kernel_rfl) (by kernel_rfl) (fun _ _ _ h=>h) (by rfl) ?_ (by assumption) ?_
       rotate_left
       ·((intro w hSw; (try dsimp only at hSw); go_simp) <;> with_reducible rfl)
       (try go_frame)
       refine ends_take 8 (v:=?_) rfl (by kernel_rfl) (by kernel_rfl) (by kernel_rfl) (by kernel_rfl) (fun _ _ _ h=>h) (by rfl) ?_ (by assumption) ?_
       rotate_left
       ·((intro w hSw; (try dsimp only at hSw); go_simp) <;> with_reducible rfl)
       (try go_frame)
       refine ends_take 9 (v:=?_) rfl (by kernel_rfl) (by kernel_rfl) (by kernel_rfl) (by kernel_rfl) (fun _ _ _ h=>h) (by rfl) ?_ (by assumption) ?_
       rotate_left
       ·((intro w hSw; (try dsimp only at hSw); go_simp) <;> with_reducible rfl)
       (try go_frame)
       refine ends_take 11 (v:=?_) rfl (by kernel_rfl) (by kernel_rfl) (by kernel_rfl) (by kernel_rfl) (fun _ _ _ h=>h) (by rfl) ?_ (by assumption) ?_
       rotate_left
       ·((intro w hSw; (try dsimp only at hSw); go_simp) <;> with_reducible rfl)
       (try go_frame)
       refine ends_take 12 (v:=?_) rfl (by kernel_rfl) (by kernel_rfl) (by kernel_rfl) (by kernel_rfl) (fun _ _ _ h=>h) (by rfl) ?_ (by assumption) ?_
       rotate_left
       ·((intro w hSw; (try dsimp only at hSw); go_simp) <;> with_reducible rfl)
       (try go_frame)
       refine ends_take 13 (v:=?_) rfl (by kernel_rfl) (by kernel_rfl) (by kernel_rfl) (by kernel_rfl) (fun _ _ _ h=>h) (by rfl) ?_ (by assumption) ?_
       rotate_left
       ·((intro w hSw; (try dsimp only at hSw); go_simp) <;> with_reducible rfl)
       (try go_frame)
       refine ends_take 14 (v:=?_) rfl (by kernel_rfl) (by kernel_rfl) (by kernel_rfl) (by kernel_rfl) (fun _ _ _ h=>h) (by rfl) ?_ (by assumption) ?_
       rotate_left
       ·((intro w hSw; (try dsimp only at hSw); go_simp) <;> with_reducible rfl)
       (try go_frame)
       refine ends_step 10 rfl (by kernel_rfl) (fun K hK=>?_)
       (go_simp; go_at_call 85; (with_reducible refine (HF.out _).mono ?_); rintro q1 w11 ⟨v11,rfl,h11,hx11⟩; have hX1:=(Ext.refl (fun _=>False) w6).drew.trans hx11; have hK1:=hS.keep hX1; have hM:=HM.out w11 hX1 _ h11; obtain ⟨n11,a11,l11,c11,a11',l11',c11',rfl⟩:=h11.shape)
       refine hK.out _ _ (hK1) (fun hHeld=>?_)
       clear hK K
       (try go_frame)
       refine ends_step 15 rfl (by kernel_rfl) (fun K hK=>?_)
       (go_simp; go_at_call 116; (with_reducible refine hM.mono ?_); rintro q2 w12 ⟨v12,rfl,h12,hx12⟩; have hX2:=hX1.trans hx12; have hK2:=hS.keep hX2; have hA3:=HAd.out w12 hX2 _ h12; obtain ⟨n12,a12,l12,c12,a12',l12',c12',rfl⟩:=h12.shape)
       refine hK.out _ _ (hK2) (fun hHeld=>?_)
       clear hK K
       (try go_frame)
       refine ends_step 16 rfl (by kernel_rfl) (fun K hK=>?_)
       (go_simp; go_at_call 117; (with_reducible refine hA3.mono ?_); rintro q3 w13 ⟨v13,rfl,h13,hx13⟩; have hX3:=hX2.trans hx13; have hK3:=hS.keep hX3; obtain ⟨n13,a13,l13,c13,a13',l13',c13',rfl⟩:=h13.shape)
       refine hK.out _ _ (hK3) (fun hHeld=>?_)
       clear hK K
       (try go_frame)
       refine ends_take 17 (v:=?_) rfl (by kernel_rfl) (by kernel_rfl) (by kernel_rfl) (by kernel_rfl) (fun _ _ _ h=>h) (by rfl) ?_ (by assumption) ?_
       rotate_left
       ·((intro w hSw; (try dsimp only at hSw); go_simp) <;> with_reducible rfl)
       (try go_frame)
       have harr13:=HArr.out.1.keep hX3
       have fz0:=harr13.free (v*3)
       have fz1:=harr13.free (v*3+1)
       have fz2:=harr13.free (v*3+2)
       obtain ⟨-,-,t0,t1,t2,-⟩:=hHeld
       refine ends_last rfl (by kernel_rfl) (fun K hK=>?_)
       go_simp
       refine hK.out _ _ ?_
       clear hK K
       (try go_frame)
       refine ends_done (by kernel_rfl) ?_ _
       have HX13:=bH (HArr.out.2.trans hX3)
       obtain ⟨p1,p2,-⟩:=harr13.put Hv.out h13
       have HP:=bH (bI p1 (HX13.out.own p2 (fun q e=>by omega)))
       clear p1 p2 harr13 h11 h12 h13 hx11 hx12 hx13 hX1 hX2 hX3 hK1 hK2 hK3 hS hM hA3 t0 t1 t2 fz0 fz1 fz2
       generalize ((w13.setCell ⟨B,v*3,none⟩ (.bool n13)).setCell ⟨B,v*3+1,none⟩ (.slice a13 l13 c13)).setCell ⟨B,v*3+2,none⟩ (.slice a13' l13' c13')=w9 at *
       go_wp2
       go_roundg (tl - (k+1))
       case measure=>omega
       case rel=>exact ⟨k+1,by omega,rfl,by go_num,(by have h0:=HP.out.1; rw [HTv.out] at h0; exact h0),HP.out.2⟩
      ·have hz:∀ j,j<n->termA (p.r i) (atQ y i) j k=0:=fun j hj=>by
        rw [HTA.out,if_neg (by omega)]
       have HZ:=bH hz
       have HE:=bH (bI (HW.out.1.keep HB6.out.2) (HW.out.2.trans HB6.out.2))
       clear hz
       by_cases hin4:0<=tv
       ·have hin5:¬ tv<(n:Int):=by omega
        go_wp2
        go_roundg (tl - (k+1))
        case measure=>omega
        case rel=>exact ⟨k+1,by omega,rfl,by go_num,HE.out.1.congr (fun j hj=>(by show _=sumTo i (rowA p y j)+(sumTo k (termA (p.r i) (atQ y i) j)+termA (p.r i) (atQ y i) j k); rw [HZ.out j hj,Rat.add_zero])),HE.out.2⟩
       ·go_wp2
        go_roundg (tl - (k+1))
        case measure=>omega
        case rel=>exact ⟨k+1,by omega,rfl,by go_num,HE.out.1.congr (fun j hj=>(by show _=sumTo i (rowA p y j)+(sumTo k (termA (p.r i) (atQ y i) j)+termA (p.r i) (atQ y i) j k); rw [HZ.out j hj,Rat.add_zero])),HE.out.2⟩
     ·obtain rfl:k=tl:=by omega
      have HW:=bH (bI harr hx)
      clear harr hx
      go_wp2
      go_roundg (m - (i+1))
      case measure=>omega
      case rel=>exact ⟨i+1,by omega,rfl,by go_num,HW.out.1.congr (fun j hj=>(by show _=sumTo i (rowA p y j)+rowA p y j i; unfold rowA; rw [HTL.out])),HW.out.2⟩
  ·obtain rfl:i=m:=by omega
   have HX:=bH (bI harr hx)
   clear harr hx
   have z1:=cell_keep (cellq HB.out.1 1 rfl) HX.out.2
   go_wp2_with fail
   refine (HS.out wr HX.out.2).mono ?_
   rintro r2 w2' ⟨v2,rfl,h2,hx2⟩
   obtain ⟨ng,sa,sn,sc,ta,tn,tc,rfl⟩:=h2.shape
   have hr3:=(HB.out.2.2.1.keep HX.out.2).keep hx2
   obtain ⟨d0,d1,d2,d3,d4,d5⟩:=hr3.facts
   have hp:=hr3.put (neg:=ng) (no_int sa sn sc) (no_int ta tn tc)
   have harr9:=(HX.out.1.keep hx2)
   have hne:¬ B=pb+1+1:=by omega
   have HP:=bH (bI hp (bI (hp.rat h2) (bI ((HB.out.2.2.2.trans (HX.out.2.trans hx2)).own hp.ext (fun k e=>by omega)) (harr9.past hp.ext hne hp.rds))))
   clear h2 hr3 hx2 hp harr9 HS
   go_wp2
   generalize (((w2'.setCell ⟨pb+1+1,0,none⟩ (.bool ng)).setCell ⟨pb+1+1,1,none⟩ (.slice sa sn sc)).setCell ⟨pb+1+1,2,none⟩ (.slice ta tn tc))=w9 at *
   obtain ⟨g0,g1,g2,_⟩:=HP.out.1.box.facts
   refine bodyPost_ret (v:=.tuple #[.slice (some ⟨B,0,none⟩) n n,.agg #[.bool ng,.slice sa sn sc,.slice ta tn tc]]) (by simp [results,Tryz.results111,go_sem,g0,g1,g2]) rfl ⟨B,_,rfl,by omega,HP.out.2.2.2.congr (fun j hj=>(combA_eq p y j).symm ▸ HN.out ▸ rfl),HP.out.2.1,HP.out.2.2.1⟩
def nv (k:Nat):Value:=.int .i64 (k:Int)
theorem nv_one (k:Nat):∀ u ∈ [Value.int .i64 (k:Int)],u.oneCell'=true:=fun u hu=>by
 rw [List.mem_singleton.1 hu]; rfl
def NOwn (w:World) (base:Nat) (v:Value) (l:List Nat):Prop:=w.ownsRow base 3 1 v l.length (l.map nv)
theorem nown_app {w:World} {base j k:Nat} {v:Value} {o:List Nat} (hlen:o.length=j) (h:w.ownsRow base 3 1 v (j+1) (o.map nv++[.int .i64 (k:Int)])):NOwn w base v (o++[k]):=by
 unfold NOwn
 rw [List.length_append,hlen,List.map_append]
 exact h
theorem NOwn.keep {w w':World} {base:Nat} {v:Value} {l:List Nat} (h:NOwn w base v l) (hx:XF w w'):NOwn w' base v l:=ownsRow_ext h hx (fun _ _ h=>h)
theorem NOwn.shape {w:World} {base:Nat} {v:Value} {l:List Nat} (h:NOwn w base v l):∃ ao cap,v=.slice ao l.length cap:=ownsRow_shape h
def NumsPost (w:World) (l:List Nat) (r:Ending) (w':World):Prop:=∃ v,r=.returned v/\NOwn w' w.heap.size v l/\XF w w'
theorem Tryz.infoInt:(Tryz.prog.info? 3).map (fun i=>(i.zero,i.size,i.bytes))=some (some (.int .i64 0),1,8):=by kernel_rfl
theorem Rats.take {w:World} {ao:Option Addr} {n c:Nat} {l:List Rat} {L:Nat} (h:Rats w (.slice ao n c) l L) (k:Nat) (hk:k<=n):Rats w (.slice ao k c) (l.take k) L:=by
 obtain ⟨cs,h0,⟨ao',c',e,h1,h2,h3,h4⟩,h5⟩:=h
 cases e
 refine ⟨cs.take k,by simp [h0],⟨ao,c,by rw [List.length_take,Nat.min_eq_left hk],by rw [List.length_take]; omega,h2,h3,fun hp=>?_⟩,fun i c' q hc hq=>?_⟩
 ·rw [List.length_take] at hp
  obtain ⟨b,off,e,hb,hc⟩:=h4 (by omega)
  refine ⟨b,off,e,hb,fun i r hi j u hu=>hc i r ?_ j u hu⟩
  rw [List.getElem?_take] at hi
  split at hi
  ·exact hi
  ·cases hi
 ·rw [List.getElem?_take] at hc hq
  split at hc
  ·rename_i hik
   rw [if_pos hik] at hq
   exact h5 i c' q hc hq
  ·cases hc
theorem dot_sz {ts:List TermV} {x:List Rat} {L T:Nat} (ht:∀ k,k<ts.length->TermOk (ts.getD k term0)) (hx:∀ i:Int,Sz (atQ x i) L) (hT:ts.length<=T):Sz (dotQ ts x) (1+T*(L+3)) :=
 (sumTo_sz (M:=L+2) (fun k hk=>((Sz.int (ht k hk).coef).mul (hx _)).mono (by omega))).mono (by
  have:=Nat.mul_le_mul_right (L+3) hT
  show 1+ts.length*(L+3)<=_
  omega)
theorem Rws.term_ok {p:ProgV} {w:World} {v:Value} (h:Rws w v p.rows) {i:Nat} (hi:i<p.rows.length):∀ k,k<(p.r i).terms.length->TermOk ((p.r i).t k):=fun k hk=>by
 obtain ⟨ao,c,rfl,_⟩:=h.shape
 obtain ⟨_,_,_,_,_,_,_,_,_,_,_,_,ht⟩:=h.atp i hi
 exact ht.ok k hk
theorem kind_sign {k:Int} {d b:Rat}:kindB k d b=if k=0 then !decide (0<(d - b).num.sign) else if k=1 then !decide ((d - b).num.sign<0) else decide ((d - b).num.sign=0):=by
 have h1:=sign_lt (d - b)
 have h2:=sign_gt (d - b)
 have h3:=sign_zero (d - b)
 unfold kindB
 split
 ·rw [<- decide_not]; exact decide_eq_decide.2 ⟨fun h h'=>by have:=h2.1 h'; grind,fun h=>Rat.not_lt.1 (fun h'=>h (h2.2 (by grind)))⟩
 ·split
  ·rw [<- decide_not]; exact decide_eq_decide.2 ⟨fun h h'=>by have:=h1.1 h'; grind,fun h=>Rat.not_lt.1 (fun h'=>h (h1.2 (by grind)))⟩
  ·exact decide_eq_decide.2 ⟨fun h=>h3.2 (by grind),fun h=>by have:=h3.1 h; grind⟩
end Go.Proofs.YtjaldknfeojjkaaGreat
namespace Go.Proofs
open Go.Shelf
def Tryz.laysGw17_ren:Go.Shelf.Ren:=⟨fun | 17=>108 | 15=>163 | 20=>208 | n=>n,fun | 9=>9 | 23=>133 | 4=>4 | 3=>3 | 0=>0 | 21=>21 | n=>n,fun | n=>n⟩
theorem Tryz.laysGw17:Go.Proofs.LaysGw.n17 Tryz.prog Tryz.laysGw17_ren:={
 mixed:=by kernel_rfl
 f15:=Tryz.func163.trans (congrArg some (by kernel_rfl))
 f17:=Tryz.func108.trans (congrArg some (by kernel_rfl))
 f20:=Tryz.func208.trans (congrArg some (by kernel_rfl))
 t0:=Tryz.underlying0
 a0:=Tryz.isAgg0
 z0:=Tryz.sizeOf0
 v0:=Tryz.zeroValue0
 i0:=by kernel_rfl
 t3:=Tryz.underlying3
 a3:=Tryz.isAgg3
 z3:=Tryz.sizeOf3
 v3:=Tryz.zeroValue3
 i3:=by kernel_rfl
 t4:=Tryz.underlying4
 a4:=Tryz.isAgg4
 z4:=Tryz.sizeOf4
 v4:=Tryz.zeroValue4
 i4:=by kernel_rfl
 t9:=Tryz.underlying9
 a9:=Tryz.isAgg9
 z9:=Tryz.sizeOf9
 v9:=Tryz.zeroValue9
 i9:=by kernel_rfl
 t21:=Tryz.underlying21
 a21:=Tryz.isAgg21
 z21:=Tryz.sizeOf21
 v21:=Tryz.zeroValue21
 i21:=by kernel_rfl
 t23:=Tryz.underlying133
 a23:=Tryz.isAgg133
 z23:=Tryz.sizeOf133
 v23:=Tryz.zeroValue133
 i23:=by kernel_rfl }
open Go.RowKit Go.Lib in
theorem Tryz.strings_ContainsFunc (g:Nat) (lb:Array Value) (eg:∀ args w,(callFunc g args).run Tryz.prog w=.ok (.enter g args) w) (p:Nat->Bool) (s:ByteArray) (w:World) (hp:PredAt Tryz.prog g lb encR p w) :
  Calls Tryz.prog 108 #[.string s,.func (.func g) #[] lb] w fun e w'=>e=.returned (.bool (decide (0<=Lib.idxFunc p true s)))/\Below w.heap.size w w':=Any.strings_ContainsFunc Tryz.laysGw17 g lb eg p s w hp
def Tryz.laysNm215_ren:Go.Shelf.Ren:=⟨fun | 15=>78 | n=>n,fun | 22=>27 | 3=>3 | 4=>4 | n=>n,fun | n=>n⟩
theorem Tryz.laysNm215:Go.Proofs.Lays2.n15 Tryz.prog Tryz.laysNm215_ren:={
 mixed:=by kernel_rfl
 f15:=Tryz.func78.trans (congrArg some (by kernel_rfl))
 t3:=Tryz.underlying3
 a3:=Tryz.isAgg3
 z3:=Tryz.sizeOf3
 v3:=Tryz.zeroValue3
 t4:=Tryz.underlying4
 a4:=Tryz.isAgg4
 z4:=Tryz.sizeOf4
 v4:=Tryz.zeroValue4
 t22:=Tryz.underlying27
 a22:=Tryz.isAgg27
 z22:=Tryz.sizeOf27
 v22:=Tryz.zeroValue27
 i3:=by kernel_rfl }
open Go.RowKit Go.Lib in
theorem Tryz.slices_Clone_int (b off n c:Nat) (zs:List Int) (w:World) (hz:n<=zs.length) (hbig:n*8<=140737488355328) (hc:∀ j,j<zs.length->w.cell? ⟨b,off+j,none⟩=some (.int .i64 (zs.getD j 0))) :
  Calls Tryz.prog 78 #[.slice (some ⟨b,off,none⟩) n c] w fun e w'=>∃ v',e=.returned v'/\w'.ownsRow w.heap.size 3 1 v' n ((zs.take n).map (Value.int .i64))/\v'≠.slice none 0 0/\Below w.heap.size w w':=Any.slices_Clone_int Tryz.laysNm215 b off n c zs w hz hbig hc
def Tryz.laysSlH8_f105_ren:Go.Shelf.Ren:=⟨fun | 8=>105 | 6=>162 | n=>n,fun | 22=>85 | 23=>2 | 25=>77 | 4=>4 | 3=>3 | 0=>0 | n=>n,fun | n=>n⟩
theorem Tryz.laysSlH8_f105:Go.Proofs.SlLaysH.n8 Tryz.prog Tryz.laysSlH8_f105_ren:={
 mixed:=by kernel_rfl
 f6:=⟨Tryz.f162.name,by decide,Tryz.func162.trans (congrArg some (by kernel_rfl))⟩
 f8:=⟨Tryz.f105.name,by decide,Tryz.func105.trans (congrArg some (by kernel_rfl))⟩
 t0:=Tryz.underlying0
 a0:=Tryz.isAgg0
 z0:=Tryz.sizeOf0
 v0:=Tryz.zeroValue0
 t3:=Tryz.underlying3
 a3:=Tryz.isAgg3
 z3:=Tryz.sizeOf3
 v3:=Tryz.zeroValue3
 t4:=Tryz.underlying4
 a4:=Tryz.isAgg4
 z4:=Tryz.sizeOf4
 v4:=Tryz.zeroValue4
 t22:=Tryz.underlying85
 a22:=Tryz.isAgg85
 z22:=Tryz.sizeOf85
 v22:=Tryz.zeroValue85
 a23:=Tryz.isAgg2
 z23:=Tryz.sizeOf2
 t25:=Tryz.underlying77
 a25:=Tryz.isAgg77
 z25:=Tryz.sizeOf77
 v25:=Tryz.zeroValue77 }
open Go.RowKit Go.Lib in
theorem Tryz.slices_ContainsFunc {α:Type} [Inhabited α] (enc:α->Value) (p:α->Bool) (g:Nat) (lb:Array Value) (eg:∀ args w,(callFunc g args).run Tryz.prog w=.ok (.enter g args) w) (b off n c:Nat) (zs:List α) (w:World) (hp:PredAt Tryz.prog g lb enc p w) (hz:n<=zs.length) (hbig:n<=9223372036854775807) (hc:∀ j,j<zs.length->w.cell? ⟨b,off+j,none⟩=some (enc zs[j]!)) :
  Calls Tryz.prog 105 #[.slice (some ⟨b,off,none⟩) n c,.func (.func g) #[] lb] w fun e w'=>e=.returned (.bool ((zs.take n).any p))/\∃ q,w'=w.drewN q:=AnyE.slices_ContainsFunc Tryz.laysSlH8_f105 enc p g lb eg b off n c zs w hp hz hbig hc
def Tryz.laysRow8_ren:Go.Shelf.Ren:=⟨fun | 8=>58 | 6=>107 | n=>n,fun | 22=>23 | 23=>35 | 25=>94 | 4=>4 | 3=>3 | 0=>0 | n=>n,fun | n=>n⟩
theorem Tryz.laysRow8:Go.Proofs.SlLaysH0.n8 Tryz.prog Tryz.laysRow8_ren:={
 mixed:=by kernel_rfl
 f6:=⟨Tryz.f107.name,by decide,Tryz.func107.trans (congrArg some (by kernel_rfl))⟩
 f8:=⟨Tryz.f58.name,by decide,Tryz.func58.trans (congrArg some (by kernel_rfl))⟩
 t0:=Tryz.underlying0
 a0:=Tryz.isAgg0
 z0:=Tryz.sizeOf0
 v0:=Tryz.zeroValue0
 t3:=Tryz.underlying3
 a3:=Tryz.isAgg3
 z3:=Tryz.sizeOf3
 v3:=Tryz.zeroValue3
 t4:=Tryz.underlying4
 a4:=Tryz.isAgg4
 z4:=Tryz.sizeOf4
 v4:=Tryz.zeroValue4
 t22:=Tryz.underlying23
 a22:=Tryz.isAgg23
 z22:=Tryz.sizeOf23
 v22:=Tryz.zeroValue23
 t25:=Tryz.underlying94
 a25:=Tryz.isAgg94
 z25:=Tryz.sizeOf94
 v25:=Tryz.zeroValue94 }
end Go.Proofs
namespace Go.Proofs.YtjaldknfeojjkaaGreat
open Go.RowKit Go.MapKept
open Go.ChangeMaps (setBlock)
open Go.RowKit Go.MapKept Go.Lib
theorem Below.ext {w w':World} (h:Below w.heap.size w w'):XF w w':=⟨h.os,h.tape,h.output,h.size,fun k hk _=>h.block k hk⟩
theorem limited1_pred (w:World):PredAt Tryz.prog 106 #[] (fun z:Int=>Value.int .i64 z) (fun z=>!limB z) w:=fun W z _=>by
 unfold FnGives limB
 by_cases h1:z < -1099511627776
 ·go_enter Tryz.func106,Tryz.ntmps106
  go_wp2
  go_ret
  exact ⟨ret_bool (by first | rfl | (simp; done) | (simp; omega) | omega),0,rfl⟩
 ·by_cases h2:1099511627776<z
  ·go_enter Tryz.func106,Tryz.ntmps106
   go_wp2
   go_ret
   exact ⟨ret_bool (by first | rfl | (simp; done) | (simp; omega) | omega),0,rfl⟩
  ·go_enter Tryz.func106,Tryz.ntmps106
   go_wp2
   go_ret
   exact ⟨ret_bool (by first | rfl | (simp; done) | (simp; omega) | omega),0,rfl⟩
theorem any_not_all {α:Type} (f:α->Bool):∀ l:List α,(!l.any fun z=>!f z)=l.all f
 | []=>rfl
 | a :: l=>by
  rw [List.any_cons,List.all_cons,<- any_not_all f l]
  cases f a <;> cases (l.any fun z=>!f z) <;> rfl
theorem limited_any (w:World) (b off c:Nat) (l:List Int) (hl:l.length<=9223372036854775807) (hc:∀ j z,l[j]?=some z->w.cell? ⟨b,off+j,none⟩=some (.int .i64 z)) :
  Calls Tryz.prog 57 #[.slice (some ⟨b,off,none⟩) l.length c] w (BoolPost w (l.all limB)):=by
 have hq:=Tryz.slices_ContainsFunc (fun z:Int=>Value.int .i64 z) (fun z=>!limB z) 106 #[] (enters_of Tryz.func106 (by kernel_rfl) rfl) b off l.length c l w (limited1_pred w) (Nat.le_refl _) hl (fun j hj=>(by
  rw [getElem!_pos l j hj]
  exact hc j _ (List.getElem?_eq_getElem hj)))
 rw [List.take_length] at hq
 have ha:=any_not_all limB l
 generalize (l.any fun z=>!limB z)=x at *
 have HQ:=bH hq
 have HA:=bH ha
 clear hq ha hc
 generalize l.all limB=y at *
 generalize l.length=n at *
 go_enter Tryz.func57,Tryz.ntmps57
 go_wp2_with (go_at_call 105; refine HQ.out.mono ?_; rintro e w' ⟨rfl,q,rfl⟩)
 go_ret
 exact ⟨ret_bool HA.out,(Ext.refl _ w).drewN q⟩
theorem name1_pred (w:World):PredAt Tryz.prog 109 #[] encR (fun r=>decide (r<32) || decide (126<r)) w:=fun W z _=>by
 unfold FnGives
 show Calls Tryz.prog 109 #[.int .i32 (z:Int)] W _
 by_cases h1:z<32
 ·have h1':(z:Int)<32:=by omega
  go_enter Tryz.func109,Tryz.ntmps109
  go_wp2
  go_ret
  exact ⟨ret_bool (by first | rfl | (simp; done) | (simp; omega) | omega),0,rfl⟩
 ·have h1':¬ (z:Int)<32:=by omega
  by_cases h2:126<z
  ·have h2':(126:Int)<z:=by omega
   go_enter Tryz.func109,Tryz.ntmps109
   go_wp2
   go_ret
   exact ⟨ret_bool (by first | rfl | (simp; done) | (simp; omega) | omega),0,rfl⟩
  ·have h2':¬ (126:Int)<z:=by omega
   go_enter Tryz.func109,Tryz.ntmps109
   go_wp2
   go_ret
   exact ⟨ret_bool (by first | rfl | (simp; done) | (simp; omega) | omega),0,rfl⟩
def badR (r:Nat):Bool:=decide (r<32) || decide (126<r)
theorem idx_bad (s:ByteArray):∀ (f pos:Nat),s.size<=pos+f->(0<=idxFuncFrom badR true s f pos↔∃ i,pos<=i/\∃ h:i<s.size,badR (s[i]'h).toNat=true)
 | 0,pos,h=>by
  unfold idxFuncFrom
  constructor
  ·intro h1; omega
  ·rintro ⟨i,h1,h2,_⟩; omega
 | f+1,pos,h=>by
  unfold idxFuncFrom
  by_cases hp:pos<s.size
  ·rw [if_pos hp]
   by_cases ha:(s[pos]'hp).toNat<128
   ·rw [decode_ascii s pos hp ha]
    by_cases hb:badR (s[pos]'hp).toNat=true
    ·rw [if_pos hb]
     exact ⟨fun _=>⟨pos,Nat.le_refl _,hp,hb⟩,fun _=>by omega⟩
    ·rw [if_neg hb,idx_bad s f (pos+1) (by omega)]
     constructor
     ·rintro ⟨i,h1,h2⟩; exact ⟨i,by omega,h2⟩
     ·rintro ⟨i,h1,h2,h3⟩
      refine ⟨i,?_,h2,h3⟩
      rcases Nat.lt_or_ge pos i with h4 | h4
      ·omega
      ·obtain rfl:i=pos:=by omega
       exact absurd h3 hb
   ·have hd:=(decode_high s pos hp (by omega)).1
    have hb:badR (Utf8.decode s pos).1=true:=by unfold badR; rw [decide_eq_true (p:=(126<_)) (by omega)]; simp
    rw [if_pos hb]
    refine ⟨fun _=>⟨pos,Nat.le_refl _,hp,?_⟩,fun _=>by omega⟩
    unfold badR
    rw [decide_eq_true (p:=(126<(s[pos]'hp).toNat)) (by omega)]; simp
  ·rw [if_neg hp]
   constructor
   ·intro h1; omega
   ·rintro ⟨i,h1,h2,_⟩; omega
theorem name_idx (s:ByteArray):(!decide (0<=idxFunc badR true s))=nameB s:=by
 have h:=idx_bad s s.size 0 (by omega)
 have hl:s.toList=s.data.toList:=ByteArray.toList_eq s
 cases hq:nameB s with
 | true =>
  rw [decide_eq_false]; rfl
  intro h0
  obtain ⟨i,_,hi,hb⟩:=h.1 h0
  unfold nameB at hq
  rw [hl,List.all_eq_true] at hq
  have:=hq (s[i]'hi) (by
   show s.data[i] ∈ s.data.toList
   simp)
  unfold badR at hb
  simp only [Bool.and_eq_true,Bool.or_eq_true,decide_eq_true_eq] at this hb
  omega
 | false =>
  rw [decide_eq_true]; rfl
  refine h.2 ?_
  unfold nameB at hq
  rw [hl,List.all_eq_false] at hq
  obtain ⟨x,hx,hb⟩:=hq
  obtain ⟨i,hi,rfl⟩:=List.getElem_of_mem hx
  have hi':i<s.size:=by rw [Array.length_toList] at hi; exact hi
  refine ⟨i,Nat.zero_le _,hi',?_⟩
  unfold badR
  simp only [Bool.and_eq_true,decide_eq_true_eq,Bool.or_eq_true] at hb ⊢
  have e:s[i]'hi'=s.data.toList[i]:=by
   show s.data[i]=_
   rw [Array.getElem_toList]
  rw [e]
  omega
open Go.RowKit Go.MapKept Go.Lib
theorem limited_one (w:World) (z:Int) (c:Nat):Calls Tryz.prog 57 #[.slice (some ⟨w.heap.size,0,none⟩) 1 c] (w.alloc (.cells #[.int .i64 z] 2)) (BoolPost (w.alloc (.cells #[.int .i64 z] 2)) (limB z)):=by
 have h:=limited_any (w.alloc (.cells #[.int .i64 z] 2)) w.heap.size 0 c [z] (by simp) (fun j u hj=>by
  have:=cells_new (w:=w) [Value.int .i64 z] 2 rfl j (.int .i64 u) (by
   match j,hj with
   | 0,hj=>cases hj; rfl
   | j+1,hj=>simp at hj)
  simpa [Addr.add_lit] using this)
 simpa using h
theorem name_any (w:World) (s:ByteArray):Calls Tryz.prog 108 #[.string s,.func (.func 109) #[] #[]] w fun r w'=>r=.returned (.bool (!nameB s))/\XF w w':=by
 refine (Tryz.strings_ContainsFunc 109 #[] (enters_of Tryz.func109 (by kernel_rfl) rfl) _ s w (name1_pred w)).mono ?_
 rintro r w' ⟨rfl,hb⟩
 refine ⟨ret_bool ?_,Below.ext hb⟩
 have:=name_idx s
 unfold badR at this
 rw [<- this,Bool.not_not]
theorem termsB_cons (n last:Int) (t:TermV) (l:List TermV):termsB n last (t :: l)=(decide (last<t.var) && decide (t.var<n) && !decide (t.coef=0) && limB t.coef && termsB n t.var l):=rfl
theorem validRow_any (w:World) (vars:Nat) (hv:vars<=9223372036854775807) (r:RowV) (ta:Option Addr) (tc:Nat) (hok:RowOk r) (ht:Tms w (.slice ta r.terms.length tc) r.terms) :
  Calls Tryz.prog 60 #[.int .i64 vars,.agg #[.string r.name,.int .i64 r.group,.int .i64 r.kind,.slice ta r.terms.length tc,.int .i64 r.bound]] w (BoolPost w (rowB vars r)):=by
 have hns:r.name.size<=9223372036854775807:=by have:=hok.name; unfold maxLen at this; omega
 have hg:=hok.group
 have hk:=hok.kind
 unfold InR at hg hk
 obtain ⟨-,-,-,-,htn,-⟩:=ht.shape
 have HT:=bH ht
 have HR:=bH (show rowB vars r=(decide (0<=r.kind) && decide (r.kind<=2) && decide (0<=r.group) && decide (r.group<=60) && decide (r.name.size<=80) && limB r.bound && nameB r.name && termsB vars (-1) r.terms) from rfl)
 have hb1:=blk_alloc_at w (.cells #[.string r.name,.int .i64 r.group,.int .i64 r.kind,.slice ta r.terms.length tc,.int .i64 r.bound] 35)
 have hx1:=(Ext.refl (fun _=>False) w).alloc (.cells #[.string r.name,.int .i64 r.group,.int .i64 r.kind,.slice ta r.terms.length tc,.int .i64 r.bound] 35)
 have HB:=bH (bI hb1 hx1)
 clear ht hok hb1 hx1
 obtain ⟨tl,htl⟩:∃ tl,r.terms.length=tl:=⟨_,rfl⟩
 have HTL:=bH htl
 rw [htl] at htn HT HB ⊢
 clear htl
 obtain ⟨gr,hgr⟩:∃ gr,r.group=gr:=⟨_,rfl⟩
 rw [hgr] at hg HR HB ⊢
 clear hgr
 obtain ⟨kd,hkd⟩:∃ kd,r.kind=kd:=⟨_,rfl⟩
 rw [hkd] at hk HR HB ⊢
 clear hkd
 obtain ⟨bd,hbd⟩:∃ bd,r.bound=bd:=⟨_,rfl⟩
 rw [hbd] at HR HB ⊢
 clear hbd
 obtain ⟨nm,hnm⟩:∃ nm,r.name=nm:=⟨_,rfl⟩
 rw [hnm] at hns HR HB ⊢
 clear hnm
 go_enter Tryz.func60,Tryz.ntmps60
 go_upto_region 1 with fail
 generalize hw1:w.alloc (.cells #[.string nm,.int .i64 gr,.int .i64 kd,.slice ta tl tc,.int .i64 bd] 35)=w1 at *
 clear hw1
 obtain ⟨rb,hrb⟩:∃ rb,w.heap.size=rb:=⟨_,rfl⟩
 rw [hrb] at HB ⊢
 clear hrb
 have e0:=cellq HB.out.1 0 rfl
 have e1:=cellq HB.out.1 1 rfl
 have e2:=cellq HB.out.1 2 rfl
 have e3:=cellq HB.out.1 3 rfl
 have e4:=cellq HB.out.1 4 rfl
 by_cases c1:80<nm.size
 ·have c1':(80:Int)<(nm.size:Int):=by omega
  go_wp2
  go_ret
  exact ⟨ret_bool (by rw [HR.out,decide_eq_false (p:=(nm.size<=80)) (by omega)]; simp),HB.out.2⟩
 have c1':¬ (80:Int)<(nm.size:Int):=by omega
 by_cases c2:gr<0
 ·go_wp2
  go_ret
  exact ⟨ret_bool (by rw [HR.out,decide_eq_false (p:=(0<=gr)) (by omega)]; simp),HB.out.2⟩
 by_cases c3:60<gr
 ·go_wp2
  go_ret
  exact ⟨ret_bool (by rw [HR.out,decide_eq_false (p:=(gr<=60)) (by omega)]; simp),HB.out.2⟩
 by_cases c4:kd<0
 ·go_wp2
  go_ret
  exact ⟨ret_bool (by rw [HR.out,decide_eq_false (p:=(0<=kd)) (by omega)]; simp),HB.out.2⟩
 by_cases c5:2<kd
 ·go_wp2
  go_ret
  exact ⟨ret_bool (by rw [HR.out,decide_eq_false (p:=(kd<=2)) (by omega)]; simp),HB.out.2⟩
 have HL:=bH (fun W (z:Int) c=>limited_one W z c)
 have HN:=bH (fun W=>name_any W nm)
 have HR2:Hid (rowB vars r=(limB bd && nameB nm && termsB vars (-1) r.terms)):=bH (by
  rw [HR.out,decide_eq_true (p:=(0<=kd)) (by omega),decide_eq_true (p:=(kd<=2)) (by omega),decide_eq_true (p:=(0<=gr)) (by omega),decide_eq_true (p:=(gr<=60)) (by omega),decide_eq_true (p:=(nm.size<=80)) (by omega)]
  simp)
 clear HR
 go_wp2_with fail
 refine (HL.out w1 bd _).mono ?_
 rintro r2 w2 ⟨rfl,hx2⟩
 have hx12:=((Ext.refl (fun _=>False) w1).alloc (.cells #[.int .i64 bd] 2)).trans hx2
 have HB2:=bH (bI (blk_keep HB.out.1 hx12) (HB.out.2.trans hx12))
 clear hx2 hx12 HB e0 e1 e2 e3 e4
 cases hlb:limB bd with
 | false =>
  rw [hlb] at HR2
  clear hlb
  go_wp2
  go_ret
  exact ⟨ret_bool (by rw [HR2.out]; rfl),HB2.out.2⟩
 | true =>
  rw [hlb] at HR2
  clear hlb
  have e3:=cellq HB2.out.1 3 rfl
  go_wp2_with fail
  go_loopg [42,5] tl (fun gg v42 v5 wr=>∃ (k:Nat) (la:Int),k<=tl/\gg=tl - k/\v42=.int .i64 k/\v5=.int .i64 la∧-9223372036854775808<=la/\la<=9223372036854775807/\termsB vars (-1) r.terms=termsB vars la (r.terms.drop k)/\XF w2 wr)
  case atStart=>exact ⟨0,-1,Nat.zero_le _,rfl,rfl,rfl,by omega,by omega,rfl,Ext.refl _ _⟩
  case round =>
   clear e3
   obtain ⟨k,la,hk,rfl,rfl,rfl,hla0,hla1,heq,hx⟩:=hrel
   have HX:=bH (bI heq hx)
   clear heq hx
   by_cases hin:k<tl
   ·have i0:(k:Int)<(tl:Int):=by omega
    have hkl:k<r.terms.length:=by rw [HTL.out]; exact hin
    have hdr:r.terms.drop k=r.t k :: r.terms.drop (k+1):=by
     rw [List.drop_eq_getElem_cons hkl,r.t_at hkl]
    have HD:=bH (HX.out.1.trans (by rw [hdr,termsB_cons]))
    obtain ⟨b,off,rfl,-,e0,e1,htok⟩:=(HT.out.keep (HB2.out.2.trans HX.out.2)).atr k hkl
    have hva:=htok.var
    have hco:=htok.coef
    unfold InR at hva hco
    clear hdr hkl htok
    obtain ⟨tv,htv⟩:∃ tv,(r.t k).var=tv:=⟨_,rfl⟩
    obtain ⟨co,hco'⟩:∃ co,(r.t k).coef=co:=⟨_,rfl⟩
    rw [htv] at e0 HD hva
    rw [hco'] at e1 HD hco
    clear htv hco'
    have hb3:=blk_alloc_at wr (.cells #[.int .i64 tv,.int .i64 co] 70)
    have hx3:=(Ext.refl (fun _=>False) wr).alloc (.cells #[.int .i64 tv,.int .i64 co] 70)
    have HB3:=bH (bI hb3 hx3)
    clear hb3 hx3
    go_upto_region 7 with fail
    generalize hw3:wr.alloc (.cells #[.int .i64 tv,.int .i64 co] 70)=w3 at *
    clear hw3
    obtain ⟨tb,htb⟩:∃ tb,wr.heap.size=tb:=⟨_,rfl⟩
    rw [htb] at HB3 ⊢
    clear htb e0 e1
    obtain ⟨x0,x1⟩:w3.cell? ⟨tb,0,none⟩=some (.int .i64 tv)/\w3.cell? ⟨tb,1,none⟩=some (.int .i64 co):=⟨cellq HB3.out.1 0 rfl,cellq HB3.out.1 1 rfl⟩
    have HE:=bH ((HB2.out.2.trans HX.out.2).trans HB3.out.2)
    by_cases t1:tv<=la
    ·go_wp2
     go_ret
     exact ⟨ret_bool (by rw [HR2.out,HD.out,decide_eq_false (p:=(la<tv)) (by omega)]; simp),HE.out⟩
    by_cases t2:(vars:Int)<=tv
    ·go_wp2
     go_ret
     exact ⟨ret_bool (by rw [HR2.out,HD.out,decide_eq_false (p:=(tv<(vars:Int))) (by omega)]; simp),HE.out⟩
    by_cases t3:co=0
    ·have t3':(co == 0)=true:=by simpa using t3
     subst t3
     go_wp2
     go_ret
     exact ⟨ret_bool (by rw [HR2.out,HD.out]; simp),HE.out⟩
    have t3':(co == 0)=false:=by simpa using t3
    have HD2:Hid (termsB vars (-1) r.terms=(limB co && termsB vars tv (r.terms.drop (k+1)))):=bH (by
     rw [HD.out,decide_eq_true (p:=(la<tv)) (by omega),decide_eq_true (p:=(tv<(vars:Int))) (by omega),decide_eq_false t3]; simp)
    clear HD
    go_wp2_with fail
    refine (HL.out w3 co _).mono ?_
    rintro r4 w4 ⟨rfl,hx4⟩
    have hx34:=((Ext.refl (fun _=>False) w3).alloc (.cells #[.int .i64 co] 2)).trans hx4
    have HX4:=bH ((HX.out.2.trans HB3.out.2).trans hx34)
    have y0:=cell_keep x0 hx34
    clear hx4 hx34 x0 x1 HE
    cases hlc:limB co with
    | false =>
     rw [hlc] at HD2
     clear hlc
     go_wp2
     go_ret
     exact ⟨ret_bool (by rw [HR2.out,HD2.out]; simp),HB2.out.2.trans HX4.out⟩
    | true =>
     rw [hlc] at HD2
     clear hlc
     go_wp2
     go_roundg (tl - (k+1))
     case measure=>omega
     case rel=>exact ⟨k+1,tv,by omega,rfl,by go_num,rfl,by omega,by omega,by rw [HD2.out]; simp,HX4.out⟩
   ·obtain rfl:k=tl:=by omega
    have HF:Hid (termsB vars (-1) r.terms=true):=bH (by
     rw [HX.out.1,List.drop_of_length_le (by rw [HTL.out]; exact Nat.le_refl _)]; rfl)
    have e0:=cell_keep (cellq HB2.out.1 0 rfl) HX.out.2
    go_wp2_with fail
    refine (HN.out wr).mono ?_
    rintro r4 w4 ⟨rfl,hx4⟩
    have HX4:=bH ((HB2.out.2.trans HX.out.2).trans hx4)
    clear hx4 e0
    go_wp2
    go_ret
    exact ⟨ret_bool (by rw [HR2.out,HF.out]; simp),HX4.out⟩
open Go.RowKit Go.MapKept Go.Lib
theorem rows_empty (w:World) (ao:Option Addr) (c:Nat) (fv:Value):Calls Tryz.prog 58 #[.slice ao 0 c,fv] w fun r w'=>r=.returned (.bool false)/\w'=w:=by
 have h:∀ W,Calls Tryz.prog 107 #[.slice ao 0 c,fv] W fun r w'=>r=.returned (.int .i64 (-1))/\w'=W:=fun W=>by
  go_enter Tryz.func107,Tryz.ntmps107
  go_wp2_with fail
  go_loopg [8] 0 (fun gg s8 wr=>s8=.int .i64 0/\wr=W)
  case atStart=>exact ⟨rfl,rfl⟩
  case round =>
   obtain ⟨rfl,rfl⟩:=hrel
   go_wp2
   go_ret
   exact ⟨rfl,rfl⟩
 have H:=bH h
 clear h
 go_enter Tryz.func58,Tryz.ntmps58
 go_wp2_with (go_at_call 107; refine (H.out _).mono ?_; rintro e w' ⟨rfl,rfl⟩)
 go_ret
 exact ⟨rfl,rfl⟩
def rowC (p:ProgV) (tvs:List Value) (j:Nat):List Value:=cR (p.r j) (tvs.getD j (.slice none 0 0))
theorem valid1_any (w:World) (pb:Nat) (vv rv:Value) (p:ProgV) (hp:blk w pb=some (.cells #[vv,rv] 25 (0,0))) (hv:Vrs w vv p.vars) (r:RowV) (tv:Value) (ht:Tms w tv r.terms) (hok:RowOk r) :
  Calls Tryz.prog 59 #[.agg (cR r tv).toArray,.pointer (some ⟨pb,0,none⟩)] w (BoolPost w (!rowB p.vars.length r)):=by
 obtain ⟨vo,vc,rfl,-,hn,-⟩:=hv.shape
 obtain ⟨ta,tc,rfl,-,-,-⟩:=ht.shape
 have HR:=bH (fun W (hW:XF w W)=>validRow_any W p.vars.length hn r ta tc hok (ht.keep hW))
 have hx:=(Ext.refl (fun _=>False) w).alloc (.cells #[.string r.name,.int .i64 r.group,.int .i64 r.kind,.slice ta r.terms.length tc,.int .i64 r.bound] 35)
 have z0:=cell_keep (cellq hp 0 rfl) hx
 have HX:=bH hx
 clear hv ht hok hp hx
 generalize p.vars.length=n at *
 generalize r.terms.length=tl at *
 generalize rowB n r=b at *
 show Calls Tryz.prog 59 #[.agg #[.string r.name,.int .i64 r.group,.int .i64 r.kind,.slice ta tl tc,.int .i64 r.bound],.pointer (some ⟨pb,0,none⟩)] w _
 go_enter Tryz.func59,Tryz.ntmps59
 go_wp2_with (go_at_call 60; refine (HR.out _ HX.out).mono ?_; rintro e w' ⟨rfl,hx'⟩)
 go_ret
 exact ⟨rfl,HX.out.trans hx'⟩
theorem all_range {α:Type} (f:α->Bool) (l:List α) (d:α):(!(List.range l.length).any fun j=>!f (l.getD j d))=l.all f:=by
 rw [any_not_all]
 have h:(List.range l.length).map (fun j=>l.getD j d)=l:=by
  refine List.ext_getElem (by simp) (fun i h1 h2=>?_)
  simp [List.getElem?_eq_getElem h2]
 conv=>rhs; rw [<- h]
 rw [List.all_map]; rfl
theorem rows_any (w:World) (pb:Nat) (vv rv:Value) (p:ProgV) (hp:blk w pb=some (.cells #[vv,rv] 25 (0,0))) (hv:Vrs w vv p.vars) (hr:Rws w rv p.rows) :
  Calls Tryz.prog 58 #[rv,.func (.func 59) #[] #[.pointer (some ⟨pb,0,none⟩)]] w fun r w'=>r=.returned (.bool (!p.rows.all (rowB p.vars.length)))/\XF w w':=by
 obtain ⟨ro,rc,rfl,-,hn,-⟩:=hr.shape
 by_cases h0:p.rows.length=0
 ·rw [h0]
  refine (rows_empty w ro rc _).mono ?_
  rintro r w' ⟨rfl,rfl⟩
  refine ⟨ret_bool ?_,Ext.refl _ _⟩
  rw [List.eq_nil_of_length_eq_zero h0]; rfl
 obtain ⟨tvs,hl,⟨ao,c,e,h1,h2,h3,h4⟩,h5⟩:=hr
 rw [List.length_zipWith,hl,Nat.min_self] at e h1 h4
 cases e
 obtain ⟨b,off,rfl,hlt,hc⟩:=h4 (by omega)
 have hall:∀ j,Tms w (tvs.getD j (.slice none 0 0)) (p.r j).terms/\RowOk (p.r j):=fun j=>by
  by_cases hj:j<p.rows.length
  ·have hj':j<tvs.length:=by omega
   have:=h5 j _ _ (List.getElem?_eq_getElem hj) (List.getElem?_eq_getElem hj')
   rw [p.r_at hj] at this
   rw [getD_lt hj']
   exact this
  ·have e1:p.r j=row0:=by
    unfold ProgV.r
    rw [List.getD_eq_getElem?_getD,List.getElem?_eq_none (by omega)]; rfl
   rw [List.getD_eq_getElem?_getD,List.getElem?_eq_none (by omega),e1]
   refine ⟨⟨Sl.nil w 2,fun t ht=>(by cases ht)⟩,⟨?_,?_,?_,?_⟩⟩
   ·show (0:Nat)<=maxLen; exact Nat.zero_le _
   all_goals (constructor <;> (show (_:Int)<=_) <;> decide)
 have hq:=AnyQ.slices_ContainsFunc Tryz.laysRow8 5 Tryz.isAgg35 Tryz.sizeOf35 (rowC p tvs) (fun _=>rfl) (fun j=>!rowB p.vars.length (p.r j)) 59 #[.pointer (some ⟨pb,0,none⟩)] (enters_of Tryz.func59 (by kernel_rfl) rfl) b off p.rows.length rc (List.range p.rows.length) w
  (fun W j hW=>by
   have hx:=Below.ext hW
   refine (valid1_any W pb vv _ p (blk_keep hp hx) (hv.keep hx) (p.r j) _ ((hall j).1.keep hx) (hall j).2).mono ?_
   rintro e w' ⟨rfl,hx'⟩
   exact ⟨rfl,(hx.trans hx').below⟩)
  (by simp) hn hlt (fun j hj i v hi=>by
   rw [List.length_range] at hj
   rw [getElem!_pos _ j (by simpa using hj),List.getElem_range] at hi
   refine hc j _ ?_ i v hi
   have hj':j<tvs.length:=by omega
   rw [List.getElem?_zipWith,List.getElem?_eq_getElem hj,List.getElem?_eq_getElem hj',p.r_at hj]
   show some (cR (p.r j) tvs[j])=some (cR (p.r j) (tvs.getD j _))
   rw [getD_lt hj'])
 refine hq.mono ?_
 rintro r w' ⟨rfl,hb⟩
 refine ⟨ret_bool ?_,Below.ext hb⟩
 have ht:List.take p.rows.length (List.range p.rows.length)=List.range p.rows.length:=by
  rw [List.take_of_length_le (by simp)]
 rw [ht,<- all_range (rowB p.vars.length) p.rows row0,Bool.not_not]
 rfl
theorem varB_eq (v:VarV):varB v=([v.lo,v.up,v.co].all limB && !(v.op && !decide (v.up=0))):=by
 unfold varB
 simp [Bool.and_assoc]
theorem all_next {α:Type} {f:α->Bool} {l:List α} {d:α} {i:Nat} (hi:i<l.length) (h:(l.take i).all f=true) (hf:f (l.getD i d)=true):(l.take (i+1)).all f=true:=by
 rw [List.take_succ_eq_append_getElem hi,List.all_append,h,Bool.true_and,List.all_cons,List.all_nil,Bool.and_true,<- getD_lt hi d]
 exact hf
theorem all_fails {α:Type} {f:α->Bool} {l:List α} {d:α} {i:Nat} (hi:i<l.length) (hf:f (l.getD i d)=false):l.all f=false:=by
 rw [List.all_eq_false]
 exact ⟨_,List.getElem_mem hi,by rw [<- getD_lt hi d,hf]; simp⟩
theorem Valid_any (w:World) (pv:Value) (p:ProgV) (hp:IsPrg w pv p):Calls Tryz.prog 33 #[pv] w (BoolPost w (validB p)):=by
 obtain ⟨vv,rv,rfl,hv,hr⟩:=hp
 obtain ⟨vo,vc,rfl,-,hn,-⟩:=hv.shape
 obtain ⟨ro,rc,rfl,-,hrn,-⟩:=hr.shape
 have HV:=bH (bI hv hr)
 have HR:=bH (show validB p=(decide (p.vars.length<=400) && decide (p.rows.length<=4000) && p.vars.all varB && p.rows.all (rowB p.vars.length)) from rfl)
 have hb:=blk_alloc_at w (.cells #[.slice vo p.vars.length vc,.slice ro p.rows.length rc] 25)
 have hx:=(Ext.refl (fun _=>False) w).alloc (.cells #[.slice vo p.vars.length vc,.slice ro p.rows.length rc] 25)
 have HB:=bH (bI hb hx)
 have HW:=bH (fun W (hW:XF w W) pb hpb=>rows_any W pb _ _ p hpb (hv.keep hW) (hr.keep hW))
 clear hv hr hb hx
 obtain ⟨n,hn'⟩:∃ n,p.vars.length=n:=⟨_,rfl⟩
 have HN:=bH hn'
 rw [hn'] at hn HV HR HB HW ⊢
 clear hn'
 obtain ⟨m,hm'⟩:∃ m,p.rows.length=m:=⟨_,rfl⟩
 rw [hm'] at hrn HV HR HB HW ⊢
 clear hm'
 generalize p.rows.all (rowB n)=rb at *
 go_enter Tryz.func33,Tryz.ntmps33
 go_upto_region 1 with fail
 generalize hw1:w.alloc (.cells #[.slice vo n vc,.slice ro m rc] 25)=w1 at *
 clear hw1
 obtain ⟨pb,hpb⟩:∃ pb,w.heap.size=pb:=⟨_,rfl⟩
 rw [hpb] at HB ⊢
 clear hpb
 have z0:=cellq HB.out.1 0 rfl
 have z1:=cellq HB.out.1 1 rfl
 by_cases c1:400<n
 ·have c1':(400:Int)<(n:Int):=by omega
  go_wp2
  go_ret
  exact ⟨ret_bool (by rw [HR.out,decide_eq_false (p:=(n<=400)) (by omega)]; simp),HB.out.2⟩
 have c1':¬ (400:Int)<(n:Int):=by omega
 by_cases c2:4000<m
 ·have c2':(4000:Int)<(m:Int):=by omega
  go_wp2
  go_ret
  exact ⟨ret_bool (by rw [HR.out,decide_eq_false (p:=(m<=4000)) (by omega)]; simp),HB.out.2⟩
 have c2':¬ (4000:Int)<(m:Int):=by omega
 have HR2:Hid (validB p=(p.vars.all varB && rb)):=bH (by rw [HR.out,decide_eq_true (p:=(n<=400)) (by omega),decide_eq_true (p:=(m<=4000)) (by omega)]; simp)
 clear HR
 go_wp2_with fail
 go_loopg [18] n (fun gg v18 wr=>∃ i:Nat,i<=n/\gg=n - i/\v18=.int .i64 i/\(p.vars.take i).all varB=true/\XF w1 wr)
 case atStart=>exact ⟨0,Nat.zero_le _,rfl,rfl,rfl,Ext.refl _ _⟩
 case round =>
  clear z0 z1
  obtain ⟨i,hi,rfl,rfl,hall,hx⟩:=hrel
  have HX:=bH (bI hall hx)
  clear hall hx
  by_cases hin:i<n
  ·have i0:(i:Int)<(n:Int):=by omega
   have HI:Hid (i<p.vars.length):=bH (by rw [HN.out]; exact hin)
   obtain ⟨b,off,rfl,-,e0,e1,e2,e3,e4,-⟩:=(HV.out.1.keep (HB.out.2.trans HX.out.2)).atp i HI.out
   have hb1:=BoxV.new wr (p.v i)
   have hx1:=(Ext.refl (fun _=>False) wr).alloc (.cells #[.int .i64 (p.v i).lo,.int .i64 (p.v i).up,.bool (p.v i).op,.bool (p.v i).ig,.int .i64 (p.v i).co] 73)
   have HB1:=bH (bI hb1 hx1)
   have HVB:=bH (varB_eq (p.v i))
   clear hb1 hx1
   go_upto_region 6 with fail
   generalize hw2:wr.alloc (.cells #[.int .i64 (p.v i).lo,.int .i64 (p.v i).up,.bool (p.v i).op,.bool (p.v i).ig,.int .i64 (p.v i).co] 73)=w2 at *
   clear hw2 e0 e1 e2 e3 e4
   obtain ⟨vb,hvb⟩:∃ vb,wr.heap.size=vb:=⟨_,rfl⟩
   rw [hvb] at HB1 ⊢
   clear hvb
   obtain ⟨f0,f1,f2,-,f4⟩:=HB1.out.1.facts
   have HL:=bH (limited_any (w2.alloc (.cells #[.int .i64 (p.v i).lo,.int .i64 (p.v i).up,.int .i64 (p.v i).co] 2)) w2.heap.size 0 3 [(p.v i).lo,(p.v i).up,(p.v i).co] (by simp) (fun j u hj=>(by
    have:=cells_new (w:=w2) [Value.int .i64 (p.v i).lo,.int .i64 (p.v i).up,.int .i64 (p.v i).co] 2 rfl j (.int .i64 u) (by
     match j,hj with
     | 0,hj=>cases hj; rfl
     | 1,hj=>cases hj; rfl
     | 2,hj=>cases hj; rfl
     | j+3,hj=>simp at hj)
    simpa [Addr.add_lit] using this)))
   simp only [List.length_cons,List.length_nil,Nat.zero_add] at HL
   obtain ⟨lb,hlb⟩:∃ lb,[(p.v i).lo,(p.v i).up,(p.v i).co].all limB=lb:=⟨_,rfl⟩
   rw [hlb] at HL HVB
   clear hlb
   generalize (p.v i).lo=lo at *
   generalize (p.v i).up=up at *
   generalize (p.v i).op=o at *
   generalize (p.v i).ig=ig at *
   generalize (p.v i).co=co at *
   go_wp2_with fail
   refine HL.out.mono ?_
   rintro r3 w3 ⟨rfl,hx3⟩
   have hx23:=((Ext.refl (fun _=>False) w2).alloc (.cells #[.int .i64 lo,.int .i64 up,.int .i64 co] 2)).trans hx3
   have HX3:=bH ((HX.out.2.trans HB1.out.2).trans hx23)
   have g1:=cell_keep f1 hx23
   have g2:=cell_keep f2 hx23
   clear f0 f1 f2 f4 hx3 hx23 HL HB1
   cases lb with
   | false =>
    go_wp2
    go_ret
    exact ⟨ret_bool (by rw [HR2.out,all_fails (d:=var0) HI.out (HVB.out.trans rfl)]; rfl),HB.out.2.trans HX3.out⟩
   | true =>
    cases o with
    | false =>
     go_wp2
     go_roundg (n - (i+1))
     case measure=>omega
     case rel=>exact ⟨i+1,by omega,rfl,by go_num,all_next (d:=var0) HI.out HX.out.1 (HVB.out.trans rfl),HX3.out⟩
    | true =>
     by_cases hu:up=0
     ·have hu':(up == 0)=true:=by simpa using hu
      have HVB':=bH (HVB.out.trans (show _=true by rw [decide_eq_true hu]; rfl))
      clear HVB
      subst hu
      go_wp2
      go_roundg (n - (i+1))
      case measure=>omega
      case rel=>exact ⟨i+1,by omega,rfl,by go_num,all_next (d:=var0) HI.out HX.out.1 HVB'.out,HX3.out⟩
     ·have hu':(up == 0)=false:=by simpa using hu
      have hu2:(up != 0)=true:=by simpa using hu
      have HVB':=bH (HVB.out.trans (show _=false by rw [decide_eq_false hu]; rfl))
      clear HVB
      go_wp2
      go_ret
      exact ⟨ret_bool (by rw [HR2.out,all_fails (d:=var0) HI.out HVB'.out]; rfl),HB.out.2.trans HX3.out⟩
  ·obtain rfl:i=n:=by omega
   have HF:Hid (p.vars.all varB=true):=bH (by
    have:=HX.out.1
    rw [List.take_of_length_le (by rw [HN.out]; exact Nat.le_refl _)] at this
    exact this)
   have z1:=cell_keep (cellq HB.out.1 1 rfl) HX.out.2
   have HW2:=bH (HW.out wr (HB.out.2.trans HX.out.2) pb (blk_keep HB.out.1 HX.out.2))
   go_wp2_with fail
   refine HW2.out.mono ?_
   rintro r3 w3 ⟨rfl,hx3⟩
   have HX3:=bH ((HB.out.2.trans HX.out.2).trans hx3)
   clear hx3 z1 HW2
   go_wp2
   go_ret
   exact ⟨ret_bool (by rw [HR2.out,HF.out]; simp),HX3.out⟩
open Go.RowKit Go.MapKept Go.Lib
theorem inn_any (w:World) (n:Int):Calls Tryz.prog 38 #[.int .i64 n] w (BoolPost w (limB n)):=by
 go_enter Tryz.func38,Tryz.ntmps38
 by_cases h1:-1099511627776<=n
 ·by_cases h2:n<=1099511627776
  ·go_wp2
   go_ret
   exact ⟨ret_bool (by simp [limB,h1,h2]),Ext.refl _ _⟩
  ·go_wp2
   go_ret
   exact ⟨ret_bool (by simp [limB,h1,h2]),Ext.refl _ _⟩
 ·go_wp2
  go_ret
  exact ⟨ret_bool (by unfold limB; rw [decide_eq_false (p:=(-1099511627776<=n)) (by omega)]; rfl),Ext.refl _ _⟩
def chB (c:Nat):Bool:=decide (32<=c) && decide (c<=126)
theorem nameB_true {s:ByteArray} (h:∀ i (hi:i<s.size),chB (s[i]'hi).toNat=true):nameB s=true:=by
 unfold nameB
 rw [ByteArray.toList_eq,List.all_eq_true]
 intro x hx
 obtain ⟨i,hi,rfl⟩:=List.getElem_of_mem hx
 have hi':i<s.size:=by rw [Array.length_toList] at hi; exact hi
 have:=h i hi'
 rw [Array.getElem_toList]
 exact this
theorem nameB_false {s:ByteArray} {i:Nat} (hi:i<s.size) (h:chB (s[i]'hi).toNat=false):nameB s=false:=by
 unfold nameB
 rw [ByteArray.toList_eq,List.all_eq_false]
 refine ⟨s[i]'hi,?_,?_⟩
 ·show s.data[i] ∈ s.data.toList
  simp
 ·have:chB (s[i]'hi).toNat≠true:=by rw [h]; decide
  exact this
theorem ValidRow_any (w:World) (vars:Nat) (hv:vars<=9223372036854775807) (r:RowV) (ta:Option Addr) (tc:Nat) (hok:RowOk r) (ht:Tms w (.slice ta r.terms.length tc) r.terms) :
  Calls Tryz.prog 16 #[.int .i64 vars,.agg #[.string r.name,.int .i64 r.group,.int .i64 r.kind,.slice ta r.terms.length tc,.int .i64 r.bound]] w (BoolPost w (rowB vars r)):=by
 have hns:r.name.size<=9223372036854775807:=by have:=hok.name; unfold maxLen at this; omega
 have hg:=hok.group
 have hk:=hok.kind
 unfold InR at hg hk
 obtain ⟨-,-,-,-,htn,-⟩:=ht.shape
 have HT:=bH ht
 have HR:=bH (show rowB vars r=(decide (0<=r.kind) && decide (r.kind<=2) && decide (0<=r.group) && decide (r.group<=60) && decide (r.name.size<=80) && limB r.bound && nameB r.name && termsB vars (-1) r.terms) from rfl)
 have hb1:=blk_alloc_at w (.cells #[.string r.name,.int .i64 r.group,.int .i64 r.kind,.slice ta r.terms.length tc,.int .i64 r.bound] 35)
 have hx1:=(Ext.refl (fun _=>False) w).alloc (.cells #[.string r.name,.int .i64 r.group,.int .i64 r.kind,.slice ta r.terms.length tc,.int .i64 r.bound] 35)
 have HB:=bH (bI hb1 hx1)
 clear ht hok hb1 hx1
 obtain ⟨tl,htl⟩:∃ tl,r.terms.length=tl:=⟨_,rfl⟩
 have HTL:=bH htl
 rw [htl] at htn HT HB ⊢
 clear htl
 obtain ⟨gr,hgr⟩:∃ gr,r.group=gr:=⟨_,rfl⟩
 rw [hgr] at hg HR HB ⊢
 clear hgr
 obtain ⟨kd,hkd⟩:∃ kd,r.kind=kd:=⟨_,rfl⟩
 rw [hkd] at hk HR HB ⊢
 clear hkd
 obtain ⟨bd,hbd⟩:∃ bd,r.bound=bd:=⟨_,rfl⟩
 rw [hbd] at HR HB ⊢
 clear hbd
 obtain ⟨nm,hnm⟩:∃ nm,r.name=nm:=⟨_,rfl⟩
 rw [hnm] at hns HR HB ⊢
 clear hnm
 go_enter Tryz.func16,Tryz.ntmps16
 go_upto_region 1 with fail
 generalize hw1:w.alloc (.cells #[.string nm,.int .i64 gr,.int .i64 kd,.slice ta tl tc,.int .i64 bd] 35)=w1 at *
 clear hw1
 obtain ⟨rb,hrb⟩:∃ rb,w.heap.size=rb:=⟨_,rfl⟩
 rw [hrb] at HB ⊢
 clear hrb
 have e0:=cellq HB.out.1 0 rfl
 have e1:=cellq HB.out.1 1 rfl
 have e2:=cellq HB.out.1 2 rfl
 have e4:=cellq HB.out.1 4 rfl
 by_cases c4:kd<0
 ·go_wp2
  go_ret
  exact ⟨ret_bool (by rw [HR.out,decide_eq_false (p:=(0<=kd)) (by omega)]; simp),HB.out.2⟩
 by_cases c5:2<kd
 ·go_wp2
  go_ret
  exact ⟨ret_bool (by rw [HR.out,decide_eq_false (p:=(kd<=2)) (by omega)]; simp),HB.out.2⟩
 by_cases c2:gr<0
 ·go_wp2
  go_ret
  exact ⟨ret_bool (by rw [HR.out,decide_eq_false (p:=(0<=gr)) (by omega)]; simp),HB.out.2⟩
 by_cases c3:60<gr
 ·go_wp2
  go_ret
  exact ⟨ret_bool (by rw [HR.out,decide_eq_false (p:=(gr<=60)) (by omega)]; simp),HB.out.2⟩
 by_cases c1:80<nm.size
 ·have c1':(80:Int)<(nm.size:Int):=by omega
  go_wp2
  go_ret
  exact ⟨ret_bool (by rw [HR.out,decide_eq_false (p:=(nm.size<=80)) (by omega)]; simp),HB.out.2⟩
 have c1':¬ (80:Int)<(nm.size:Int):=by omega
 have HR2:Hid (rowB vars r=(limB bd && nameB nm && termsB vars (-1) r.terms)):=bH (by
  rw [HR.out,decide_eq_true (p:=(0<=kd)) (by omega),decide_eq_true (p:=(kd<=2)) (by omega),decide_eq_true (p:=(0<=gr)) (by omega),decide_eq_true (p:=(gr<=60)) (by omega),decide_eq_true (p:=(nm.size<=80)) (by omega)]
  simp)
 clear HR
 go_wp2_with fail
 refine (inn_any w1 bd).mono ?_
 rintro r2 w2 ⟨rfl,hx2⟩
 have HB2:=bH (bI (blk_keep HB.out.1 hx2) (HB.out.2.trans hx2))
 clear hx2 HB e0 e1 e2 e4
 cases hlb:limB bd with
 | false =>
  rw [hlb] at HR2
  clear hlb
  go_wp2
  go_ret
  exact ⟨ret_bool (by rw [HR2.out]; rfl),HB2.out.2⟩
 | true =>
  rw [hlb] at HR2
  clear hlb c1 c1' c2 c3 c4 c5 hg hk
  have e0:=cellq HB2.out.1 0 rfl
  obtain ⟨ns,hnsz⟩:∃ ns,nm.size=ns:=⟨_,rfl⟩
  have HNS:=bH hnsz
  go_wp2_with fail
  go_loopg [5] ns (fun gg v5 wr=>∃ (k:Nat),k<=ns/\gg=ns - k/\v5=.int .i64 k/\(∀ j (hj:j<nm.size),j<k->chB (nm[j]'hj).toNat=true)/\wr=w2)
  case atStart=>exact ⟨0,Nat.zero_le _,rfl,rfl,(fun j _ h=>absurd h (Nat.not_lt_zero _)),rfl⟩
  case round =>
   obtain ⟨k,hk,rfl,rfl,hall,hwr⟩:=hrel
   obtain rfl:=hwr.symm
   have HA:=bH hall
   clear hall
   by_cases hin:k<ns
   ·have i0:(k:Int)<(nm.size:Int):=by omega
    have i1:(0:Int)<=(k:Int):=by omega
    have hin':k<nm.size:=by omega
    have HC:=bH (fun (h:chB (nm[k]'hin').toNat=false)=>nameB_false hin' h)
    have HC2:Hid (chB (nm[k]'hin').toNat=true->∀ j (hj:j<nm.size),j<k+1->chB (nm[j]'hj).toNat=true):=bH (fun h j hj hjk=>by
     by_cases e:j=k
     ·subst e; exact h
     ·exact HA.out j hj (by omega))
    have hch:(nm[k]'hin').toNat<256:=by have:=(nm[k]'hin').toNat_lt; omega
    by_cases t1:(nm[k]'hin').toNat<32
    ·have t1':((nm[k]'hin').toNat:Int)<32:=by omega
     have HF:=bH (HC.out (by unfold chB; rw [decide_eq_false (by omega)]; rfl))
     go_wp2
     go_ret
     exact ⟨ret_bool (by rw [HR2.out,HF.out]; rfl),HB2.out.2⟩
    have t1':¬ ((nm[k]'hin').toNat:Int)<32:=by omega
    by_cases t2:126<(nm[k]'hin').toNat
    ·have t2':(126:Int)<((nm[k]'hin').toNat:Int):=by omega
     have HF:=bH (HC.out (by unfold chB; rw [decide_eq_false (p:=((nm[k]'hin').toNat<=126)) (by omega)]; simp))
     go_wp2
     go_ret
     exact ⟨ret_bool (by rw [HR2.out,HF.out]; rfl),HB2.out.2⟩
    have t2':¬ (126:Int)<((nm[k]'hin').toNat:Int):=by omega
    have HN:=bH (HC2.out (by unfold chB; rw [decide_eq_true (p:=(32<=(nm[k]'hin').toNat)) (by omega),decide_eq_true (p:=((nm[k]'hin').toNat<=126)) (by omega)]; rfl))
    clear HC HC2
    go_wp2
    go_roundg (ns - (k+1))
    case measure=>omega
    case rel=>exact ⟨k+1,by omega,rfl,by go_num,HN.out,rfl⟩
   ·obtain rfl:k=ns:=by omega
    have HR3:Hid (rowB vars r=termsB vars (-1) r.terms):=bH (by
     rw [HR2.out,nameB_true (fun i hi=>HA.out i hi (by have:=HNS.out; omega))]; rfl)
    clear HR2 HA
    have e3:=cellq HB2.out.1 3 rfl
    go_wp2_with fail
    go_loopg [7,6] tl (fun gg v7 v6 wr=>∃ (k:Nat) (la:Int),k<=tl/\gg=tl - k/\v7=.int .i64 k/\v6=.int .i64 la∧-9223372036854775808<=la/\la<=9223372036854775807/\termsB vars (-1) r.terms=termsB vars la (r.terms.drop k)/\XF w2 wr)
    case atStart=>exact ⟨0,-1,Nat.zero_le _,rfl,rfl,rfl,by omega,by omega,rfl,Ext.refl _ _⟩
    case round =>
     clear e3 e0
     obtain ⟨k,la,hk,rfl,rfl,rfl,hla0,hla1,heq,hx⟩:=hrel
     have HX:=bH (bI heq hx)
     have e3:=cell_keep (cellq HB2.out.1 3 rfl) hx
     clear heq hx
     by_cases hin:k<tl
     ·have i0:(k:Int)<(tl:Int):=by omega
      have i1:(0:Int)<=(k:Int):=by omega
      have hkl:k<r.terms.length:=by rw [HTL.out]; exact hin
      have hdr:r.terms.drop k=r.t k :: r.terms.drop (k+1):=by
       rw [List.drop_eq_getElem_cons hkl,r.t_at hkl]
      have HD:=bH (HX.out.1.trans (by rw [hdr,termsB_cons]))
      obtain ⟨b,off,rfl,-,e0,e1,htok⟩:=(HT.out.keep (HB2.out.2.trans HX.out.2)).atr k hkl
      have hva:=htok.var
      have hco:=htok.coef
      unfold InR at hva hco
      clear hdr hkl htok
      obtain ⟨tv,htv⟩:∃ tv,(r.t k).var=tv:=⟨_,rfl⟩
      obtain ⟨co,hco'⟩:∃ co,(r.t k).coef=co:=⟨_,rfl⟩
      rw [htv] at e0 HD hva
      rw [hco'] at e1 HD hco
      clear htv hco'
      have hb3:=blk_alloc_at wr (.cells #[.int .i64 tv,.int .i64 co] 70)
      have hx3:=(Ext.refl (fun _=>False) wr).alloc (.cells #[.int .i64 tv,.int .i64 co] 70)
      have HB3:=bH (bI hb3 hx3)
      clear hb3 hx3
      go_upto_region 13 with fail
      generalize hw3:wr.alloc (.cells #[.int .i64 tv,.int .i64 co] 70)=w3 at *
      clear hw3
      obtain ⟨tb,htb⟩:∃ tb,wr.heap.size=tb:=⟨_,rfl⟩
      rw [htb] at HB3 ⊢
      clear htb e0 e1 e3
      obtain ⟨x0,x1⟩:w3.cell? ⟨tb,0,none⟩=some (.int .i64 tv)/\w3.cell? ⟨tb,1,none⟩=some (.int .i64 co):=⟨cellq HB3.out.1 0 rfl,cellq HB3.out.1 1 rfl⟩
      have HE:=bH ((HB2.out.2.trans HX.out.2).trans HB3.out.2)
      by_cases t1:tv<=la
      ·go_wp2
       go_ret
       exact ⟨ret_bool (by rw [HR3.out,HD.out,decide_eq_false (p:=(la<tv)) (by omega)]; simp),HE.out⟩
      by_cases t2:(vars:Int)<=tv
      ·go_wp2
       go_ret
       exact ⟨ret_bool (by rw [HR3.out,HD.out,decide_eq_false (p:=(tv<(vars:Int))) (by omega)]; simp),HE.out⟩
      by_cases t3:co=0
      ·have t3':(co == 0)=true:=by simpa using t3
       subst t3
       go_wp2
       go_ret
       exact ⟨ret_bool (by rw [HR3.out,HD.out]; simp),HE.out⟩
      have t3':(co == 0)=false:=by simpa using t3
      have HD2:Hid (termsB vars (-1) r.terms=(limB co && termsB vars tv (r.terms.drop (k+1)))):=bH (by
       rw [HD.out,decide_eq_true (p:=(la<tv)) (by omega),decide_eq_true (p:=(tv<(vars:Int))) (by omega),decide_eq_false t3]; simp)
      clear HD
      go_wp2_with fail
      refine (inn_any w3 co).mono ?_
      rintro r4 w4 ⟨rfl,hx4⟩
      have HX4:=bH ((HX.out.2.trans HB3.out.2).trans hx4)
      have y0:=cell_keep x0 hx4
      clear hx4 x0 x1 HE
      cases hlc:limB co with
      | false =>
       rw [hlc] at HD2
       clear hlc
       go_wp2
       go_ret
       exact ⟨ret_bool (by rw [HR3.out,HD2.out]; simp),HB2.out.2.trans HX4.out⟩
      | true =>
       rw [hlc] at HD2
       clear hlc
       go_wp2
       go_roundg (tl - (k+1))
       case measure=>omega
       case rel=>exact ⟨k+1,tv,by omega,rfl,by go_num,rfl,by omega,by omega,by rw [HD2.out]; rfl,HX4.out⟩
     ·obtain rfl:k=tl:=by omega
      have HF:Hid (rowB vars r=true):=bH (by
       rw [HR3.out,HX.out.1,List.drop_of_length_le (by rw [HTL.out]; exact Nat.le_refl _)]; rfl)
      go_wp2
      go_ret
      exact ⟨ret_bool HF.out.symm,HB2.out.2.trans HX.out.2⟩
section
variable {P:Program} {md:Region.Mode} {l:List Oper} {Q:Exit->Act->World->Prop} {S:World->Prop} {k:Nat}
theorem ht (i:Nat) {oi:Oper} {v:Value} {fuel:Nat} {listed:Array Bool} {a:Act} {w:World} (hi:l[i]?=some oi:=by rfl) (hs:Region.noSelect l.toArray=true:=by kernel_rfl) (hf:Region.free md l.toArray listed i=true:=by kernel_rfl)
  (hr:(Region.ready md l.toArray listed).contains i=true:=by kernel_rfl) (hQ:∀ c a w,Q (.panic c) (a.put oi.dst v) w->Q (.panic c) a w:=by exact fun _ _ _ h=>h) (hw:Region.wanted oi (yielded l.toArray a.tmps)=true:=by rfl)
  (he:∀ w,S w->(execOp a.eval oi).run P w=.ok (.value v) w:=by (intro w hSw; (try go_frame); (try dsimp only at hSw); go_simp) <;> with_reducible rfl) (hS:S w:=by assumption) (h:wpAnyH P md l.toArray Q S fuel (listed.setIfInBounds i true) (a.put oi.dst v) w):wpAnyH P md l.toArray Q S (fuel+1) listed a w :=
 held_take i hi hs hf hr hQ hw he hS h
theorem hk (i:Nat) {oi:Oper} {fuel:Nat} {listed:Array Bool} {a:Act} {w:World} (hi:l[i]?=some oi:=by rfl) (hs:Region.noSelect l.toArray=true:=by kernel_rfl) (hf:Region.free md l.toArray listed i=true:=by kernel_rfl)
  (hr:(Region.ready md l.toArray listed).contains i=true:=by kernel_rfl) (hQ:∀ c a w,Q (.panic c) (a.put oi.dst undef) w->Q (.panic c) a w:=by exact fun _ _ _ h=>h) (hw:Region.wanted oi (yielded l.toArray a.tmps)=false:=by rfl)
  (hS:S w:=by assumption) (h:wpAnyH P md l.toArray Q S fuel (listed.setIfInBounds i true) (a.put oi.dst undef) w):wpAnyH P md l.toArray Q S (fuel+1) listed a w :=
 held_skip i hi hs hf hr hQ hw hS h
theorem hst (i:Nat) {oi:Oper} {fuel:Nat} {listed:Array Bool} {a:Act} {w:World} (hi:l[i]?=some oi:=by rfl) (hr:Region.ready md l.toArray listed=[i]:=by kernel_rfl)
  (h:∀ K':Act->World->Prop,Shut (∀ a w,S w->(S w->wpAnyH P md l.toArray Q S fuel (listed.setIfInBounds i true) a w)->K' a w)->if Region.wanted oi (yielded l.toArray a.tmps)=true then Oper.wp P oi a w K' Q else K' (a.put oi.dst undef) w) :
  wpAnyH P md l.toArray Q S (fuel+1) listed a w:=held_step i hi hr h
theorem et (i:Nat) {oi:Oper} {v:Value} {fuel:Nat} {listed:Array Bool} {a:Act} {w:World} (hi:l[i]?=some oi:=by rfl) (hs:Region.noSelect l.toArray=true:=by kernel_rfl) (hf:Region.free md l.toArray listed i=true:=by kernel_rfl)
  (hr:(Region.ready md l.toArray listed).contains i=true:=by kernel_rfl) (hk:waits md l k i=true:=by kernel_rfl) (hQ:∀ c a w,Q (.panic c) (a.put oi.dst v) w->Q (.panic c) a w:=by exact fun _ _ _ h=>h) (hw:Region.wanted oi (yielded l.toArray a.tmps)=true:=by rfl)
  (he:∀ w,S w->(execOp a.eval oi).run P w=.ok (.value v) w:=by (intro w hSw; (try go_frame); (try dsimp only at hSw); go_simp) <;> with_reducible rfl) (hS:S w:=by assumption) (h:Ends P md l.toArray Q S k fuel (listed.setIfInBounds i true) (a.put oi.dst v) w):Ends P md l.toArray Q S k (fuel+1) listed a w :=
 ends_take i hi hs hf hr hk hQ hw he hS h
theorem est (i:Nat) {oi:Oper} {fuel:Nat} {listed:Array Bool} {a:Act} {w:World} (hi:l[i]?=some oi:=by rfl) (hr:Region.ready md l.toArray listed=[i]:=by kernel_rfl)
  (h:∀ K':Act->World->Prop,Shut (∀ a w,S w->(S w->Ends P md l.toArray Q S k fuel (listed.setIfInBounds i true) a w)->K' a w)->if Region.wanted oi (yielded l.toArray a.tmps)=true then Oper.wp P oi a w K' Q else K' (a.put oi.dst undef) w) :
  Ends P md l.toArray Q S k (fuel+1) listed a w:=ends_step i hi hr h
end
section
variable {w0 W:World}
theorem cq {b i:Nat} {v:Value} (h:w0.cell? ⟨b,i,none⟩=some v):∀ W,XF w0 W->W.cell? ⟨b,i,none⟩=some v:=fun _ hx=>cell_keep h hx
theorem Ext.none {S:Nat->Prop} (h:XF w0 W):Ext S w0 W:=h.mono (fun _ _ h=>h.elim)
end
def sizeA (m T L:Nat):Nat:=1+m*(T*(L+3)+2)
theorem combA_sz {p:ProgV} {y:List Rat} {w:World} {v:Value} {L T:Nat} (hr:Rws w v p.rows) (hy:∀ i:Int,Sz (atQ y i) L) (hT:∀ i,i<p.rows.length->(p.r i).terms.length<=T) (j:Nat):Sz (combA p y j) (sizeA p.rows.length T L):=by
 rw [combA_eq]
 refine (sumTo_sz (M:=1+T*(L+3)) (fun i hi=>?_)).mono (by
  unfold sizeA
  rw [show 1+T*(L+3)+1=T*(L+3)+2 from by omega]
  exact Nat.le_refl _)
 refine (sumTo_sz (M:=L+2) (fun k hk=>termA_sz (hy i) (hr.term_ok hi k hk) j)).mono ?_
 have:=Nat.mul_le_mul_right (L+3) (hT i hi)
 show 1+(p.r i).terms.length*(L+3)<=_
 omega
def insB (p:ProgV) (x:List Rat) (i:Nat):Bool:=decide (((p.v i).lo:Rat)<=atQ x i) && ((p.v i).op || decide (atQ x i<=((p.v i).up:Rat)))
theorem insideB_eq (p:ProgV) (x:List Rat):insideB p x=allTo p.vars.length (insB p x):=rfl
theorem insB_sign (p:ProgV) (x:List Rat) (i:Nat):insB p x i=(!decide ((atQ x i - ((p.v i).lo:Rat)).num.sign<0) && ((p.v i).op || !decide (0<(atQ x i - ((p.v i).up:Rat)).num.sign))):=by
 have hr1:=sign_lt (atQ x i - ((p.v i).lo:Rat))
 have hr2:=sign_gt (atQ x i - ((p.v i).up:Rat))
 unfold insB
 congr 1
 ·rw [<- decide_not]; exact decide_eq_decide.2 ⟨fun h h2=>by have:=hr1.1 h2; grind,fun h=>Rat.not_lt.1 (fun h2=>h (hr1.2 (by grind)))⟩
 ·congr 1
  rw [<- decide_not]; exact decide_eq_decide.2 ⟨fun h h2=>by have:=hr2.1 h2; grind,fun h=>Rat.not_lt.1 (fun h2=>h (hr2.2 (by grind)))⟩
section
variable {α:Type}
def iget:List (Int × α)->Int->Option α
 | [],_=>none
 | (k,v) :: r,s=>if k=s then some v else iget r s
def iput:List (Int × α)->Int->α->List (Int × α)
 | [],s,v=>[(s,v)]
 | (k,x) :: r,s,v=>if k=s then (k,v) :: r else (k,x) :: iput r s v
theorem iget_none {l:List (Int × α)} {s:Int} (h:iget l s=none):∀ p ∈ l,p.1≠s:=by
 induction l with
 | nil=>intro p hp; cases hp
 | cons q r ih =>
  obtain ⟨a,b⟩:=q
  simp only [iget] at h
  split at h
  ·cases h
  ·rename_i hn
   intro p hp
   rcases List.mem_cons.1 hp with rfl | hp
   ·exact hn
   ·exact ih h p hp
end
def IntMap (es:Array MapEntry) (l:List (Int × Value)):Prop :=
 es.toList.map (fun e=>(e.key,e.val))=l.map fun p=>(Value.int .i64 p.1,p.2)
theorem findNow_int (s:Int):∀ (es:List MapEntry) (l:List (Int × Value)) (i:Nat),es.map (fun e=>(e.key,e.val))=(l.map fun p=>(Value.int .i64 p.1,p.2)) ->
  (iget l s=none/\Instr.findNow (.int .i64) (.int .i64 s) es i=some none/\∀ v,iput l s v=l++[(s,v)]) ∨
  ∃ j e v,iget l s=some v/\Instr.findNow (.int .i64) (.int .i64 s) es i=some (some (i+j,v))/\es[j]?=some e/\e.key=.int .i64 s /\
   ∀ u,(es.modify j fun e=>{ e with key:=.int .i64 s,val:=u }).map (fun e=>(e.key,e.val))=(iput l s u).map fun p=>(Value.int .i64 p.1,p.2)
 | [],[],i,_=>.inl ⟨rfl,rfl,fun _=>rfl⟩
 | [],_ :: _,_,h=>by simp at h
 | _ :: _,[],_,h=>by simp at h
 | e :: es,(k,v) :: l,i,h=>by
  simp only [List.map_cons,List.cons.injEq,Prod.mk.injEq] at h
  obtain ⟨⟨hk,hv⟩,hr⟩:=h
  by_cases hs:k=s
  ·subst hs
   refine .inr ⟨0,e,v,by simp [iget],by simp [Instr.findNow,Instr.sameNow,hk,hv],rfl,hk,fun u=>?_⟩
   simp [iput,hr]
  ·have hne:(s == k)=false:=by
    cases hq:s == k
    ·rfl
    ·exact absurd (eq_of_beq hq).symm hs
   rcases findNow_int s es l (i+1) hr with ⟨h1,h2,h3⟩ | ⟨j,e',v',h1,h2,h3,h4,h5⟩
   ·exact .inl ⟨by simp [iget,hs,h1],by simp [Instr.findNow,Instr.sameNow,hk,hne,h2],fun v=>by simp [iput,hs,h3]⟩
   ·refine .inr ⟨j+1,e',v',by simp [iget,hs,h1],by simp [Instr.findNow,Instr.sameNow,hk,hne,h2]; omega,by simpa using h3,h4,fun u=>?_⟩
    have:=h5 u
    simp [iput,hs,hk,hv,this]
section
variable {P:Program} {t k e:TypeId} {w:World} {b:Nat} {es:Array MapEntry} {clock:Nat} {l:List (Int × Value)}
theorem run_lookup_int (ht:P.underlying t=some (.map k e)) (hk:P.underlying k=some (.int .i64)) (hb:blk w b=some (.map es clock)) (hl:IntMap es l)
  {z:Value} (hz:(zeroValue e).run P w=.ok z w) (s:Int) (ok:Bool) :
  (Instr.lookup t (.map (some b)) (.int .i64 s) ok).run P w=.ok (if ok then .tuple #[(iget l s).getD z,.bool (iget l s).isSome] else (iget l s).getD z) w:=by
 rcases findNow_int s es.toList l 0 hl with ⟨h1,h2,_⟩ | ⟨j,e',v,h1,h2,_⟩
 ·simp [Instr.lookup,run_underlying ht,MapKept.run_getObj_map hb,MapKept.run_checkKey hk (show IsKey (.int .i64) (.int .i64 s) from rfl),MapKept.run_findKey hk h2,Result.andThen,hz,h1]
 ·simp [Instr.lookup,run_underlying ht,MapKept.run_getObj_map hb,MapKept.run_checkKey hk (show IsKey (.int .i64) (.int .i64 s) from rfl),MapKept.run_findKey hk h2,Result.andThen,h1]
theorem run_update_int (ht:P.underlying t=some (.map k e)) (hk:P.underlying k=some (.int .i64)) (hl:IntMap es l) (hst:Stamped es clock) (s:Int) (u:Value) :
  ∃ es' clock',(∀ w:World,blk w b=some (.map es clock)->(Instr.mapUpdate t (.map (some b)) (.int .i64 s) u).run P w=.ok () (setBlock w b (.map es' clock')))/\IntMap es' (iput l s u)/\Stamped es' clock':=by
 rcases findNow_int s es.toList l 0 hl with ⟨h1,h2,h3⟩ | ⟨j,e',v,h1,h2,h4,h5,h6⟩
 ·refine ⟨es.push { key:=.int .i64 s,val:=u,born:=clock },clock+1,fun w hb=>?_,?_,?_⟩
  ·simp [Instr.mapUpdate,run_underlying ht,MapKept.run_getObj_map hb,MapKept.run_checkKey hk (show IsKey (.int .i64) (.int .i64 s) from rfl),MapKept.run_findKey hk h2,Result.andThen,MapKept.run_setObj_map _ hb,ChangeMaps.setBlock]
  ·unfold IntMap at *
   simp [hl,h3]
  ·refine stamped_push hst (fun x hx e=>?_)
   have:(x.key,x.val) ∈ es.toList.map (fun e=>(e.key,e.val)):=List.mem_map.2 ⟨x,hx,rfl⟩
   rw [hl] at this
   obtain ⟨p,hp,hpe⟩:=List.mem_map.1 this
   refine iget_none h1 p hp ?_
   have hk2:Value.int .i64 p.1=x.key:=congrArg Prod.fst hpe
   rw [e] at hk2
   exact (Value.int.inj hk2).2
 ·refine ⟨es.modify j fun e=>{ e with key:=.int .i64 s,val:=u },clock,fun w hb=>?_,?_,?_⟩
  ·have h4':es[j]?=some e':=by simpa using h4
   simp only [Nat.zero_add] at h2
   simp [Instr.mapUpdate,run_underlying ht,MapKept.run_getObj_map hb,MapKept.run_checkKey hk (show IsKey (.int .i64) (.int .i64 s) from rfl),MapKept.run_findKey hk h2,Result.andThen,MapKept.run_setObj_map _ hb,ChangeMaps.setBlock,h4',h5,run_keyThatStays (show IsKey (.int .i64) (.int .i64 s) from rfl)]
  ·unfold IntMap
   have:=h6 u
   rw [Array.toList_modify]
   exact this
  ·refine stamped_modify hst j _ (fun _ _=>rfl) (fun x _ hx=>?_)
   have h4':es[j]?=some e':=by simpa using h4
   rw [h4'] at hx
   cases hx
   exact h5.symm
end
structure RatV where
 neg:Bool
 mag:List Nat
 den:List Nat
def ratV0:RatV:=⟨false,[],[]⟩
def RatV.q (r:RatV):Rat:=mkRat (sg r.neg (vl r.mag)) (dn (vl r.den))
def IsRaw (w:World) (v:Value) (r:RatV):Prop:=∃ mv dv',v=.agg #[.bool r.neg,mv,dv']/\Rds w mv r.mag/\Rds w dv' r.den
theorem IsRaw.keep {w w':World} {v:Value} {r:RatV} (h:IsRaw w v r) (hx:XF w w'):IsRaw w' v r:=by
 obtain ⟨mv,dv',e,h1,h2⟩:=h
 exact ⟨mv,dv',e,h1.keep hx,h2.keep hx⟩
theorem IsRaw.reads {w:World} {v:Value} {r:RatV} (h:IsRaw w v r) {L:Nat} (h1:r.mag.length<=L) (h2:r.den.length<=L):Rrat w v r.q L:=by
 obtain ⟨mv,dv',e,h3,h4⟩:=h
 exact ⟨r.neg,mv,dv',r.mag,r.den,e,h3,h1,h4,h2,rfl⟩
def Raws (w:World) (v:Value) (rs:List RatV):Prop:=∃ cs:List (List Value),cs.length=rs.length/\Sl w v 3 cs/\∀ (i:Nat) c r,cs[i]?=some c->rs[i]?=some r->IsRaw w (.agg c.toArray) r
theorem Raws.keep {w w':World} {v:Value} {rs:List RatV} (h:Raws w v rs) (hx:XF w w'):Raws w' v rs:=by
 obtain ⟨cs,h1,h2,h3⟩:=h
 exact ⟨cs,h1,h2.keep hx,fun i c q hc hq=>(h3 i c q hc hq).keep hx⟩
theorem Raws.shape {w:World} {v:Value} {rs:List RatV} (h:Raws w v rs):∃ ao c,v=.slice ao rs.length c/\(ao=none->c=0)/\rs.length<=9223372036854775807/\rs.length<=c:=by
 obtain ⟨cs,h0,h1,_⟩:=h
 obtain ⟨ao,c,h1,h2⟩:=h1.shape
 rw [h0] at h1 h2
 exact ⟨ao,c,h1,h2⟩
def fewR (d:Nat) (r:RatV):Bool:=decide (r.mag.length<=d) && decide (r.den.length<=d)
def fewL (d:Nat) (rs:List RatV):Bool:=rs.all (fewR d)
def valL (rs:List RatV):List Rat:=rs.map RatV.q
theorem Raws.rats {w:World} {v:Value} {rs:List RatV} (h:Raws w v rs) {L:Nat} (hf:fewL L rs=true):Rats w v (valL rs) L:=by
 obtain ⟨cs,h1,h2,h3⟩:=h
 refine ⟨cs,by unfold valL; rw [List.length_map,h1],h2,fun i c q hc hq=>?_⟩
 unfold valL at hq
 rw [List.getElem?_map] at hq
 obtain ⟨r,hr,rfl⟩:=Option.map_eq_some_iff.1 hq
 unfold fewL at hf
 have:=List.all_eq_true.1 hf r (List.mem_of_getElem? hr)
 unfold fewR at this
 simp only [Bool.and_eq_true,decide_eq_true_eq] at this
 exact (h3 i c r hc hr).reads this.1 this.2
theorem Raws.at {w:World} {ao:Option Addr} {n c:Nat} {rs:List RatV} (h:Raws w (.slice ao n c) rs) (i:Nat) (hi:i<rs.length):∃ b off a1 m1 c1 a2 m2 c2,ao=some ⟨b,off,none⟩/\b<w.heap.size /\
  w.cell? ⟨b,off+i*3,none⟩=some (.bool (rs.getD i ratV0).neg)/\w.cell? ⟨b,off+i*3+1,none⟩=some (.slice a1 m1 c1)/\w.cell? ⟨b,off+i*3+2,none⟩=some (.slice a2 m2 c2)/\m1=(rs.getD i ratV0).mag.length/\m2=(rs.getD i ratV0).den.length/\IsRaw w (.agg #[.bool (rs.getD i ratV0).neg,.slice a1 m1 c1,.slice a2 m2 c2]) (rs.getD i ratV0):=by
 rw [getD_lt hi]
 obtain ⟨cs,h0,h1,h2⟩:=h
 have hi':i<cs.length:=by omega
 obtain ⟨b,off,g1,g2,g3⟩:=h1.at (i:=i) (List.getElem?_eq_getElem hi')
 have k1:=h2 i _ _ (List.getElem?_eq_getElem hi') (List.getElem?_eq_getElem hi)
 obtain ⟨mv,dv',e,k2,k3⟩:=id k1
 obtain ⟨a1,c1,rfl⟩:∃ a c,mv=.slice a rs[i].mag.length c:=by obtain ⟨_,a,c,e,_⟩:=k2; exact ⟨a,c,e⟩
 obtain ⟨a2,c2,rfl⟩:∃ a c,dv'=.slice a rs[i].den.length c:=by obtain ⟨_,a,c,e,_⟩:=k3; exact ⟨a,c,e⟩
 rw [e] at k1
 have ec:cs[i]=[.bool rs[i].neg,.slice a1 rs[i].mag.length c1,.slice a2 rs[i].den.length c2]:=by
  injection e with e
  have:=congrArg Array.toList e
  simpa using this
 rw [ec] at g3
 exact ⟨b,off,a1,_,c1,a2,_,c2,g1,g2,g3 0 _ rfl,g3 1 _ rfl,g3 2 _ rfl,rfl,rfl,k1⟩
theorem Rds.len63 {w:World} {v:Value} {l:List Nat} (h:Rds w v l):l.length<=9223372036854775807:=by
 obtain ⟨_,_,c,_,h1,h2,_⟩:=h
 unfold maxLen at h2
 omega
theorem Few_any (w:World) (v:Value) (rs:List RatV) (d:Nat) (hd:d<=1000000) (h:Raws w v rs):Calls Tryz.prog 39 #[.int .i64 d,v] w (BoolPost w (fewL d rs)):=by
 obtain ⟨ao,c,rfl,-,hn,-⟩:=h.shape
 have HR:=bH h
 obtain ⟨n,hn'⟩:∃ n,rs.length=n:=⟨_,rfl⟩
 have HN:=bH hn'
 rw [hn'] at hn HR ⊢
 clear hn' h
 go_enter Tryz.func39,Tryz.ntmps39
 go_wp2_with fail
 go_loopg [5] n (fun gg v5 wr=>∃ i:Nat,i<=n/\gg=n - i/\v5=.int .i64 i/\(rs.take i).all (fewR d)=true/\XF w wr)
 case atStart=>exact ⟨0,Nat.zero_le _,rfl,rfl,rfl,Ext.refl _ _⟩
 case round =>
  obtain ⟨i,hi,rfl,rfl,hall,hx⟩:=hrel
  have HX:=bH (bI hall hx)
  clear hall hx
  by_cases hin:i<n
  ·have i0:(i:Int)<(n:Int):=by omega
   have i1:(0:Int)<=(i:Int):=by omega
   have HI:Hid (i<rs.length):=bH (by rw [HN.out]; exact hin)
   obtain ⟨b,off,a1,m1,c1,a2,m2,c2,rfl,-,e0,e1,e2,hm1,hm2,hraw⟩:=(HR.out.keep HX.out.2).at i HI.out
   have hl1:m1<=9223372036854775807:=by
    obtain ⟨mv,dv',e,k2,k3⟩:=hraw
    rw [hm1]; exact k2.len63
   have hl2:m2<=9223372036854775807:=by
    obtain ⟨mv,dv',e,k2,k3⟩:=hraw
    rw [hm2]; exact k3.len63
   have HF:=bH (show fewR d (rs.getD i ratV0)=(decide (m1<=d) && decide (m2<=d)) from by unfold fewR; rw [hm1,hm2])
   clear hraw hm1 hm2
   generalize (rs.getD i ratV0).neg=ng at *
   by_cases q1:d<m1
   ·have q1':(d:Int)<(m1:Int):=by omega
    go_wp2
    go_ret
    exact ⟨ret_bool (all_fails (d:=ratV0) HI.out (by rw [HF.out,decide_eq_false (p:=m1<=d) (by omega)]; rfl)).symm,HX.out.2⟩
   ·have q1':¬ (d:Int)<(m1:Int):=by omega
    by_cases q2:d<m2
    ·have q2':(d:Int)<(m2:Int):=by omega
     go_wp2
     go_ret
     exact ⟨ret_bool (all_fails (d:=ratV0) HI.out (by rw [HF.out,decide_eq_false (p:=m2<=d) (by omega)]; simp)).symm,HX.out.2⟩
    ·have q2':¬ (d:Int)<(m2:Int):=by omega
     go_wp2
     go_roundg (n - (i+1))
     case measure=>omega
     case rel=>exact ⟨i+1,by omega,rfl,by go_num,all_next (d:=ratV0) HI.out HX.out.1 (by rw [HF.out,decide_eq_true (p:=m1<=d) (by omega),decide_eq_true (p:=m2<=d) (by omega)]; rfl),HX.out.2⟩
  ·obtain rfl:i=n:=by omega
   have HT:Hid (fewL d rs=true):=bH (by
    have:=HX.out.1
    rw [List.take_of_length_le (by rw [HN.out]; exact Nat.le_refl _)] at this
    exact this)
   go_wp2
   go_ret
   exact ⟨ret_bool HT.out.symm,HX.out.2⟩
def shortB (rs:List RatV) (k:Nat):Bool:=decide (rs.length<=k) && fewL 4 rs
theorem Short_any (w:World) (v:Value) (rs:List RatV) (k:Nat) (hk:k<=1000000) (h:Raws w v rs):Calls Tryz.prog 17 #[v,.int .i64 k] w (BoolPost w (shortB rs k)):=by
 obtain ⟨ao,c,rfl,-,hn,-⟩:=h.shape
 have HF:=bH (Few_any w _ rs 4 (by omega) h)
 have HS:=bH (show shortB rs k=(decide (rs.length<=k) && fewL 4 rs) from rfl)
 clear h
 generalize rs.length=n at *
 generalize fewL 4 rs=fb at *
 by_cases q:n<=k
 ·have q':(n:Int)<=(k:Int):=by omega
  go_enter Tryz.func17,Tryz.ntmps17
  go_wp2_with fail
  refine HF.out.mono ?_
  rintro r w' ⟨rfl,hx⟩
  have HX:=bH hx
  clear hx
  go_wp2
  go_ret
  exact ⟨ret_bool (by rw [HS.out,decide_eq_true q]; rfl),HX.out⟩
 ·have q':¬ (n:Int)<=(k:Int):=by omega
  go_enter Tryz.func17,Tryz.ntmps17
  go_wp2
  go_ret
  exact ⟨ret_bool (by rw [HS.out,decide_eq_false q]; rfl),Ext.refl _ w⟩
def fewRow (k:Nat) (r:RowV):Bool:=decide (r.terms.length<=2*k) && decide (r.name.size<=100)
def fewP (p:ProgV) (k m:Nat):Bool:=p.rows.all (fewRow k) && decide (p.vars.length<=k) && decide (p.rows.length<=m)
theorem FewP_any (w:World) (pv:Value) (p:ProgV) (k m:Nat) (hk:k<=1000000) (hm:m<=1000000) (hp:IsPrg w pv p):Calls Tryz.prog 10 #[pv,.int .i64 k,.int .i64 m] w (BoolPost w (fewP p k m)):=by
 obtain ⟨vv,rv,rfl,hv,hr⟩:=hp
 obtain ⟨vo,vc,rfl,-,hvn,-⟩:=hv.shape
 obtain ⟨ro,rc,rfl,-,hrn,-⟩:=hr.shape
 have HV:=bH hr
 have HF:=bH (show fewP p k m=(p.rows.all (fewRow k) && decide (p.vars.length<=k) && decide (p.rows.length<=m)) from rfl)
 clear hv hr
 generalize p.vars.length=vn at *
 obtain ⟨n,hn'⟩:∃ n,p.rows.length=n:=⟨_,rfl⟩
 have HN:=bH hn'
 rw [hn'] at hrn HV HF ⊢
 clear hn'
 have HB:=bH (bI (blk_alloc_at w (.cells #[.slice vo vn vc,.slice ro n rc] 25)) ((Ext.refl (fun _=>False) w).alloc (.cells #[.slice vo vn vc,.slice ro n rc] 25)))
 go_enter Tryz.func10,Tryz.ntmps10
 go_upto_region 1 with fail
 generalize hw1:w.alloc (.cells #[.slice vo vn vc,.slice ro n rc] 25)=w1 at *
 clear hw1
 obtain ⟨pb,hpb⟩:∃ pb,w.heap.size=pb:=⟨_,rfl⟩
 rw [hpb] at HB ⊢
 clear hpb
 go_wp2_with fail
 go_loopg [7] n (fun gg v7 wr=>∃ i:Nat,i<=n/\gg=n - i/\v7=.int .i64 i/\(p.rows.take i).all (fewRow k)=true/\XF w1 wr)
 case atStart=>exact ⟨0,Nat.zero_le _,rfl,rfl,rfl,Ext.refl _ _⟩
 case round =>
  obtain ⟨i,hi,rfl,rfl,hall,hx⟩:=hrel
  have HX:=bH (bI hall hx)
  clear hall hx
  have z0:=cell_keep (cellq HB.out.1 0 rfl) HX.out.2
  have z1:=cell_keep (cellq HB.out.1 1 rfl) HX.out.2
  by_cases hin:i<n
  ·have i0:(i:Int)<(n:Int):=by omega
   have i1:(0:Int)<=(i:Int):=by omega
   have HI:Hid (i<p.rows.length):=bH (by rw [HN.out]; exact hin)
   obtain ⟨b,off,ta,tc,rfl,-,e0,e1,e2,e3,e4,hok,htm⟩:=(HV.out.keep (HB.out.2.trans HX.out.2)).atp i HI.out
   have hns:(p.r i).name.size<=9223372036854775807:=by have:=hok.name; unfold maxLen at this; omega
   obtain ⟨-,-,-,-,htn,-⟩:=htm.shape
   have HR:=bH (show fewRow k (p.rows.getD i row0)=(decide ((p.r i).terms.length<=2*k) && decide ((p.r i).name.size<=100)) from rfl)
   clear hok htm
   generalize (p.r i).terms.length=tl at *
   generalize (p.r i).name=nm at *
   obtain ⟨kk,hkk⟩:∃ kk,2*k=kk:=⟨_,rfl⟩
   have hk2:(2:Int)*(k:Int)=(kk:Int):=by omega
   rw [hkk] at HR
   have hkk63:kk<=9223372036854775807:=by omega
   clear hkk
   by_cases q1:kk<tl
   ·have q1':(kk:Int)<(tl:Int):=by omega
    go_wp2
    go_ret
    exact ⟨ret_bool (by rw [HF.out,all_fails (d:=row0) HI.out (by rw [HR.out,decide_eq_false (p:=tl<=kk) (by omega)]; rfl)]; rfl),HB.out.2.trans HX.out.2⟩
   ·have q1':¬ (kk:Int)<(tl:Int):=by omega
    by_cases q2:100<nm.size
    ·have q2':(100:Int)<(nm.size:Int):=by omega
     go_wp2
     go_ret
     exact ⟨ret_bool (by rw [HF.out,all_fails (d:=row0) HI.out (by rw [HR.out,decide_eq_false (p:=nm.size<=100) (by omega)]; simp)]; rfl),HB.out.2.trans HX.out.2⟩
    ·have q2':¬ (100:Int)<(nm.size:Int):=by omega
     go_wp2
     go_roundg (n - (i+1))
     case measure=>omega
     case rel=>exact ⟨i+1,by omega,rfl,by go_num,all_next (d:=row0) HI.out HX.out.1 (by rw [HR.out,decide_eq_true (p:=tl<=kk) (by omega),decide_eq_true (p:=nm.size<=100) (by omega)]; rfl),HX.out.2⟩
  ·obtain rfl:i=n:=by omega
   have HF2:Hid (fewP p k m=(decide (vn<=k) && decide (i<=m))):=bH (by
    have:=HX.out.1
    rw [List.take_of_length_le (by rw [HN.out]; exact Nat.le_refl _)] at this
    rw [HF.out,this]; rfl)
   by_cases q1:vn<=k
   ·have q1':(vn:Int)<=(k:Int):=by omega
    by_cases q2:i<=m
    ·have q2':(i:Int)<=(m:Int):=by omega
     go_wp2
     go_ret
     exact ⟨ret_bool (by rw [HF2.out,decide_eq_true q1,decide_eq_true q2]; rfl),HB.out.2.trans HX.out.2⟩
    ·have q2':¬ (i:Int)<=(m:Int):=by omega
     go_wp2
     go_ret
     exact ⟨ret_bool (by rw [HF2.out,decide_eq_true q1,decide_eq_false q2]; rfl),HB.out.2.trans HX.out.2⟩
   ·have q1':¬ (vn:Int)<=(k:Int):=by omega
    go_wp2
    go_ret
    exact ⟨ret_bool (by rw [HF2.out,decide_eq_false q1]; rfl),HB.out.2.trans HX.out.2⟩
def NoD (xs:List Value):Prop:=∀ u ∈ xs,∀ d,u≠.int .u32 d
theorem noDig_cells {w:World} {g:Nat} {cur:Array Value} {t:TypeId} {fr:Nat × Nat} (h:blk w g=some (.cells cur t fr)) (hn:NoD cur.toList):NoDig w g:=fun i d hc=>by
 rw [cell_of_cells h] at hc
 exact hn _ (by rw [<- Array.getElem?_toList] at hc; exact List.mem_of_getElem? hc) d rfl
theorem NoDig.cells {w:World} {g:Nat} {cur:Array Value} {t:TypeId} {fr:Nat × Nat} (hn:NoDig w g) (h:blk w g=some (.cells cur t fr)):NoD cur.toList:=fun u hu d e=>by
 obtain ⟨i,hi,rfl⟩:=List.getElem_of_mem hu
 refine hn i d ?_
 rw [cell_of_cells h,<- Array.getElem?_toList,List.getElem?_eq_getElem hi,e]
theorem NoD.append {xs ys:List Value} (h:NoD xs) (k:NoD ys):NoD (xs++ys):=fun u hu=>(List.mem_append.1 hu).elim (h u) (k u)
theorem NoD.take {xs:List Value} (h:NoD xs) (n:Nat):NoD (xs.take n):=fun u hu=>h u (List.mem_of_mem_take hu)
theorem NoD.drop {xs:List Value} (h:NoD xs) (n:Nat):NoD (xs.drop n):=fun u hu=>h u (List.mem_of_mem_drop hu)
theorem noD_zero {z:Array Value} (h:NoD z.toList) (n:Nat):NoD (Builtin.zeroCells z n).toList:=fun u hu=>by
 unfold Builtin.zeroCells at hu
 rw [Array.toList_map] at hu
 obtain ⟨i,hi,rfl⟩:=List.mem_map.1 hu
 have hi':i<n*z.size:=by simpa using hi
 have hz:0<z.size:=Nat.pos_of_ne_zero (fun e=>by rw [e] at hi'; simp at hi')
 have hm:i % z.size<z.size:=Nat.mod_lt _ hz
 rw [getElem!_pos z _ hm]
 exact h _ (by rw [<- Array.getElem_toList]; exact List.getElem_mem _)
section
variable {P:Program}
theorem append_noDig (w:World) (base:Nat) (t ty e:TypeId) (i:TypeInfo) (z:Value) (ht:P.underlying t=some (.slice e)) (hi:P.info? e=some i) (hz:i.zero=some z)
  (hzs:z.cells.size=i.size) (hzn:NoD z.cells.toList)
  (v:Value) (n:Nat) (xs:List Value) (hown:w.ownsRow base e i.size v n xs) (hnd:∀ g,v.ownBlock=some g->NoDig w g) (hxs:NoD xs)
  (a:Addr) (m c:Nat) (news:List Value) (hl:news.length=m*i.size) (hnews:∀ j u,news[j]?=some u->w.cell? (a.add j)=some u) (h1:∀ u ∈ news,u.oneCell'=true) (hnn:NoD news) (hm:0<m)
  (h63:n+m<=maxLen) (hbytes:(n+m)*i.bytes<=140737488355328) :
  ∀ v' w',(Builtin.append_ #[t,t] ty #[v,.slice (some a) m c]).run P w=.ok v' w'->∀ g,v'.ownBlock=some g->NoDig w' g:=by
 intro v' w' hrun g' hg'
 have hsmall:n+m<=9223372036854775807:=by simp only [maxLen] at h63; omega
 rcases hown.2 with ⟨rfl,rfl⟩ | ⟨g,cap,cur,rfl,hbg,hg,hnc,hcm,hcs,htake⟩
 ·have hr:=run_append_nil (P:=P) w t ty e i z ht hi hz a m c news hl hnews hm (by omega) (by have hb:=hbytes; simp only [Nat.zero_add] at hb; omega)
  rw [hr] at hrun
  injection hrun with h2 h3
  subst h2 h3
  cases hg'
  refine noDig_cells (show blk (w.drew.alloc _) w.heap.size=some _ from blk_alloc_at w.drew _) ?_
  rw [Array.toList_append]
  exact (by simpa using hnn:NoD news.toArray.toList).append (noD_zero hzn _)
 ·by_cases hroom:n+m<=cap
  ·have hfit:n*i.size+news.length<=cur.size:=by rw [hl,hcs,<- Nat.add_mul]; exact Nat.mul_le_mul_right _ hroom
   have hr:=run_append_room (P:=P) w t ty e i ht hi g n cap cur hg a m c news hl hnews h1 hroom hfit
   rw [hr] at hrun
   injection hrun with h2 h3
   subst h2 h3
   cases hg'
   have hc:=(hnd g rfl).cells (show blk w g=some _ from hg)
   refine noDig_cells (show blk (w.setRow g _) g=some _ from setRow_heap w g cur _ e _ hg) ?_
   exact ((hc.take _).append hnn).append (hc.drop _)
  ·have holds:∀ j u,xs[j]?=some u->w.cell? ((⟨g,0,none⟩:Addr).add j)=some u:=hown.cells (g:=g) rfl
   have hr:=run_append_grow (P:=P) w t ty e i z ht hi hz ⟨g,0,none⟩ n cap xs hown.1 holds a m c news hl hnews (by omega) (by omega) (growslice_fits (by omega) hbytes)
   rw [hr] at hrun
   injection hrun with h2 h3
   subst h2 h3
   cases hg'
   refine noDig_cells (show blk (w.drew.alloc _) w.heap.size=some _ from blk_alloc_at w.drew _) ?_
   rw [Array.toList_append,Array.toList_append]
   exact (hxs.append (by simpa using hnn:NoD news.toArray.toList)).append (noD_zero hzn _)
end
structure RatC where
 ng:Bool
 a1:Option Addr
 m1:Nat
 c1:Nat
 a2:Option Addr
 m2:Nat
 c2:Nat
def RatC.cells (x:RatC):List Value:=[.bool x.ng,.slice x.a1 x.m1 x.c1,.slice x.a2 x.m2 x.c2]
def RatC.v (x:RatC):Value:=.agg #[.bool x.ng,.slice x.a1 x.m1 x.c1,.slice x.a2 x.m2 x.c2]
theorem ratC_noD (x:RatC):NoD x.cells:=fun u hu d e=>by
 subst e
 simp [RatC.cells] at hu
theorem ratC_one (x:RatC):∀ u ∈ x.cells,u.oneCell'=true:=fun u hu=>by
 simp [RatC.cells] at hu
 rcases hu with rfl | rfl | rfl <;> rfl
theorem ratsC_noD (cs:List RatC):NoD (cs.flatMap RatC.cells):=fun u hu=>by
 obtain ⟨x,hx,hu⟩:=List.mem_flatMap.1 hu
 exact ratC_noD x u hu
def ROwn (w:World) (base:Nat) (v:Value) (l:List Rat) (L:Nat):Prop :=
 ∃ cs:List RatC,cs.length=l.length/\w.ownsRow base 64 3 v l.length (cs.flatMap RatC.cells)/\(∀ g,v.ownBlock=some g->NoDig w g)/\∀ (i:Nat) c q,cs[i]?=some c->l[i]?=some q->Rrat w c.v q L
theorem ROwn.shape {w:World} {base:Nat} {v:Value} {l:List Rat} {L:Nat} (h:ROwn w base v l L):∃ ao cap,v=.slice ao l.length cap:=by
 obtain ⟨cs,_,h1,_⟩:=h
 exact ownsRow_shape h1
theorem ROwn.lt {w:World} {base:Nat} {v:Value} {l:List Rat} {L:Nat} (h:ROwn w base v l L):∀ g,v.ownBlock=some g->base<=g/\g<w.heap.size:=by
 obtain ⟨cs,_,h1,_⟩:=h
 exact h1.lt
theorem ROwn.past {S:Nat->Prop} {w w':World} {base:Nat} {v:Value} {l:List Rat} {L:Nat} (h:ROwn w base v l L) (hx:Ext S w w') (hn:∀ g,v.ownBlock=some g->¬ S g) (hr:∀ u d,Rds w u d->Rds w' u d):ROwn w' base v l L:=by
 have hlt:=h.lt
 obtain ⟨cs,h1,h2,h3,h4⟩:=h
 refine ⟨cs,h1,ownsRow_ext h2 hx hn,fun g hg i d hc=>h3 g hg i d ?_,fun i c q hc hq=>?_⟩
 ·rw [<- hx.cell (p:=⟨g,i,none⟩) (hlt g hg).2 (hn g hg)]; exact hc
 ·obtain ⟨n,m,d,l,k,g1,g2,g3,g4,g5⟩:=h4 i c q hc hq
  exact ⟨n,m,d,l,k,g1,hr _ _ g2,g3,hr _ _ g4,g5⟩
theorem ROwn.keep {w w':World} {base:Nat} {v:Value} {l:List Rat} {L:Nat} (h:ROwn w base v l L) (hx:XF w w'):ROwn w' base v l L:=h.past hx (fun _ _ h=>h) (fun _ _ hr=>hr.keep hx)
theorem ROwn.rats {w:World} {base:Nat} {v:Value} {l:List Rat} {L:Nat} (h:ROwn w base v l L):Rats w v l L:=by
 obtain ⟨cs,h1,h2,h3,h4⟩:=h
 rcases h2.2 with ⟨rfl,h0⟩ | ⟨g,cap,cur,rfl,hb,hg,hnc,hcm,hcs,htake⟩
 ·have hl:=List.eq_nil_of_length_eq_zero h0
  subst hl
  exact Rats.nil w L
 ·refine ⟨cs.map RatC.cells,by rw [List.length_map,h1],⟨some ⟨g,0,none⟩,cap,by rw [List.length_map,h1],by rw [List.length_map,h1]; exact hnc,hcm,(fun e=>by cases e),fun hp=>⟨g,0,rfl,(Array.getElem?_eq_some_iff.1 hg).1,fun i r hi j u hu=>?_⟩⟩,fun i c q hc hq=>?_⟩
  ·rw [List.getElem?_map] at hi
   obtain ⟨x,hx,rfl⟩:=Option.map_eq_some_iff.1 hi
   have hil:i<cs.length:=(List.getElem?_eq_some_iff.1 hx).1
   have hj:j<3:=(List.getElem?_eq_some_iff.1 hu).1
   have hget:=fm_get (f:=RatC.cells) (m:=3) (fun _=>rfl) cs i hx j hj
   rw [<- htake] at hget
   rw [Nat.zero_add,cell_of_cells (show blk w g=some _ from hg),<- Array.getElem?_toList,<- hu,<- hget,List.getElem?_take,if_pos (by
    have:i<l.length:=by omega
    omega)]
  ·rw [List.getElem?_map] at hc
   obtain ⟨x,hx,rfl⟩:=Option.map_eq_some_iff.1 hc
   exact h4 i x q hx hq
theorem run_append_rat (w:World) (base:Nat) (v:Value) (l:List Rat) (L:Nat) (x:RatC) (q:Rat) (ad:Addr) (c:Nat) (ty:TypeId) (h:ROwn w base v l L) (hq:Rrat w x.v q L) (hsrc:∀ j u,x.cells[j]?=some u->w.cell? (ad.add j)=some u) (hl:l.length<=1000000) (hbase:base<=w.heap.size) :
  ∃ v' w',(Builtin.append_ #[26,26] ty #[v,.slice (some ad) 1 c]).run Tryz.prog w=.ok v' w'/\ROwn w' base v' (l++[q]) L/\Ext (fun k=>v.ownBlock=some k) w w'/\(∀ u d,Rds w u d->Rds w' u d):=by
 obtain ⟨i0,hi,hz0,hz1,hz2⟩:=info_parts Tryz.infoRat
 obtain ⟨cs,h1,h2,h3,h4⟩:=h
 have h2':w.ownsRow base 64 i0.size v l.length (cs.flatMap RatC.cells):=by rw [hz1]; exact h2
 have hsz:(Value.agg #[.bool false,.slice none 0 0,.slice none 0 0]).cells.size=i0.size:=by rw [hz1]; rfl
 have hzn:NoD (Value.agg #[.bool false,.slice none 0 0,.slice none 0 0]).cells.toList:=ratC_noD ⟨false,none,0,0,none,0,0⟩
 have hbt:(l.length+1)*i0.bytes<=140737488355328:=by rw [hz2]; omega
 have h63:l.length+1<=maxLen:=by unfold maxLen; omega
 obtain ⟨v',w',hr,g1,g2,_,g5⟩:=run_append_own_at (P:=Tryz.prog) w base 26 ty 64 i0 _ i0.size i0.bytes Tryz.underlying26 hi hz0 rfl rfl hsz (by rw [hz1]; decide) v l.length _ h2' ad 1 c x.cells (by rw [hz1]; rfl) hsrc (ratC_one x) h63 hbt hbase
 have hx:Ext (fun k=>v.ownBlock=some k) w w':=(Ext.refl (fun k=>v.ownBlock=some k) w).grown g2 (fun k hk _=>hk)
 have hrd:∀ u d,Rds w u d->Rds w' u d:=fun u d hu=>hu.past hx (fun k _ hk=>h3 k hk)
 have hnd:=append_noDig (P:=Tryz.prog) w base 26 ty 64 i0 _ Tryz.underlying26 hi hz0 hsz hzn v l.length _ h2' h3 (ratsC_noD cs) ad 1 c x.cells (by rw [hz1]; rfl) hsrc (ratC_one x) (ratC_noD x) (by omega) h63 hbt v' w' hr
 refine ⟨v',w',hr,⟨cs++[x],by rw [List.length_append,List.length_append,h1]; rfl,?_,hnd,fun i c' q' hc' hq'=>?_⟩,hx,hrd⟩
 ·rw [List.length_append,List.flatMap_append,List.flatMap_cons,List.flatMap_nil,List.append_nil]
  rw [hz1] at g1
  exact g1
 ·have hkeep:∀ {c:RatC} {q:Rat},Rrat w c.v q L->Rrat w' c.v q L:=fun hh=>by
   obtain ⟨n,m,d,l,k,e1,e2,e3,e4,e5⟩:=hh
   exact ⟨n,m,d,l,k,e1,hrd _ _ e2,e3,hrd _ _ e4,e5⟩
  by_cases hi':i<cs.length
  ·rw [List.getElem?_append_left hi'] at hc'
   rw [List.getElem?_append_left (by omega)] at hq'
   exact hkeep (h4 i c' q' hc' hq')
  ·rw [List.getElem?_append_right (by omega)] at hc' hq'
   have e:i - cs.length=0:=by
    have:=(List.getElem?_eq_some_iff.1 hc').1
    simp at this
    omega
   rw [e] at hc'
   rw [show i - l.length=0 from by omega] at hq'
   cases hc'; cases hq'
   exact hkeep hq
theorem wpList_append_rat {w:World} {ops:Array Oper} {rest:List Oper} {o:Oper} {a:Act} {Q:Exit->Act->World->Prop} (hgd:o.guard=none) (s x:Operand)
  (ho:o.op=.call { callee:=.builtin .append,args:=#[s,x],argTypes:=#[26,26] })
  (base:Nat) (v:Value) (l:List Rat) (L:Nat) (hs:a.eval s=v) (hown:ROwn w base v l L) (e:RatC) (q:Rat) (hq:Rrat w e.v q L) (ad:Addr) (c:Nat) (hx:a.eval x=.slice (some ad) 1 c) (hsrc:∀ j u,e.cells[j]?=some u->w.cell? (ad.add j)=some u) (hl:l.length<=1000000) (hbase:base<=w.heap.size)
  (h:∀ v' w',ROwn w' base v' (l++[q]) L->Ext (fun k=>v.ownBlock=some k) w w'->(∀ u d,Rds w u d->Rds w' u d)->wpList Tryz.prog ops Q rest (a.put o.dst v') w') :
  wpList Tryz.prog ops Q (o :: rest) a w:=by
 refine wpList_plain hgd fun K hK=>?_
 obtain ⟨v',w',hr,h2,h3,h5⟩:=run_append_rat w base v l L e q ad c o.type hown hq hsrc hl hbase
 unfold Oper.wp execOp
 simp only [ho,resolve,invoke,builtin,Sem.run_bind,Sem.run_pure,Result.andThen_ok,List.map_toArray,List.map_cons,List.map_nil,hs,hx,hr]
 exact hK _ _ (h v' w' h2 h3 h5)
theorem times_any (w:World) (k:Int) (v:Value) (q:Rat) (L:Nat) (hk:InR k) (h:Rrat w v q L) (hL:L<=1000000):Calls Tryz.prog 67 #[.int .i64 k,v] w (RatPost w ((k:Rat)*q)):=by
 obtain ⟨ng,a1,m1,c1,a2,m2,c2,rfl⟩:=h.shape
 have HF:=bH (fun W=>Rrfrom_any W k hk.1 hk.2)
 have hx:=((Ext.refl (fun _=>False) w).alloc (.cells #[.bool ng,.slice a1 m1 c1,.slice a2 m2 c2] 64)).alloc (.cells #[.bool false,.slice none 0 0,.slice none 0 0] 64)
 have hb0:=(boxR_new (W:=w) rfl ng a1 m1 c1 a2 m2 c2).alloc (.cells #[.bool false,.slice none 0 0,.slice none 0 0] 64)
 have hb1:=boxR_new (W:=w.alloc (.cells #[.bool ng,.slice a1 m1 c1,.slice a2 m2 c2] 64)) rfl false none 0 0 none 0 0
 rw [World.size_alloc] at hb1
 have HM:=bH (fun W u (hW:XF ((w.alloc (.cells #[.bool ng,.slice a1 m1 c1,.slice a2 m2 c2] 64)).alloc (.cells #[.bool false,.slice none 0 0,.slice none 0 0] 64)) W) (hu:IsRat W u (k:Rat))=>Rrmul_any W u _ _ q (L+2) (hu.reads ((Sz.int hk).mono (by omega))) ((h.keep (hx.trans hW)).mono (by omega)) (by omega) (by omega))
 have HB:=bH (bI hb1 hx)
 clear h hk
 obtain ⟨Q,hQ⟩:∃ Q,(k:Rat)*q=Q:=⟨_,rfl⟩
 rw [hQ] at HM ⊢
 clear hQ
 generalize (k:Rat)=kq at *
 go_enter Tryz.func67,Tryz.ntmps67
 go_upto_region 1 with fail
 generalize hw1:(w.alloc (.cells #[.bool ng,.slice a1 m1 c1,.slice a2 m2 c2] 64)).alloc (.cells #[.bool false,.slice none 0 0,.slice none 0 0] 64)=w1 at *
 clear hw1 hb1 hx
 obtain ⟨xb,hxb⟩:∃ xb,w.heap.size=xb:=⟨_,rfl⟩
 have hxw:w.heap.size<=xb:=Nat.le_of_eq hxb
 rw [hxb] at HB hb0 ⊢
 clear hxb
 obtain ⟨f0,f1,f2,-⟩:=hb0.facts
 have hS:S3 xb xb xb 0 1 2 (.bool ng) (.slice a1 m1 c1) (.slice a2 m2 c2) w1:=⟨f0,f1,f2⟩
 clear f0 f1 f2 hb0
 refine ends_begin 4 (S3 xb xb xb 0 1 2 (.bool ng) (.slice a1 m1 c1) (.slice a2 m2 c2)) (by kernel_rfl) (hS.drew) (fun hHeld=>?_)
 refine ends_take 0 (v:=?_) rfl (by kernel_rfl) (by kernel_rfl) (by kernel_rfl) (by kernel_rfl) (fun _ _ _ h=>h) (by rfl) ?_ (by assumption) ?_
 rotate_left
 ·((intro w hSw; (try dsimp only at hSw); go_simp) <;> with_reducible rfl)
 (try go_frame)
 refine ends_take 2 (v:=?_) rfl (by kernel_rfl) (by kernel_rfl) (by kernel_rfl) (by kernel_rfl) (fun _ _ _ h=>h) (by rfl) ?_ (by assumption) ?_
 rotate_left
 ·((intro w hSw; (try dsimp only at hSw); go_simp) <;> with_reducible rfl)
 (try go_frame)
 refine ends_step 1 rfl (by kernel_rfl) (fun K hK=>?_)
 (go_simp; go_at_call 31; (with_reducible refine (HF.out _).mono ?_); rintro q1 w11 ⟨v11,rfl,h11,hx11⟩; have hX1:=(Ext.refl (fun _=>False) w1).drew.trans hx11; have hK1:=hS.keep hX1; have hM:=HM.out w11 _ hX1 h11; obtain ⟨n11,a11,l11,c11,a11',l11',c11',rfl⟩:=h11.shape)
 refine hK.out _ _ (hK1) (fun hHeld=>?_)
 clear hK K
 (try go_frame)
 refine ends_step 3 rfl (by kernel_rfl) (fun K hK=>?_)
 (go_simp; go_at_call 92; (with_reducible refine hM.mono ?_); rintro q2 w12 ⟨v12,rfl,h12,hx12⟩; have hX2:=hX1.trans hx12; have hK2:=hS.keep hX2; obtain ⟨n12,a12,l12,c12,a12',l12',c12',rfl⟩:=h12.shape; have hbr:=HB.out.1.keep hX2)
 refine hK.out _ _ (hK2) (fun hHeld=>?_)
 clear hK K
 (try go_frame)
 obtain ⟨d0,d1,d2,d3,d4,d5⟩:=hbr.facts
 refine ends_last rfl (by kernel_rfl) (fun K hK=>?_)
 go_simp
 refine hK.out _ _ ?_
 clear hK K
 (try go_frame)
 refine ends_done (by kernel_rfl) ?_ _
 have HP:=bH (rat_put (w:=w) hbr (by omega) (HB.out.2.trans hX2) h12)
 clear hX1 hX2 hK1 hK2 h11 h12 hx11 hx12 hM hS hbr d0 d1 d2 d3 d4 d5 hHeld HF HM
 go_wp2
 generalize ((w12.setCell ⟨xb+1,0,none⟩ (.bool n12)).setCell ⟨xb+1,1,none⟩ (.slice a12 l12 c12)).setCell ⟨xb+1,2,none⟩ (.slice a12' l12' c12')=w9 at *
 obtain ⟨g0,g1,g2,_⟩:=HP.out.1.facts
 exact bodyPost_ret (v:=.agg #[.bool n12,.slice a12 l12 c12,.slice a12' l12' c12']) (by simp [results,Tryz.results67,go_sem,g0,g1,g2]) rfl HP.out.2
theorem Dot4_any (w:World) (tv xv:Value) (ts:List TermV) (x:List Rat) (L:Nat) (hv:Tms w tv ts) (hl:Rats w xv x L) (h1:1<=L) (hL:1+ts.length*(L+3)+(L+3)<=1000000) :
  Calls Tryz.prog 36 #[tv,xv] w (RatPost w (dotQ ts x)):=by
 obtain ⟨vo,vc,rfl,-,hn,-⟩:=hv.shape
 have HT:=bH (bI hv hl)
 have hbr:=(boxR_new (W:=w) rfl false none 0 0 none 0 0).alloc (.cells #[.bool false,.slice none 0 0,.slice none 0 0] 64)
 have hbs:=boxR_new (W:=w.alloc (.cells #[.bool false,.slice none 0 0,.slice none 0 0] 64)) rfl false none 0 0 none 0 0
 rw [World.size_alloc] at hbs
 have HB:=bH (bI hbr (bI hbs (((Ext.refl (fun _=>False) w).alloc (.cells #[.bool false,.slice none 0 0,.slice none 0 0] 64)).alloc (.cells #[.bool false,.slice none 0 0,.slice none 0 0] 64))))
 have Hsz:=bH (fun i hi=>sum_size (f:=fun k=>(ts.getD k term0).coef) (g:=fun k=>atQ x (ts.getD k term0).var) (L:=L) (n:=ts.length) (fun k hk=>(hv.ok k hk).coef) (fun k _=>hl.sz h1 _) i hi)
 have Hx:=bH (fun i:Int=>hl.sz h1 i)
 have HA0:=bH (fun W (hW:XF w W) (i:Int)=>At_any W _ x L (hl.keep hW) i)
 clear hv hl hbr hbs
 unfold dotQ
 obtain ⟨n,hn'⟩:∃ n,ts.length=n:=⟨_,rfl⟩
 have HN:=bH hn'
 rw [hn'] at hn hL HT Hsz ⊢
 clear hn'
 go_enter Tryz.func36,Tryz.ntmps36
 go_upto_region 2 with fail
 generalize hw1:(w.alloc (.cells #[.bool false,.slice none 0 0,.slice none 0 0] 64)).alloc (.cells #[.bool false,.slice none 0 0,.slice none 0 0] 64)=w1 at *
 clear hw1
 obtain ⟨rb,hrb0⟩:∃ rb,w.heap.size=rb:=⟨_,rfl⟩
 have hrw:w.heap.size<=rb:=Nat.le_of_eq hrb0
 rw [hrb0] at HB ⊢
 clear hrb0
 obtain ⟨sb,hsb0⟩:∃ sb,rb+1=sb:=⟨_,rfl⟩
 have hsr:rb<sb:=by omega
 rw [hsb0] at HB ⊢
 clear hsb0
 go_wp2_with fail
 go_loopg [6] n (fun gg v6 wr=>∃ i:Nat,i<=n/\gg=n - i/\v6=.int .i64 i/\(∃ sn s1 sm1 sc1 s2 sm2 sc2,BoxR wr sb sn (.slice s1 sm1 sc1) (.slice s2 sm2 sc2)/\IsRat wr (.agg #[.bool sn,.slice s1 sm1 sc1,.slice s2 sm2 sc2]) (sumTo i fun k=>((ts.getD k term0).coef:Rat)*atQ x (ts.getD k term0).var))/\BoxR wr rb false (.slice none 0 0) (.slice none 0 0)/\XF w wr)
 case atStart=>exact ⟨0,Nat.zero_le _,rfl,rfl,⟨_,_,_,_,_,_,_,HB.out.2.1,IsRat.zero _⟩,HB.out.1,HB.out.2.2⟩
 case round =>
  obtain ⟨i,hi,rfl,rfl,hst,hrb,hx⟩:=hrel
  by_cases hin:i<n
  ·have i0:(i:Int)<(n:Int):=by omega
   have i1:(0:Int)<=(i:Int):=by omega
   obtain ⟨sn,s1,sm1,sc1,s2,sm2,sc2,hsb,hsq⟩:=hst
   obtain ⟨b,off,rfl,-,e0,e1,hok⟩:=(HT.out.1.keep hx).at i (by rw [HN.out]; exact hin)
   have hszi:=Hsz.out i hi
   have hle:=Nat.mul_le_mul_right (L+3) hi
   have HStep:=bH (show sumTo (i+1) (fun k=>((ts.getD k term0).coef:Rat)*atQ x (ts.getD k term0).var)=sumTo i (fun k=>((ts.getD k term0).coef:Rat)*atQ x (ts.getD k term0).var)+((ts.getD i term0).coef:Rat)*atQ x (ts.getD i term0).var from rfl)
   have HAt:=bH (fun W (hW:XF w W)=>HA0.out W hW (ts.getD i term0).var)
   have HTm:=bH (fun W u (hu:Rrat W u (atQ x (ts.getD i term0).var) L)=>times_any W (ts.getD i term0).coef u _ L hok.coef hu (by omega))
   have hpr:=(Sz.int hok.coef).mul (Hx.out (ts.getD i term0).var)
   have HAd:=bH (fun W u (hW:XF wr W) (hu:IsRat W u (((ts.getD i term0).coef:Rat)*atQ x (ts.getD i term0).var))=>Rradd_any W _ u _ _ 1000000 ((hsq.keep hW).reads (hszi.mono (by omega))) (hu.reads (hpr.mono (by omega))) (by omega) (by omega))
   rw [<- HStep.out] at HAd
   obtain ⟨t0,t1,t2,-⟩:=hsb.facts
   have hS:S5 sb sb sb b b 0 1 2 (off+i*2) (off+i*2+1) (.bool sn) (.slice s1 sm1 sc1) (.slice s2 sm2 sc2) (.int .i64 (ts.getD i term0).var) (.int .i64 (ts.getD i term0).coef) wr:=⟨t0,t1,t2,e0,e1⟩
   have HSB:=bH (bI hsb hrb)
   have hx6:=hx
   clear hsb hrb hsq hx e0 e1 t0 t1 t2 hok hszi hpr hle HStep
   generalize (((ts.getD i term0).coef:Int):Rat)*atQ x (ts.getD i term0).var=PR at *
   generalize atQ x (ts.getD i term0).var=AQ at *
   generalize (ts.getD i term0).var=tvr at *
   generalize (ts.getD i term0).coef=co at *
   go_upto_region 5 with fail
   refine ends_begin 15 (S5 sb sb sb b b 0 1 2 (off+i*2) (off+i*2+1) (.bool sn) (.slice s1 sm1 sc1) (.slice s2 sm2 sc2) (.int .i64 tvr) (.int .i64 co)) (by kernel_rfl) (hS.drew) (fun hHeld=>?_)
   refine ends_take 0 (v:=?_) rfl (by kernel_rfl) (by kernel_rfl) (by kernel_rfl) (by kernel_rfl) (fun _ _ _ h=>h) (by rfl) ?_ (by assumption) ?_
   rotate_left
   ·((intro w hSw; (try dsimp only at hSw); go_simp) <;> with_reducible rfl)
   (try go_frame)
   refine ends_take 1 (v:=?_) rfl (by kernel_rfl) (by kernel_rfl) (by kernel_rfl) (by kernel_rfl) (fun _ _ _ h=>h) (by rfl) ?_ (by assumption) ?_
   rotate_left
   ·((intro w hSw; (try dsimp only at hSw); go_simp) <;> with_reducible rfl)
   (try go_frame)
   refine ends_take 2 (v:=?_) rfl (by kernel_rfl) (by kernel_rfl) (by kernel_rfl) (by kernel_rfl) (fun _ _ _ h=>h) (by rfl) ?_ (by assumption) ?_
   rotate_left
   ·((intro w hSw; (try dsimp only at hSw); go_simp) <;> with_reducible rfl)
   (try go_frame)
   refine ends_take 3 (v:=?_) rfl (by kernel_rfl) (by kernel_rfl) (by kernel_rfl) (by kernel_rfl) (fun _ _ _ h=>h) (by rfl) ?_ (by assumption) ?_
   rotate_left
   ·((intro w hSw; (try dsimp only at hSw); go_simp) <;> with_reducible rfl)
   (try go_frame)
   refine ends_take 4 (v:=?_) rfl (by kernel_rfl) (by kernel_rfl) (by kernel_rfl) (by kernel_rfl) (fun _ _ _ h=>h) (by rfl) ?_ (by assumption) ?_
   rotate_left
   ·((intro w hSw; (try dsimp only at hSw); go_simp) <;> with_reducible rfl)
   (try go_frame)
   refine ends_take 5 (v:=?_) rfl (by kernel_rfl) (by kernel_rfl) (by kernel_rfl) (by kernel_rfl) (fun _ _ _ h=>h) (by rfl) ?_ (by assumption) ?_
   rotate_left
   ·((intro w hSw; (try dsimp only at hSw); go_simp) <;> with_reducible rfl)
   (try go_frame)
   refine ends_take 6 (v:=?_) rfl (by kernel_rfl) (by kernel_rfl) (by kernel_rfl) (by kernel_rfl) (fun _ _ _ h=>h) (by rfl) ?_ (by assumption) ?_
   rotate_left
   ·((intro w hSw; (try dsimp only at hSw); go_simp) <;> with_reducible rfl)
   (try go_frame)
   refine ends_take 7 (v:=?_) rfl (by kernel_rfl) (by kernel_rfl) (by kernel_rfl) (by kernel_rfl) (fun _ _ _ h=>h) (by rfl) ?_ (by assumption) ?_
   rotate_left
   ·((intro w hSw; (try dsimp only at hSw); go_simp) <;> with_reducible rfl)
   (try go_frame)
   refine ends_take 8 (v:=?_) rfl (by kernel_rfl) (by kernel_rfl) (by kernel_rfl) (by kernel_rfl) (fun _ _ _ h=>h) (by rfl) ?_ (by assumption) ?_
   rotate_left
   ·((intro w hSw; (try dsimp only at hSw); go_simp) <;> with_reducible rfl)
   (try go_frame)
   refine ends_take 9 (v:=?_) rfl (by kernel_rfl) (by kernel_rfl) (by kernel_rfl) (by kernel_rfl) (fun _ _ _ h=>h) (by rfl) ?_ (by assumption) ?_
   rotate_left
   ·((intro w hSw; (try dsimp only at hSw); go_simp) <;> with_reducible rfl)
   (try go_frame)
   refine ends_take 10 (v:=?_) rfl (by kernel_rfl) (by kernel_rfl) (by kernel_rfl) (by kernel_rfl) (fun _ _ _ h=>h) (by rfl) ?_ (by assumption) ?_
   rotate_left
   ·((intro w hSw; (try dsimp only at hSw); go_simp) <;> with_reducible rfl)
   (try go_frame)
   refine ends_take 11 (v:=?_) rfl (by kernel_rfl) (by kernel_rfl) (by kernel_rfl) (by kernel_rfl) (fun _ _ _ h=>h) (by rfl) ?_ (by assumption) ?_
   rotate_left
   ·((intro w hSw; (try dsimp only at hSw); go_simp) <;> with_reducible rfl)
   (try go_frame)
   refine ends_step 12 rfl (by kernel_rfl) (fun K hK=>?_)
   (go_simp; go_at_call 40; (with_reducible refine (HAt.out _ (hx6.drew)).mono ?_); rintro q1 w11 ⟨v11,rfl,h11,hx11⟩; have hX1:=(Ext.refl (fun _=>False) wr).drew.trans hx11; have hK1:=hS.keep hX1; have hT:=HTm.out w11 _ h11; obtain ⟨n11,a11,l11,c11,a11',l11',c11',rfl⟩:=h11.shape)
   refine hK.out _ _ (hK1) (fun hHeld=>?_)
   clear hK K
   (try go_frame)
   refine ends_step 13 rfl (by kernel_rfl) (fun K hK=>?_)
   (go_simp; go_at_call 67; (with_reducible refine hT.mono ?_); rintro q2 w12 ⟨v12,rfl,h12,hx12⟩; have hX2:=hX1.trans hx12; have hK2:=hS.keep hX2; have hA:=HAd.out w12 _ hX2 h12; obtain ⟨n12,a12,l12,c12,a12',l12',c12',rfl⟩:=h12.shape)
   refine hK.out _ _ (hK2) (fun hHeld=>?_)
   clear hK K
   (try go_frame)
   refine ends_step 14 rfl (by kernel_rfl) (fun K hK=>?_)
   (go_simp; go_at_call 66; (with_reducible refine hA.mono ?_); rintro q3 w13 ⟨v13,rfl,h13,hx13⟩; have hX3:=hX2.trans hx13; have hK3:=hS.keep hX3; obtain ⟨n13,a13,l13,c13,a13',l13',c13',rfl⟩:=h13.shape; have hbr:=HSB.out.1.keep hX3)
   refine hK.out _ _ (hK3) (fun hHeld=>?_)
   clear hK K
   (try go_frame)
   obtain ⟨d0,d1,d2,d3,d4,d5⟩:=hbr.facts
   refine ends_last rfl (by kernel_rfl) (fun K hK=>?_)
   go_simp
   refine hK.out _ _ ?_
   clear hK K
   (try go_frame)
   refine ends_done (by kernel_rfl) ?_ _
   have HX:=bH (hx6.trans hX3)
   have hp:=hbr.put (neg:=n13) (no_int a13 l13 c13) (no_int a13' l13' c13')
   have HP:=bH (bI hp.box (bI (hp.rat h13) (bI (HX.out.own hp.ext (fun k e=>by omega)) ((HSB.out.2.keep hX3).ext hp.ext (fun e=>by omega)))))
   clear hp hbr hX1 hX2 hX3 hK1 hK2 hK3 h11 h12 h13 hx11 hx12 hx13 hT hA hS hHeld d0 d1 d2 d3 d4 d5 HAd HTm HSB
   generalize ((w13.setCell ⟨sb,0,none⟩ (.bool n13)).setCell ⟨sb,1,none⟩ (.slice a13 l13 c13)).setCell ⟨sb,2,none⟩ (.slice a13' l13' c13')=w9 at *
   go_wp2
   go_roundg (n - (i+1))
   case measure=>omega
   case rel=>exact ⟨i+1,by omega,rfl,by go_num,⟨_,_,_,_,_,_,_,HP.out.1,HP.out.2.1⟩,HP.out.2.2.2,HP.out.2.2.1⟩
  ·obtain rfl:i=n:=by omega
   obtain ⟨sn,s1,sm1,sc1,s2,sm2,sc2,hsb,hsq⟩:=hst
   obtain ⟨e0,e1,e2,_⟩:=hsb.facts
   obtain ⟨d0,d1,d2,d3,d4,d5⟩:=hrb.facts
   have hp:=hrb.put (neg:=sn) (no_int s1 sm1 sc1) (no_int s2 sm2 sc2)
   have HR:=bH (bI (hp.rat hsq) (bI (hx.own hp.ext (fun k e=>by omega)) hp.box))
   clear hp hsb hsq hrb hx
   go_wp2
   generalize ((wr.setCell ⟨rb,0,none⟩ (.bool sn)).setCell ⟨rb,1,none⟩ (.slice s1 sm1 sc1)).setCell ⟨rb,2,none⟩ (.slice s2 sm2 sc2)=w9 at *
   obtain ⟨g0,g1,g2,_⟩:=HR.out.2.2.facts
   exact bodyPost_ret (v:=.agg #[.bool sn,.slice s1 sm1 sc1,.slice s2 sm2 sc2]) (by simp [results,Tryz.results36,go_sem,g0,g1,g2]) rfl ⟨_,rfl,HR.out.1,HR.out.2.1⟩
theorem ROwn.empty {w:World} {g base:Nat} (L:Nat) (h:blk w g=some (.cells #[] 64 (0,0))) (hb:base<=g):ROwn w base (.slice (some ⟨g,0,none⟩) 0 0) [] L :=
 ⟨[],rfl,ownsRow_empty 3 hb h,(fun g' e=>by cases e; exact noDig_cells h (fun u hu=>by cases hu)),(fun i c q h=>by simp at h)⟩
def RatsPost (w:World) (l:List Rat) (L:Nat) (r:Ending) (w':World):Prop:=∃ v,r=.returned v/\Rats w' v l L/\XF w w'
theorem ext_own {w0 w w':World} {v:Value} (h:XF w0 w) (hx:Ext (fun k=>v.ownBlock=some k) w w') (hb:∀ g,v.ownBlock=some g->w0.heap.size<=g):XF w0 w' :=
 h.own hx (fun k hk=>hb k hk)
theorem Point_any (w:World) (pv xv:Value) (p:ProgV) (x:List Rat) (L:Nat) (hp:IsPrg w pv p) (hl:Rats w xv x L) (hn0:p.vars.length<=1000000) :
  Calls Tryz.prog 37 #[pv,xv] w (RatsPost w (listTo p.vars.length fun i=>atQ x i) L):=by
 obtain ⟨vv,rv,rfl,hv,-⟩:=hp
 obtain ⟨vo,vc,rfl,-,hn,-⟩:=hv.shape
 have HA:=bH (fun W (hW:XF w W) (i:Int)=>At_any W _ x L (hl.keep hW) i)
 clear hv hl
 obtain ⟨n,hn'⟩:∃ n,p.vars.length=n:=⟨_,rfl⟩
 rw [hn'] at hn hn0 ⊢
 clear hn'
 have hb1:blk ((w.alloc (.cells #[.slice vo n vc,rv] 25)).alloc (.cells #[] 64)) w.heap.size=some (.cells #[.slice vo n vc,rv] 25 (0,0)):=(blk_alloc_past _ _ _ (by simp)).trans (blk_alloc_at _ _)
 have hb2:=blk_alloc_at (w.alloc (.cells #[.slice vo n vc,rv] 25)) (.cells #[] 64)
 rw [World.size_alloc] at hb2
 have HB:=bH (bI hb1 (bI (ROwn.empty (base:=w.heap.size+1) L hb2 (Nat.le_refl _)) (((Ext.refl (fun _=>False) w).alloc (.cells #[.slice vo n vc,rv] 25)).alloc (.cells #[] 64))))
 clear hb1 hb2
 go_enter Tryz.func37,Tryz.ntmps37
 go_upto_region 2 with fail
 generalize hw1:(w.alloc (.cells #[.slice vo n vc,rv] 25)).alloc (.cells #[] 64)=w1 at *
 clear hw1
 have z0:=cellq HB.out.1 0 rfl
 obtain ⟨bs,hbs⟩:∃ bs,w.heap.size=bs:=⟨_,rfl⟩
 have HBs:=bH hbs
 rw [hbs] at HB z0 ⊢
 clear hbs
 go_wp2_with fail
 go_loopg [6,5] n (fun gg v6 v5 wr=>∃ (i:Nat) (v:Value),i<=n/\gg=n - i/\v6=.int .i64 i/\v5=v/\ROwn wr (bs+1) v (listTo i fun k=>atQ x k) L/\wr.cell? ⟨bs,0,none⟩=some (.slice vo n vc)/\XF w wr)
 case atStart=>exact ⟨0,_,Nat.zero_le _,rfl,rfl,rfl,HB.out.2.1,z0,HB.out.2.2⟩
 case round =>
  clear z0
  obtain ⟨i,v,hi,rfl,rfl,rfl,ho,z0,hx⟩:=hrel
  obtain ⟨ao,cap,rfl⟩:=ho.shape
  have hll:(listTo i fun k=>atQ x k).length=i:=listTo_length _ _
  rw [hll] at ho ⊢
  by_cases hin:i<n
  ·have i0:(i:Int)<(n:Int):=by omega
   have HA1:=bH (HA.out wr hx i)
   have HO:=bH (bI ho (bI hx z0))
   have HLl:=bH hll
   clear ho hx hll
   go_wp2_with fail
   refine HA1.out.mono ?_
   rintro r2 w2 ⟨v2,rfl,h2,hx2⟩
   obtain ⟨n2,a2,l2,c2,a2',l2',c2',rfl⟩:=h2.shape
   have hxa:=(Ext.refl (fun _=>False) w2).alloc (.cells #[.bool n2,.slice a2 l2 c2,.slice a2' l2' c2'] 64)
   have HO2:=bH (bI (HO.out.1.keep (hx2.trans hxa)) (bI (h2.keep hxa) ((HO.out.2.1.trans hx2).trans hxa)))
   have HZ2:=bH (cell_keep (cell_keep HO.out.2.2 hx2) hxa)
   have HSz:=bH (show bs+1<=(w2.alloc (.cells #[.bool n2,.slice a2 l2 c2,.slice a2' l2' c2'] 64)).heap.size from (by have:=World.block_lt_of_cell? _ _ HZ2.out; exact this))
   have HG:=bH (fun g e=>(HO2.out.1.lt g e).1)
   clear h2 hx2 hxa HA1 z0
   go_wp2_with (at_builtin; refine wpList_append_rat rfl (.tmp 15) (.tmp 19) rfl (bs+1) _ _ L rfl HO2.out.1 ⟨n2,a2,l2,c2,a2',l2',c2'⟩ (atQ x i) HO2.out.2.1 ⟨w2.heap.size,0,none⟩ 1 rfl (cells_new (RatC.cells ⟨n2,a2,l2,c2,a2',l2',c2'⟩) _ rfl) (by rw [HLl.out]; omega) HSz.out ?_; intro v5 w5 hown5 hx5 hrd5; have HN:Hid (ROwn w5 (bs+1) v5 (listTo (i+1) fun k=>atQ x k) L):=bH (by rw [listTo_succ]; exact hown5); have HX5:Hid (XF w w5):=bH (ext_own HO2.out.2.2 hx5 (fun g e=>by have:=HG.out g e; have:=HBs.out; omega)); have HZ5:Hid (w5.cell? ⟨bs,0,none⟩=some (.slice vo n vc)):=bH ((hx5.cell (p:=⟨bs,0,none⟩) (World.block_lt_of_cell? _ _ HZ2.out) (fun e=>absurd (HG.out bs e) (by omega))).trans HZ2.out); clear hown5 hx5 hrd5)
   go_roundg (n - (i+1))
   case measure=>omega
   case rel=>exact ⟨i+1,_,by omega,rfl,by go_num,rfl,HN.out,HZ5.out,HX5.out⟩
  ·obtain rfl:i=n:=by omega
   have HO:=bH (bI ho hx)
   clear ho hx
   go_wp2
   go_ret
   exact ⟨_,rfl,by have:=HO.out.1.rats; exact this,HO.out.2⟩
theorem dot_point (p:ProgV) (ts:List TermV) (x:List Rat):dotQ ts (listTo p.vars.length fun i=>atQ x i)=dotQ ts (clipQ p x):=by
 refine sumTo_congr fun k _=>?_
 congr 1
 generalize (ts.getD k term0).var=i
 by_cases h0:i<0
 ·rw [atQ_neg _ h0,atQ_neg _ h0]
 obtain ⟨j,rfl⟩:∃ j:Nat,i=j:=⟨i.toNat,by omega⟩
 by_cases hj:j<p.vars.length
 ·rw [atQ_listTo _ hj,atQ_clip p x (by omega)]
 ·rw [atQ_out _ (by rw [listTo_length]; omega),atQ_out (clipQ p x) (by unfold clipQ; rw [List.length_take]; omega)]
theorem Holds_any (w:World) (pv xv:Value) (p:ProgV) (r:RowV) (x:List Rat) (L T:Nat) (ta:Option Addr) (tc:Nat) (hp:IsPrg w pv p) (hok:RowOk r) (ht:Tms w (.slice ta r.terms.length tc) r.terms) (hl:Rats w xv x L) (h1:1<=L) (hT:r.terms.length<=T) (hL:1+T*(L+3)+(L+3)<=1000000) (hn0:p.vars.length<=1000000) :
  Calls Tryz.prog 15 #[pv,.agg #[.string r.name,.int .i64 r.group,.int .i64 r.kind,.slice ta r.terms.length tc,.int .i64 r.bound],xv] w (BoolPost w (holdsB r (clipQ p x))):=by
 have HPt:=bH (fun W (hW:XF w W)=>Point_any W _ _ p x L (hp.keep hW) (hl.keep hW) hn0)
 obtain ⟨vv,rv,rfl,-,-⟩:=hp
 have hx:=((Ext.refl (fun _=>False) w).alloc (.cells #[vv,rv] 25)).alloc (.cells #[.string r.name,.int .i64 r.group,.int .i64 r.kind,.slice ta r.terms.length tc,.int .i64 r.bound] 35)
 have hle:=Nat.mul_le_mul_right (L+3) hT
 have HDo:=bH (fun W u (hW:XF w W) (hu:Rats W u (listTo p.vars.length fun i=>atQ x i) L)=>Dot4_any W _ u r.terms _ L (ht.keep hW) hu h1 (by omega))
 rw [dot_point] at HDo
 have hpz:∀ i:Int,Sz (atQ (clipQ p x) i) L:=fun i=>by
  obtain ⟨yo,yc,e,_⟩:=hl.shape
  rw [e] at hl
  unfold clipQ
  by_cases h:p.vars.length<=x.length
  ·exact (hl.take p.vars.length h).sz h1 i
  ·rw [List.take_of_length_le (by omega)]; exact hl.sz h1 i
 have hdz:=dot_sz (x:=clipQ p x) (L:=L) (T:=T) (fun k hk=>ht.ok k hk) hpz hT
 have HF:=bH (fun W=>Rrfrom_any W r.bound hok.bound.1 hok.bound.2)
 have HC:=bH (fun W u u' (hu:IsRat W u (dotQ r.terms (clipQ p x))) (hu':IsRat W u' ((r.bound:Int):Rat))=>Rrcmp_any W u u' _ _ 1000002 (hu.reads (hdz.mono (by omega))) (hu'.reads ((Sz.int hok.bound).mono (by omega))) (by omega) (by omega))
 have HR0:=bH (show holdsB r (clipQ p x)=_ from kind_sign)
 have hk0:=hok.kind
 clear hl ht hok hdz hpz hle
 generalize listTo p.vars.length (fun i=>atQ x i)=pt at *
 generalize dotQ r.terms (clipQ p x)=D at *
 generalize hZ:(D - (r.bound:Rat)).num.sign=sg at *
 have HR:=HR0
 clear hZ HR0
 generalize r.terms.length=tl at *
 generalize r.name=nm at *
 generalize r.group=gr at *
 generalize ((r.bound:Int):Rat)=bq at *
 generalize r.bound=bd at *
 obtain ⟨k,hk⟩:∃ k,r.kind=k:=⟨_,rfl⟩
 rw [hk] at HR hk0 hx ⊢
 clear hk
 have hb0:blk ((w.alloc (.cells #[vv,rv] 25)).alloc (.cells #[.string nm,.int .i64 gr,.int .i64 k,.slice ta tl tc,.int .i64 bd] 35)) w.heap.size=some (.cells #[vv,rv] 25 (0,0)):=(blk_alloc_past _ _ _ (by simp)).trans (blk_alloc_at _ _)
 have hb1:=blk_alloc_at (w.alloc (.cells #[vv,rv] 25)) (.cells #[.string nm,.int .i64 gr,.int .i64 k,.slice ta tl tc,.int .i64 bd] 35)
 rw [World.size_alloc] at hb1
 have HB:=bH (bI hb0 (bI hb1 hx))
 clear hb0 hb1 hx
 go_enter Tryz.func15,Tryz.ntmps15
 go_upto_region 1 with fail
 generalize hw1:(w.alloc (.cells #[vv,rv] 25)).alloc (.cells #[.string nm,.int .i64 gr,.int .i64 k,.slice ta tl tc,.int .i64 bd] 35)=w1 at *
 clear hw1
 obtain ⟨pb,hpb⟩:∃ pb,w.heap.size=pb:=⟨_,rfl⟩
 obtain ⟨rb,hrb⟩:∃ rb,pb+1=rb:=⟨_,rfl⟩
 rw [hpb,hrb] at HB ⊢
 clear hpb hrb
 have hS:S4 pb pb rb rb 0 1 3 4 vv rv (.slice ta tl tc) (.int .i64 bd) w1:=⟨cellq HB.out.1 0 rfl,cellq HB.out.1 1 rfl,cellq HB.out.2.1 3 rfl,cellq HB.out.2.1 4 rfl⟩
 have hxw:=HB.out.2.2
 have HD:=bH (fun W u (hW:XF w1 W) hu=>HDo.out W u (HB.out.2.2.trans hW) hu)
 refine wp_region_held_drew (S:=(S4 pb pb rb rb 0 1 3 4 vv rv (.slice ta tl tc) (.int .i64 bd))) (by kernel_rfl) (hS.drew) (fun hHeld=>?_)
 refine ht 0 (h:=?_)
 (try go_frame)
 refine ht 1 (h:=?_)
 (try go_frame)
 refine ht 2 (h:=?_)
 (try go_frame)
 refine ht 3 (h:=?_)
 (try go_frame)
 refine ht 6 (h:=?_)
 (try go_frame)
 refine ht 7 (h:=?_)
 (try go_frame)
 refine held_step 4 rfl (by kernel_rfl) (fun K hK=>?_)
 (go_simp; go_at_call 37; (with_reducible refine (HPt.out _ (hxw.drew)).mono ?_); rintro q0 w10 ⟨v10,rfl,h10,hx10⟩; have hX0:=(Ext.refl (fun _=>False) w1).drew.trans hx10; have hK0:=hS.keep hX0; have hD:=HD.out w10 _ hX0 h10; obtain ⟨zo10,zc10,rfl,-,-,-⟩:=h10.shape)
 refine hK.out _ _ (hK0) (fun hHeld=>?_)
 clear hK K
 (try go_frame)
 refine held_step 5 rfl (by kernel_rfl) (fun K hK=>?_)
 (go_simp; go_at_call 36; (with_reducible refine hD.mono ?_); rintro q1 w11 ⟨v11,rfl,h11,hx11⟩; have hX1:=hX0.trans hx11; have hK1:=hS.keep hX1; obtain ⟨n11,a11,l11,c11,a11',l11',c11',rfl⟩:=h11.shape)
 refine hK.out _ _ (hK1) (fun hHeld=>?_)
 clear hK K
 (try go_frame)
 refine held_step 8 rfl (by kernel_rfl) (fun K hK=>?_)
 (go_simp; go_at_call 31; (with_reducible refine (HF.out _).mono ?_); rintro q2 w12 ⟨v12,rfl,h12,hx12⟩; have hX2:=hX1.trans hx12; have hK2:=hS.keep hX2; have hC2:=HC.out w12 _ _ (h11.keep hx12) h12; obtain ⟨n12,a12,l12,c12,a12',l12',c12',rfl⟩:=h12.shape)
 refine hK.out _ _ (hK2) (fun hHeld=>?_)
 clear hK K
 (try go_frame)
 refine held_step 9 rfl (by kernel_rfl) (fun K hK=>?_)
 (go_simp; go_at_call 35; (with_reducible refine hC2.mono ?_); rintro q3 w13 ⟨rfl,hx13⟩; have hX3:=hX2.trans hx13; have hK3:=hS.keep hX3)
 refine hK.out _ _ (hK3) (fun hHeld=>?_)
 clear hK K
 (try go_frame)
 refine ht 10 (h:=?_)
 (try go_frame)
 refine wpAnyH_done (by kernel_rfl) ?_ _
 have e2:=cell_keep (cellq HB.out.2.1 2 rfl) hX3
 have HX:=bH (hxw.trans hX3)
 clear hX0 hX1 hX2 hX3 hK0 hK1 hK2 hK3 hS h10 h11 h12 hx10 hx11 hx12 hx13 hD hC2 hxw HB HD HF HC HPt HDo hHeld
 have hcase:(k=0/\0<sg)∨(k=0/\¬ 0<sg)∨(k=1/\sg<0)∨(k=1/\¬ sg<0)∨(¬ k=0/\¬ k=1/\¬ sg=0)∨(¬ k=0/\¬ k=1/\sg=0):=by omega
 rcases hcase with ⟨rfl,hs⟩ | ⟨rfl,hs⟩ | ⟨rfl,hs⟩ | ⟨rfl,hs⟩ | ⟨hk0',hk1,hs⟩ | ⟨hk0',hk1,hs⟩
 ·have s1:¬ sg<=0:=by omega
  go_wp2
  go_ret
  exact ⟨ret_bool (by rw [HR.out]; simp [hs]),HX.out⟩
 ·have s1:sg<=0:=by omega
  go_wp2
  go_ret
  exact ⟨ret_bool (by rw [HR.out]; simp [hs]),HX.out⟩
 ·have s1:¬ 0<=sg:=by omega
  go_wp2
  go_ret
  exact ⟨ret_bool (by rw [HR.out]; simp [hs]),HX.out⟩
 ·have s1:0<=sg:=by omega
  go_wp2
  go_ret
  exact ⟨ret_bool (by rw [HR.out]; simp [hs]),HX.out⟩
 ·have k1:(k == 1)=false:=by simpa using hk1
  have k2:(k == 0)=false:=by simpa using hk0'
  have s1:(sg == 0)=false:=by simpa using hs
  go_wp2
  go_ret
  exact ⟨ret_bool (by rw [HR.out]; simp [hk0',hk1,hs]),HX.out⟩
 ·have k1:(k == 1)=false:=by simpa using hk1
  have k2:(k == 0)=false:=by simpa using hk0'
  subst hs
  go_wp2
  go_ret
  exact ⟨ret_bool (by rw [HR.out]; simp [hk0',hk1]),HX.out⟩
end Go.Proofs.YtjaldknfeojjkaaGreat
