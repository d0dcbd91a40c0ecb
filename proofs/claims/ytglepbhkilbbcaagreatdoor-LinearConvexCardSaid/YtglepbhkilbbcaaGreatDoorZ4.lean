/-
  Texts of the proof, part 4. Conditions: each lemma names its own.
-/
import Derived.Test.YtglepbhkilbbcaaGreatDoorZ3
import Derived.Deep.RegionHeld3
import Derived.Shelf.SlicesQ.IndexFunc
import Derived.Shelf.SlGeneric
import Derived.Ground.SlgfProg
import Derived.Shelf.Strings.Builder1
import Derived.Shelf.Strings.Builder2
import Derived.Shelf.Strings.OnBuilder
import Derived.Shelf.Small.Bits
import Derived.Shelf.Strconv.Itoa0
import Derived.Shelf.Strconv.Itoa1
import Derived.Shelf.LaysM
import Derived.Shelf.Strconv.Itoa2
import Derived.Shelf.Strconv.Itoa3
import Derived.Shelf.Strconv.Itoa4
import Derived.Shelf.GgClosure.StringsIndexFunc
import Derived.Ground.GgwProg
import Derived.Shelf.GgClosure.StringsIndexFuncTop
import Derived.Shelf.Strings.FuncGrows
import Derived.Shelf.Slices.Turned
import Derived.Ground.Names2Prog
import Derived.Shelf.Slices.SearchI
import Derived.Ground.SlgfProg
import Derived.Shelf.SlicesE.IndexFunc
import Derived.Ground.SlgmProg
import Derived.Shelf.SortM.Plain
import Derived.Shelf.SortM.SortNone
import Derived.Test.YtglepbhkilbbcaaGreatDoorProg
import Derived.Laws.RangeAny
import Derived.Lib.LaidTab
import Derived.Lib.ItoaLen
import Derived.Shelf.Strings.BuilderF
import Derived.Shelf.Strings.BuilderK
import Derived.Shelf.Strings.Builder2Cap
import Derived.Shelf.Sort.Plain
import Derived.Shelf.Slices.In.SortNone
import Derived.Maps.RangeWalk
set_option linter.unusedVariables false
set_option linter.unusedSimpArgs false
set_option maxRecDepth 100000
set_option maxHeartbeats 16000000
namespace Go.Proofs.YtglepbhkilbbcaaGreatDoor
open Go.RowKit Go.MapKept
open Go.ChangeMaps (setBlock)
theorem Rrat.shape {w:World} {v:Value} {q:Rat} {L:Nat} (h:Rrat w v q L):∃ neg a1 m1 c1 a2 m2 c2,v=.agg #[.bool neg,.slice a1 m1 c1,.slice a2 m2 c2]:=by
 obtain ⟨neg,a1,m1,c1,a2,m2,c2,_,_,h,_⟩:=h.open
 exact ⟨neg,a1,m1,c1,a2,m2,c2,h⟩
def TermPost (w:World) (k:Int) (q:Rat) (L:Nat) (r:Ending) (w':World):Prop:=∃ u,r=.returned (.tuple #[.int .i64 k,u])/\Rrat w' u q L/\XF w w'
theorem sign_zero (q:Rat):q.num.sign=0↔q=0:=by
 constructor
 ·intro h
  have:=Int.sign_eq_zero_iff_zero.1 h
  exact Rat.num_eq_zero.1 this
 ·intro h; subst h; rfl
theorem sum_size {f:Nat->Int} {g:Nat->Rat} {L:Nat} {n:Nat} (hf:∀ i,i<n->InR (f i)) (hg:∀ i,i<n->Sz (g i) L):∀ i,i<=n->Sz (sumTo i fun j=>(f j:Rat)*g j) (1+i*(L+3))
 | 0,_=>Sz.zero.mono (by omega)
 | i+1,hi=>by
  have h1:=sum_size hf hg i (by omega)
  have h2:=(Sz.int (hf i (by omega))).mul (hg i (by omega))
  have e:1+i*(L+3)+(2+L)+1=1+(i+1)*(L+3):=by rw [Nat.succ_mul]; omega
  exact (h1.add h2).mono (Nat.le_of_eq e)
def SumSt (w w0:World) (r s n i:Nat) (q:Rat):Prop:=∃ neg a1 m1 c1 a2 m2 c2,BoxR w s neg (.slice a1 m1 c1) (.slice a2 m2 c2)/\IsRat w (.agg #[.bool neg,.slice a1 m1 c1,.slice a2 m2 c2]) q/\BoxR w r false (.slice none 0 0) (.slice none 0 0)/\XF w0 w
theorem SumSt.keep {w w' w0:World} {r s n i:Nat} {q:Rat} (h:SumSt w w0 r s n i q) (hx:XF w w'):SumSt w' w0 r s n i q:=by
 obtain ⟨neg,a1,m1,c1,a2,m2,c2,h1,h2,h3,h4⟩:=h
 exact ⟨neg,a1,m1,c1,a2,m2,c2,h1.ext hx id,h2.keep hx,h3.ext hx id,h4.trans hx⟩
theorem lsum_any (w:World) (n:Nat) (F:Nat) (caps:Array Value) (f:Nat->Int) (g:Nat->Rat) (L:Nat) (h1:1<=L) (hL:1+n*(L+3)+(L+3)<=4000000) (hf:∀ i,i<n->InR (f i)) (hg:∀ i,i<n->Sz (g i) L)
  (eg:∀ args W,(callFunc F args).run Tryz.prog W=.ok (.enter F args) W)
  (H:∀ W,XF w W->∀ i:Nat,i<n->Calls Tryz.prog F (#[.int .i64 i]++caps) W (TermPost W (f i) (g i) L)) :
  Calls Tryz.prog 67 #[.int .i64 n,.func (.func F) #[] caps] w (RatPost w (sumTo n fun i=>(f i:Rat)*g i)):=by
 have hn:n<=4000000:=by
  have:=Nat.le_mul_of_pos_right n (show 0<L+3 by omega)
  omega
 have H0:=bH H
 have HF:=bH hf
 have HG:=bH hg
 clear H hf hg
 have HZ:=bH (fun W=>rfrom_any W 0 (by omega) (by omega))
 go_enter Tryz.func67,Tryz.ntmps67
 go_wp2_with fail
 refine (HZ.out _).mono ?_
 rintro r1 w1 ⟨v1,rfl,hv1,hx1⟩
 obtain ⟨neg,a1,m1,c1,a2,m2,c2,rfl⟩:=hv1.shape
 have hx0:=(Ext.refl (fun _=>False) w).alloc (.cells #[.bool false,.slice none 0 0,.slice none 0 0] 42)
 have hr0:=(boxR_new (W:=w) rfl false none 0 0 none 0 0).ext hx1 id
 go_upto_region 2 with fail
 have HS:Hid (SumSt (w1.alloc (.cells #[.bool neg,.slice a1 m1 c1,.slice a2 m2 c2] 42)) w w.heap.size w1.heap.size n 0 (sumTo 0 fun j=>(f j:Rat)*g j)) :=
  bH ⟨neg,a1,m1,c1,a2,m2,c2,boxR_new rfl _ _ _ _ _ _ _,hv1.keep ((Ext.refl _ _).alloc _),hr0.ext ((Ext.refl (fun _=>False) _).alloc _) id,(hx0.trans hx1).alloc _⟩
 have hrs:w.heap.size<w1.heap.size:=Nat.lt_of_lt_of_le (by simp) hx1.size
 clear hv1 hx1 hx0 hr0 HZ
 generalize w1.alloc (.cells #[.bool neg,.slice a1 m1 c1,.slice a2 m2 c2] 42)=w2 at *
 generalize w1.heap.size=sb at *
 go_wp2_with fail
 go_loopg [11] n (fun gg v11 wr=>∃ i:Nat,i<=n/\gg=n - i/\v11=.int .i64 i/\SumSt wr w w.heap.size sb n i (sumTo i fun j=>(f j:Rat)*g j))
 case atStart=>exact ⟨0,Nat.zero_le _,rfl,rfl,HS.out⟩
 case round =>
  obtain ⟨i,hi,rfl,rfl,hst⟩:=hrel
  by_cases hin:i<n
  ·have i0:(i:Int)<(n:Int):=by omega
   have HST:=bH hst
   have HC:=bH (H0.out wr (by obtain ⟨_,_,_,_,_,_,_,_,_,_,h⟩:=hst; exact h) i hin)
   have HFi:=bH (HF.out i hin)
   clear hst HS
   go_wp2_with fail
   refine HC.out.mono ?_
   rintro r3 w3 ⟨u3,rfl,hu3,hx3⟩
   obtain ⟨xn,xa,xm,xc,ya,ym,yc,rfl⟩:=hu3.shape
   clear HC
   go_upto_region 6 with fail
   have hx34:=(Ext.refl (fun _=>False) w3).alloc (.cells #[.bool xn,.slice xa xm xc,.slice ya ym yc] 42)
   have hbx:=boxR_new (W:=w3) rfl xn xa xm xc ya ym yc
   have hu4:=hu3.keep hx34
   have hst4:=HST.out.keep (hx3.trans hx34)
   have hxb:wr.heap.size<=w3.heap.size:=hx3.size
   obtain ⟨sn,s1,sm1,sc1,s2,sm2,sc2,hsb,hsq,hsr,hsx⟩:=hst4
   have hsxl:sb<wr.heap.size:=by
    obtain ⟨_,_,_,_,_,_,_,h,_⟩:=HST.out
    exact h.lt
   have HB:=bH (bI hsb (bI hbx (bI hsr hsx)))
   have HQ:=bH (bI hsq hu4)
   have hzero:f i=0∨g i=0->sumTo (i+1) (fun j=>(f j:Rat)*g j)=sumTo i (fun j=>(f j:Rat)*g j):=fun h=>by
    show sumTo i (fun j=>(f j:Rat)*g j)+(f i:Rat)*g i=_
    rcases h with h | h
    ·rw [h]; show _+(0:Rat)*g i=_; grind
    ·rw [h]; grind
   have HZ0:=bH hzero
   clear hzero hu3 hx3 hx34 hsb hsr hsx hsq hu4 HST hbx
   obtain ⟨xb,hxbe⟩:∃ xb,w3.heap.size=xb:=⟨_,rfl⟩
   rw [hxbe] at HB hxb ⊢
   generalize w3.alloc (.cells #[.bool xn,.slice xa xm xc,.slice ya ym yc] 42)=w4 at *
   clear hxbe
   obtain ⟨x0,x1,x2,_⟩:=HB.out.2.1.facts
   by_cases hk:f i=0
   ·have HK:=bH hk
    have hkb:(f i == 0)=true:=by simpa using hk
    go_wp2
    go_roundg (n - (i+1))
    case measure=>omega
    case rel=>exact ⟨i+1,by omega,rfl,by go_num,by rw [HZ0.out (.inl HK.out)]; exact ⟨_,_,_,_,_,_,_,HB.out.1,HQ.out.1,HB.out.2.2.1,HB.out.2.2.2⟩⟩
   ·have hk':(f i == 0)=false:=by simpa using hk
    have HG1:=bH (rsign_any w4 _ (g i) L HQ.out.2 (by omega))
    go_wp2_with fail
    refine HG1.out.mono ?_
    rintro r5 w5 ⟨rfl,hx5⟩
    have HB5:=bH (bI (HB.out.1.ext hx5 id) (bI (HB.out.2.1.ext hx5 id) (bI (HB.out.2.2.1.ext hx5 id) (HB.out.2.2.2.trans hx5))))
    have HQ5:=bH (bI (HQ.out.1.keep hx5) (HQ.out.2.keep hx5))
    clear hx5 HB HQ HG1 x0 x1 x2
    by_cases hg0:g i=0
    ·have hs0:(g i).num.sign=0:=(sign_zero _).2 hg0
     have HG0:=bH hg0
     rw [hs0]
     clear hs0 hg0
     go_wp2
     go_roundg (n - (i+1))
     case measure=>omega
     case rel=>exact ⟨i+1,by omega,rfl,by go_num,by rw [HZ0.out (.inr HG0.out)]; exact ⟨_,_,_,_,_,_,_,HB5.out.1,HQ5.out.1,HB5.out.2.2.1,HB5.out.2.2.2⟩⟩
    ·have hs0:¬ (g i).num.sign=0:=fun h=>hg0 ((sign_zero _).1 h)
     have hs1:((g i).num.sign == 0)=false:=by simpa using hs0
     have hs2:((g i).num.sign != 0)=true:=by simpa using hs0
     have hs3:decide ((g i).num.sign=0)=false:=by simpa using hs0
     have HG0:=bH hg0
     clear hg0
     generalize (g i).num.sign=sg0 at *
     have hsz:=sum_size HF.out HG.out i hi
     have hszk:=(Sz.int HFi.out)
     have hszx:=hszk.mul (HG.out i hin)
     have hle:1+i*(L+3)<=1+n*(L+3):=Nat.add_le_add_left (Nat.mul_le_mul_right _ hi) 1
     have HF1:=bH (fun W=>rfrom_any W (f i) HFi.out.1 HFi.out.2)
     have HM1:=bH (fun W (hW:XF w5 W) u (hu:IsRat W u ((f i:Int):Rat))=>rmul_any W u _ _ (g i) (L+2) (hu.reads (hszk.mono (by omega))) ((HQ5.out.2.keep hW).mono (by omega)) (by omega) (by omega))
     have HA1:=bH (fun W (hW:XF w5 W) u (hu:IsRat W u ((f i:Rat)*g i))=>radd_any W _ u (sumTo i fun j=>(f j:Rat)*g j) _ (1+n*(L+3)+(L+3)) ((HQ5.out.1.keep hW).reads (hsz.mono (by omega))) (hu.reads (hszx.mono (by omega))) (by omega) (by omega))
     rw [show sumTo i (fun j=>(f j:Rat)*g j)+(f i:Rat)*g i=sumTo (i+1) fun j=>(f j:Rat)*g j from rfl] at HA1
     clear hsz hszk hszx hle HZ0
     have hS:=SR2.of HB5.out.1 HB5.out.2.1
     have hsxb:sb<xb:=by omega
     have hne:w.heap.size≠sb:=by omega
     obtain ⟨k',hk'⟩:∃ k',f i=k':=⟨_,rfl⟩
     rw [hk'] at HF1 HM1 HA1 ⊢
     go_upto_region 7 with fail
     obtain ⟨z0,z1,z2,z3,z4,z5⟩:=hS
     go_region_law (first
      | (go_simp; go_at_call 57; (with_reducible refine (HF1.out _).mono ?_); rintro q1 w11 ⟨v11,rfl,h11,hx11⟩; have hX1:=(Ext.refl (fun _=>False) w5).drew.trans hx11; obtain ⟨y0,y1,y2,y3,y4,y5⟩:=SR2.of (HB5.out.1.ext hX1 id) (HB5.out.2.1.ext hX1 id); have hM:=HM1.out w11 hX1 _ h11; obtain ⟨pn,pa,pm,pc,qa,qm,qc,rfl⟩:=h11.shape)
      | (go_simp; go_at_call 75; (with_reducible refine hM.mono ?_); rintro q2 w12 ⟨v12,rfl,h12,hx12⟩; have hX2:=hX1.trans hx12; obtain ⟨u0,u1,u2,u3,u4,u5⟩:=SR2.of (HB5.out.1.ext hX2 id) (HB5.out.2.1.ext hX2 id); have hA:=HA1.out w12 hX2 _ h12; obtain ⟨pn2,pa2,pm2,pc2,qa2,qm2,qc2,rfl⟩:=h12.shape)
      | (go_simp; go_at_call 74; (with_reducible refine hA.mono ?_); rintro q3 w13 ⟨v13,rfl,h13,hx13⟩; have hX3:=hX2.trans hx13; have hr3:=HB5.out.1.ext hX3 id; obtain ⟨d0,d1,d2,d3,d4,d5⟩:=hr3.facts; obtain ⟨ng,sa,sn1,sc,ta,tn,tc,rfl⟩:=h13.shape))
     all_goals
      have hp:=hr3.put (neg:=ng) (no_int sa sn1 sc) (no_int ta tn tc)
      have HR:Hid (SumSt _ w w.heap.size sb n (i+1) _):=bH ⟨_,_,_,_,_,_,_,hp.box,hp.rat h13,(HB5.out.2.2.1.ext hX3 id).ext hp.ext (fun e=>hne e),(HB5.out.2.2.2.trans hX3).own hp.ext (fun k e=>by omega)⟩
      clear hp hr3 h11 h12 h13 hx11 hx12 hx13 hX1 hX2 hX3 hM hA y0 y1 y2 y3 y4 y5 u0 u1 u2 u3 u4 u5 d0 d1 d2 d3 d4 d5 z0 z1 z2 z3 z4 z5
      go_wp2
      go_roundg (n - (i+1))
      case measure=>omega
      case rel=>exact ⟨i+1,by omega,rfl,by go_num,HR.out⟩
  ·obtain rfl:i=n:=by omega
   obtain ⟨sn,s1,sm1,sc1,s2,sm2,sc2,hsb,hsq,hsr,hsx⟩:=hst
   obtain ⟨e0,e1,e2,_⟩:=hsb.facts
   obtain ⟨d0,d1,d2,d3,d4,d5⟩:=hsr.facts
   have hp:=hsr.put (neg:=sn) (no_int s1 sm1 sc1) (no_int s2 sm2 sc2)
   have HR:=bH (bI (hp.rat hsq) (bI (hsx.own hp.ext (fun k e=>by omega)) hp.box))
   clear hp hsb hsq hsr hsx HS
   go_wp2
   generalize ((wr.setCell ⟨w.heap.size,0,none⟩ (.bool sn)).setCell ⟨w.heap.size,1,none⟩ (.slice s1 sm1 sc1)).setCell ⟨w.heap.size,2,none⟩ (.slice s2 sm2 sc2)=w9 at *
   obtain ⟨g0,g1,g2,_⟩:=HR.out.2.2.facts
   exact bodyPost_ret (v:=.agg #[.bool sn,.slice s1 sm1 sc1,.slice s2 sm2 sc2]) (by simp [results,Tryz.results67,go_sem,g0,g1,g2]) rfl ⟨_,rfl,HR.out.1,HR.out.2.1⟩
theorem blk_keep {w w':World} {b:Nat} {o:Obj} (h:blk w b=some o) (hx:XF w w'):blk w' b=some o:=(hx.blk (blk_lt h) id).trans h
theorem cellq {w:World} {b:Nat} {c:Array Value} {t:TypeId} {f:Nat × Nat} (h:blk w b=some (.cells c t f)) (i:Nat) {x:Value} (hx:c[i]?=some x):w.cell? ⟨b,i,none⟩=some x:=(cell_of_cells h i).trans hx
theorem cell_keep {w w':World} {b i:Nat} {x:Value} (h:w.cell? ⟨b,i,none⟩=some x) (hx:XF w w'):w'.cell? ⟨b,i,none⟩=some x :=
 (hx.cell (p:=⟨b,i,none⟩) (World.block_lt_of_cell? w _ h) id).trans h
theorem term_put {w w1:World} {r:Nat} {neg n0:Bool} {a1 a2:Option Addr} {m1 c1 m2 c2:Nat} {k:Int} {q:Rat} {L:Nat} {x0 y0:Value} (hb:BoxR w1 r n0 x0 y0) (hr:w.heap.size<=r) (hx:XF w w1)
  (h:Rrat w1 (.agg #[.bool neg,.slice a1 m1 c1,.slice a2 m2 c2]) q L) :
  BoxR (((w1.setCell ⟨r,0,none⟩ (.bool neg)).setCell ⟨r,1,none⟩ (.slice a1 m1 c1)).setCell ⟨r,2,none⟩ (.slice a2 m2 c2)) r neg (.slice a1 m1 c1) (.slice a2 m2 c2) /\
   TermPost w k q L (.returned (.tuple #[.int .i64 k,.agg #[.bool neg,.slice a1 m1 c1,.slice a2 m2 c2]])) (((w1.setCell ⟨r,0,none⟩ (.bool neg)).setCell ⟨r,1,none⟩ (.slice a1 m1 c1)).setCell ⟨r,2,none⟩ (.slice a2 m2 c2)) :=
 have hp:=hb.put (neg:=neg) (no_int a1 m1 c1) (no_int a2 m2 c2)
 ⟨hp.box,_,rfl,hp.rrat h,hx.own hp.ext (fun k e=>by omega)⟩
abbrev S3 (b0 b1 b2 o0 o1 o2:Nat) (x0 x1 x2:Value) (W:World):Prop:=W.cell? ⟨b0,o0,none⟩=some x0/\W.cell? ⟨b1,o1,none⟩=some x1/\W.cell? ⟨b2,o2,none⟩=some x2
section
variable {b0 b1 b2 o0 o1 o2:Nat} {x0 x1 x2:Value} {W:World}
theorem S3.drew (h:S3 b0 b1 b2 o0 o1 o2 x0 x1 x2 W):S3 b0 b1 b2 o0 o1 o2 x0 x1 x2 W.drew:=h
theorem S3.keep {W':World} (h:S3 b0 b1 b2 o0 o1 o2 x0 x1 x2 W) (hx:XF W W'):S3 b0 b1 b2 o0 o1 o2 x0 x1 x2 W':=⟨cell_keep h.1 hx,cell_keep h.2.1 hx,cell_keep h.2.2 hx⟩
theorem S3.set (h:S3 b0 b1 b2 o0 o1 o2 x0 x1 x2 W) (p:Addr) (u:Value) (k0:¬ b0=p.block) (k1:¬ b1=p.block) (k2:¬ b2=p.block):S3 b0 b1 b2 o0 o1 o2 x0 x1 x2 (W.setCell p u):=⟨cell_other h.1 k0,cell_other h.2.1 k1,cell_other h.2.2 k2⟩
end
abbrev S4 (b0 b1 b2 b3 o0 o1 o2 o3:Nat) (x0 x1 x2 x3:Value) (W:World):Prop:=W.cell? ⟨b0,o0,none⟩=some x0/\W.cell? ⟨b1,o1,none⟩=some x1/\W.cell? ⟨b2,o2,none⟩=some x2/\W.cell? ⟨b3,o3,none⟩=some x3
section
variable {b0 b1 b2 b3 o0 o1 o2 o3:Nat} {x0 x1 x2 x3:Value} {W:World}
theorem S4.drew (h:S4 b0 b1 b2 b3 o0 o1 o2 o3 x0 x1 x2 x3 W):S4 b0 b1 b2 b3 o0 o1 o2 o3 x0 x1 x2 x3 W.drew:=h
theorem S4.keep {W':World} (h:S4 b0 b1 b2 b3 o0 o1 o2 o3 x0 x1 x2 x3 W) (hx:XF W W'):S4 b0 b1 b2 b3 o0 o1 o2 o3 x0 x1 x2 x3 W':=⟨cell_keep h.1 hx,cell_keep h.2.1 hx,cell_keep h.2.2.1 hx,cell_keep h.2.2.2 hx⟩
theorem S4.set (h:S4 b0 b1 b2 b3 o0 o1 o2 o3 x0 x1 x2 x3 W) (p:Addr) (u:Value) (k0:¬ b0=p.block) (k1:¬ b1=p.block) (k2:¬ b2=p.block) (k3:¬ b3=p.block):S4 b0 b1 b2 b3 o0 o1 o2 o3 x0 x1 x2 x3 (W.setCell p u):=⟨cell_other h.1 k0,cell_other h.2.1 k1,cell_other h.2.2.1 k2,cell_other h.2.2.2 k3⟩
end
theorem cost1_any (w:World) (pb xb:Nat) (vv rv xv:Value) (p:ProgV) (l:List Rat) (L:Nat) (hp:blk w pb=some (.cells #[vv,rv] 25 (0,0))) (hxb:blk w xb=some (.cells #[xv] 32 (0,0))) (hv:Vrs w vv p.vars) (hl:Rats w xv l L) (i:Nat) (hi:i<p.vars.length) :
  Calls Tryz.prog 68 #[.int .i64 i,.pointer (some ⟨pb,0,none⟩),.pointer (some ⟨xb,0,none⟩)] w (TermPost w (p.v i).co (atQ l i) L):=by
 obtain ⟨vo,vc,rfl,-,hn,-⟩:=hv.shape
 obtain ⟨xo,xc,rfl,-,hxn,-⟩:=hl.shape
 have HA:=bH (fun W (hW:XF w W)=>lat_any W _ l L (hl.keep hW) i)
 obtain ⟨b,off,rfl,hlt,-,-,-,-,e4,-⟩:=hv.atp i hi
 have hx:=(Ext.refl (fun _=>False) w).alloc (.cells #[.bool false,.slice none 0 0,.slice none 0 0] 42)
 have hS:S3 pb xb b 0 0 (off+i*5+4) (.slice (some ⟨b,off,none⟩) p.vars.length vc) (.slice xo l.length xc) (.int .i64 (p.v i).co) (w.alloc (.cells #[.bool false,.slice none 0 0,.slice none 0 0] 42)):=S3.keep ⟨cellq hp 0 rfl,cellq hxb 0 rfl,e4⟩ hx
 have hb:=boxR_new (W:=w) rfl false none 0 0 none 0 0
 have HB:=bH (bI hb hx)
 have n0:=blk_lt hp
 have n1:=blk_lt hxb
 have j0:(0:Int)<=(i:Int):=by omega
 have j1:(i:Int)<(p.vars.length:Int):=by omega
 clear hv hl hp hxb e4 hi
 go_enter Tryz.func68,Tryz.ntmps68
 go_upto_region 1 with fail
 clear hb hx
 obtain ⟨r,hr⟩:∃ r,w.heap.size=r:=⟨_,rfl⟩
 rw [hr] at HB n0 n1 hlt ⊢
 generalize w.alloc (.cells #[.bool false,.slice none 0 0,.slice none 0 0] 42)=w1 at *
 generalize p.vars.length=n at *
 generalize l.length=xn at *
 generalize (p.v i).co=k at *
 go_region_held3 (S3 pb xb b 0 0 (off+i*5+4) (.slice (some ⟨b,off,none⟩) n vc) (.slice xo xn xc) (.int .i64 k))
  (repeat (first | (with_reducible assumption) | (with_reducible refine S3.drew ?_) | (with_reducible refine S3.set ?_ _ _ ?_ ?_ ?_) | (dsimp only; omega)))
  ((go_at_call 55; (with_reducible refine (HA.out _ HB.out.2.drew).mono ?_); rintro q1 w11 ⟨v11,rfl,h11,hx11⟩; have hX1:=(Ext.refl (fun _=>False) w1).drew.trans hx11; have hK1:=hS.keep hX1; have hr3:=HB.out.1.ext hX1 id; obtain ⟨d0,d1,d2,d3,d4,d5⟩:=hr3.facts; obtain ⟨ng,sa,sn,sc,ta,tn,tc,rfl⟩:=h11.shape))
 obtain ⟨hp,ha⟩:=term_put (w:=w) (k:=k) hr3 (Nat.le_of_eq hr) (HB.out.2.trans hX1) h11
 have HP:=bH (bI hp ha)
 clear hp ha h11 hx11 hX1 hK1 hr3 d0 d1 d2 d3 d4 d5 hS HB
 go_wp2
 generalize ((w11.setCell ⟨r,0,none⟩ (.bool ng)).setCell ⟨r,1,none⟩ (.slice sa sn sc)).setCell ⟨r,2,none⟩ (.slice ta tn tc)=w9 at *
 obtain ⟨g0,g1,g2,_⟩:=HP.out.1.facts
 exact bodyPost_ret (v:=.tuple #[.int .i64 k,.agg #[.bool ng,.slice sa sn sc,.slice ta tn tc]]) (by simp [results,Tryz.results68,go_sem,g0,g1,g2]) rfl HP.out.2
theorem dot1_any (w:World) (tb xb:Nat) (tv xv:Value) (ts:List TermV) (l:List Rat) (L:Nat) (hp:blk w tb=some (.cells #[tv] 73 (0,0))) (hxb:blk w xb=some (.cells #[xv] 32 (0,0))) (hv:Tms w tv ts) (hl:Rats w xv l L) (i:Nat) (hi:i<ts.length) :
  Calls Tryz.prog 83 #[.int .i64 i,.pointer (some ⟨tb,0,none⟩),.pointer (some ⟨xb,0,none⟩)] w (TermPost w (ts.getD i term0).coef (atQ l (ts.getD i term0).var) L):=by
 obtain ⟨vo,vc,rfl,-,hn,-⟩:=hv.shape
 obtain ⟨xo,xc,rfl,-,hxn,-⟩:=hl.shape
 have HA:=bH (fun W (hW:XF w W)=>lat_any W _ l L (hl.keep hW) (ts.getD i term0).var)
 obtain ⟨b,off,rfl,hlt,e0,e1,-⟩:=hv.at i hi
 have hx:=(Ext.refl (fun _=>False) w).alloc (.cells #[.bool false,.slice none 0 0,.slice none 0 0] 42)
 have hS:S4 tb xb b b 0 0 (off+i*2) (off+i*2+1) (.slice (some ⟨b,off,none⟩) ts.length vc) (.slice xo l.length xc) (.int .i64 (ts.getD i term0).var) (.int .i64 (ts.getD i term0).coef) (w.alloc (.cells #[.bool false,.slice none 0 0,.slice none 0 0] 42)):=S4.keep ⟨cellq hp 0 rfl,cellq hxb 0 rfl,e0,e1⟩ hx
 have hb:=boxR_new (W:=w) rfl false none 0 0 none 0 0
 have HB:=bH (bI hb hx)
 have n0:=blk_lt hp
 have n1:=blk_lt hxb
 have j0:(0:Int)<=(i:Int):=by omega
 have j1:(i:Int)<(ts.length:Int):=by omega
 clear hv hl hp hxb e0 e1 hi
 go_enter Tryz.func83,Tryz.ntmps83
 go_upto_region 1 with fail
 clear hb hx
 obtain ⟨r,hr⟩:∃ r,w.heap.size=r:=⟨_,rfl⟩
 rw [hr] at HB n0 n1 hlt ⊢
 generalize w.alloc (.cells #[.bool false,.slice none 0 0,.slice none 0 0] 42)=w1 at *
 generalize ts.getD i term0=t at *
 generalize ts.length=n at *
 generalize l.length=xn at *
 obtain ⟨tvar,k⟩:=t
 go_region_held3 (S4 tb xb b b 0 0 (off+i*2) (off+i*2+1) (.slice (some ⟨b,off,none⟩) n vc) (.slice xo xn xc) (.int .i64 tvar) (.int .i64 k))
  (repeat (first | (with_reducible assumption) | (with_reducible refine S4.drew ?_) | (with_reducible refine S4.set ?_ _ _ ?_ ?_ ?_ ?_) | (dsimp only; omega)))
  ((go_at_call 55; (with_reducible refine (HA.out _ HB.out.2.drew).mono ?_); rintro q1 w11 ⟨v11,rfl,h11,hx11⟩; have hX1:=(Ext.refl (fun _=>False) w1).drew.trans hx11; have hK1:=hS.keep hX1; have hr3:=HB.out.1.ext hX1 id; obtain ⟨d0,d1,d2,d3,d4,d5⟩:=hr3.facts; obtain ⟨ng,sa,sn,sc,ta,tn,tc,rfl⟩:=h11.shape))
 obtain ⟨hp,ha⟩:=term_put (w:=w) (k:=k) hr3 (Nat.le_of_eq hr) (HB.out.2.trans hX1) h11
 have HP:=bH (bI hp ha)
 clear hp ha h11 hx11 hX1 hK1 hr3 d0 d1 d2 d3 d4 d5 hS HB
 go_wp2
 generalize ((w11.setCell ⟨r,0,none⟩ (.bool ng)).setCell ⟨r,1,none⟩ (.slice sa sn sc)).setCell ⟨r,2,none⟩ (.slice ta tn tc)=w9 at *
 obtain ⟨g0,g1,g2,_⟩:=HP.out.1.facts
 exact bodyPost_ret (v:=.tuple #[.int .i64 k,.agg #[.bool ng,.slice sa sn sc,.slice ta tn tc]]) (by simp [results,Tryz.results83,go_sem,g0,g1,g2]) rfl HP.out.2
theorem Vrs.ok {p:ProgV} {w:World} {v:Value} (h:Vrs w v p.vars) (i:Nat) (hi:i<p.vars.length):VarOk (p.v i):=by
 obtain ⟨ao,c,rfl,_⟩:=h.shape
 obtain ⟨_,_,_,_,_,_,_,_,_,h⟩:=h.atp i hi
 exact h
theorem Rws.ok {p:ProgV} {w:World} {v:Value} (h:Rws w v p.rows) (i:Nat) (hi:i<p.rows.length):RowOk (p.r i):=by
 obtain ⟨ao,c,rfl,_⟩:=h.shape
 obtain ⟨_,_,_,_,_,_,_,_,_,_,_,h,_⟩:=h.atp i hi
 exact h
theorem Tms.ok {ts:List TermV} {w:World} {v:Value} (h:Tms w v ts) (i:Nat) (hi:i<ts.length):TermOk (ts.getD i term0):=by
 obtain ⟨ao,c,rfl,_⟩:=h.shape
 obtain ⟨_,_,_,_,_,_,h⟩:=h.at i hi
 exact h
theorem Rats.sz {l:List Rat} {w:World} {v:Value} {L:Nat} (h:Rats w v l L) (h1:1<=L) (i:Int):Sz (atQ l i) L:=by
 by_cases h0:i<0
 ·rw [atQ_neg l h0]; exact Sz.zero.mono h1
 by_cases h2:(l.length:Int)<=i
 ·rw [atQ_out l h2]; exact Sz.zero.mono h1
 obtain ⟨j,rfl⟩:∃ j:Nat,i=j:=⟨i.toNat,by omega⟩
 obtain ⟨ao,c,rfl,_⟩:=h.shape
 obtain ⟨_,_,_,_,_,_,_,_,_,_,_,_,_,_,h⟩:=h.at j (by omega)
 exact h.sz h1
theorem box3 (w:World) (oa ob oc:Obj):blk (((w.alloc oa).alloc ob).alloc oc) w.heap.size=some oa/\blk (((w.alloc oa).alloc ob).alloc oc) (w.heap.size+1)=some ob/\blk (((w.alloc oa).alloc ob).alloc oc) (w.heap.size+1+1)=some oc/\XF w (((w.alloc oa).alloc ob).alloc oc):=by
 refine ⟨?_,?_,?_,(((Ext.refl _ w).alloc _).alloc _).alloc _⟩
 ·rw [blk_alloc_past _ _ _ (by simp; omega),blk_alloc_past _ _ _ (by simp),blk_alloc_at]
 ·rw [blk_alloc_past _ _ _ (by simp)]
  have:=blk_alloc_at (w.alloc oa) ob
  rwa [World.size_alloc] at this
 ·have:=blk_alloc_at ((w.alloc oa).alloc ob) oc
  rwa [World.size_alloc,World.size_alloc] at this
theorem boxR_of {W:World} {k:Nat} {neg:Bool} {ao ao':Option Addr} {n c n' c':Nat} (h:blk W k=some (.cells #[.bool neg,.slice ao n c,.slice ao' n' c'] 42 (0,0))):BoxR W k neg (.slice ao n c) (.slice ao' n' c'):=⟨h,no_int ao n c,no_int ao' n' c'⟩
theorem rat_put {w w1:World} {r:Nat} {neg n0:Bool} {a1 a2:Option Addr} {m1 c1 m2 c2:Nat} {q:Rat} {x0 y0:Value} (hb:BoxR w1 r n0 x0 y0) (hr:w.heap.size<=r) (hx:XF w w1)
  (h:IsRat w1 (.agg #[.bool neg,.slice a1 m1 c1,.slice a2 m2 c2]) q) :
  BoxR (((w1.setCell ⟨r,0,none⟩ (.bool neg)).setCell ⟨r,1,none⟩ (.slice a1 m1 c1)).setCell ⟨r,2,none⟩ (.slice a2 m2 c2)) r neg (.slice a1 m1 c1) (.slice a2 m2 c2) /\
   RatPost w q (.returned (.agg #[.bool neg,.slice a1 m1 c1,.slice a2 m2 c2])) (((w1.setCell ⟨r,0,none⟩ (.bool neg)).setCell ⟨r,1,none⟩ (.slice a1 m1 c1)).setCell ⟨r,2,none⟩ (.slice a2 m2 c2)) :=
 have hp:=hb.put (neg:=neg) (no_int a1 m1 c1) (no_int a2 m2 c2)
 ⟨hp.box,_,rfl,hp.rat h,hx.own hp.ext (fun k e=>by omega)⟩
theorem Cost_any (w:World) (pv xv:Value) (p:ProgV) (l:List Rat) (L:Nat) (hp:IsPrg w pv p) (hl:Rats w xv l L) (h1:1<=L) (hL:1+p.vars.length*(L+3)+(L+3)<=4000000) :
  Calls Tryz.prog 26 #[pv,xv] w (RatPost w (costQ p l)):=by
 obtain ⟨vv,rv,rfl,hv,hr⟩:=hp
 obtain ⟨vo,vc,rfl,-,hn,-⟩:=hv.shape
 obtain ⟨xo,xc,rfl,-,hxn,-⟩:=hl.shape
 obtain ⟨b0,b1,b2,hx⟩:=box3 w (.cells #[.slice vo p.vars.length vc,rv] 25) (.cells #[.slice xo l.length xc] 32) (.cells #[.bool false,.slice none 0 0,.slice none 0 0] 42)
 have hs:=lsum_any (((w.alloc (.cells #[.slice vo p.vars.length vc,rv] 25)).alloc (.cells #[.slice xo l.length xc] 32)).alloc (.cells #[.bool false,.slice none 0 0,.slice none 0 0] 42)) p.vars.length 68 #[.pointer (some ⟨w.heap.size,0,none⟩),.pointer (some ⟨w.heap.size+1,0,none⟩)] (fun i=>(p.v i).co) (fun i=>atQ l i) L h1 hL
  (fun i hi=>(hv.ok i hi).co) (fun i _=>hl.sz h1 i) (enters_of Tryz.func68 (by kernel_rfl) rfl)
  (fun W hW i hi=>cost1_any W w.heap.size (w.heap.size+1) _ rv _ p l L (blk_keep b0 hW) (blk_keep b1 hW) (hv.keep (hx.trans hW)) (hl.keep (hx.trans hW)) i hi)
 have HS:=bH hs
 have HB:=bH (bI (boxR_of b2) hx)
 clear hv hr hl hs b0 b1 b2 hx
 generalize l.length=xn at *
 go_enter Tryz.func26,Tryz.ntmps26
 go_wp2_with fail
 refine HS.out.mono ?_
 rintro r1 w2 ⟨v2,rfl,h2,hx2⟩
 obtain ⟨ng,sa,sn,sc,ta,tn,tc,rfl⟩:=h2.shape
 have hr3:=HB.out.1.ext hx2 id
 obtain ⟨d0,d1,d2,d3,d4,d5⟩:=hr3.facts
 have HP:=bH (rat_put (w:=w) hr3 (by omega) (HB.out.2.trans hx2) h2)
 clear h2 hr3 hx2
 go_wp2
 generalize ((w2.setCell ⟨w.heap.size+1+1,0,none⟩ (.bool ng)).setCell ⟨w.heap.size+1+1,1,none⟩ (.slice sa sn sc)).setCell ⟨w.heap.size+1+1,2,none⟩ (.slice ta tn tc)=w9 at *
 obtain ⟨g0,g1,g2,_⟩:=HP.out.1.facts
 exact bodyPost_ret (v:=.agg #[.bool ng,.slice sa sn sc,.slice ta tn tc]) (by simp [results,Tryz.results26,go_sem,g0,g1,g2]) rfl HP.out.2
theorem Dot_any (w:World) (tv xv:Value) (ts:List TermV) (l:List Rat) (L:Nat) (hv:Tms w tv ts) (hl:Rats w xv l L) (h1:1<=L) (hL:1+ts.length*(L+3)+(L+3)<=4000000) :
  Calls Tryz.prog 42 #[tv,xv] w (RatPost w (dotQ ts l)):=by
 obtain ⟨vo,vc,rfl,-,hn,-⟩:=hv.shape
 obtain ⟨xo,xc,rfl,-,hxn,-⟩:=hl.shape
 obtain ⟨b0,b1,b2,hx⟩:=box3 w (.cells #[.slice vo ts.length vc] 73) (.cells #[.slice xo l.length xc] 32) (.cells #[.bool false,.slice none 0 0,.slice none 0 0] 42)
 have hs:=lsum_any (((w.alloc (.cells #[.slice vo ts.length vc] 73)).alloc (.cells #[.slice xo l.length xc] 32)).alloc (.cells #[.bool false,.slice none 0 0,.slice none 0 0] 42)) ts.length 83 #[.pointer (some ⟨w.heap.size,0,none⟩),.pointer (some ⟨w.heap.size+1,0,none⟩)] (fun i=>(ts.getD i term0).coef) (fun i=>atQ l (ts.getD i term0).var) L h1 hL
  (fun i hi=>(hv.ok i hi).coef) (fun i _=>hl.sz h1 _) (enters_of Tryz.func83 (by kernel_rfl) rfl)
  (fun W hW i hi=>dot1_any W w.heap.size (w.heap.size+1) _ _ ts l L (blk_keep b0 hW) (blk_keep b1 hW) (hv.keep (hx.trans hW)) (hl.keep (hx.trans hW)) i hi)
 have HS:=bH hs
 have HB:=bH (bI (boxR_of b2) hx)
 clear hv hl hs b0 b1 b2 hx
 obtain ⟨q,hq⟩:∃ q,dotQ ts l=q:=⟨_,rfl⟩
 unfold dotQ at hq
 rw [hq] at HS
 unfold dotQ
 rw [hq]
 clear hq
 generalize l.length=xn at *
 generalize ts.length=n at *
 go_enter Tryz.func42,Tryz.ntmps42
 go_wp2_with fail
 refine HS.out.mono ?_
 rintro r1 w2 ⟨v2,rfl,h2,hx2⟩
 obtain ⟨ng,sa,sn,sc,ta,tn,tc,rfl⟩:=h2.shape
 have hr3:=HB.out.1.ext hx2 id
 obtain ⟨d0,d1,d2,d3,d4,d5⟩:=hr3.facts
 have HP:=bH (rat_put (w:=w) hr3 (by omega) (HB.out.2.trans hx2) h2)
 clear h2 hr3 hx2
 go_wp2
 generalize ((w2.setCell ⟨w.heap.size+1+1,0,none⟩ (.bool ng)).setCell ⟨w.heap.size+1+1,1,none⟩ (.slice sa sn sc)).setCell ⟨w.heap.size+1+1,2,none⟩ (.slice ta tn tc)=w9 at *
 obtain ⟨g0,g1,g2,_⟩:=HP.out.1.facts
 exact bodyPost_ret (v:=.agg #[.bool ng,.slice sa sn sc,.slice ta tn tc]) (by simp [results,Tryz.results42,go_sem,g0,g1,g2]) rfl HP.out.2
def BoolPost (w:World) (b:Bool) (r:Ending) (w':World):Prop:=r=.returned (.bool b)/\XF w w'
theorem rnum_neg (q:Rat):q.num<0↔q<0:=by
 have:=@Rat.num_nonneg q
 constructor
 ·intro h; exact Rat.not_le.1 (fun h2=>by have:=this.2 h2; omega)
 ·intro h; exact Int.not_le.1 (fun h2=>by have:=this.1 h2; grind)
theorem sign_lt (q:Rat):q.num.sign<0↔q<0:=by
 rw [Int.sign_neg_iff]
 exact rnum_neg q
theorem sign_gt (q:Rat):0<q.num.sign↔0<q:=by
 rw [Int.sign_pos_iff]
 have h:=rnum_neg (-q)
 rw [Rat.neg_num] at h
 constructor
 ·intro h1; have:=h.1 (by omega); grind
 ·intro h1; have:=h.2 (by grind); omega
theorem allTo_next {f:Nat->Bool} {i:Nat} (h:allTo i f=true) (hf:f i=true):allTo (i+1) f=true:=by
 show (allTo i f && f i)=true
 rw [h,hf]; rfl
abbrev S2 (b0 b1 o0 o1:Nat) (x0 x1:Value) (W:World):Prop:=W.cell? ⟨b0,o0,none⟩=some x0/\W.cell? ⟨b1,o1,none⟩=some x1
section
variable {b0 b1 o0 o1:Nat} {x0 x1:Value} {W:World}
theorem S2.drew (h:S2 b0 b1 o0 o1 x0 x1 W):S2 b0 b1 o0 o1 x0 x1 W.drew:=h
theorem S2.keep {W':World} (h:S2 b0 b1 o0 o1 x0 x1 W) (hx:XF W W'):S2 b0 b1 o0 o1 x0 x1 W':=⟨cell_keep h.1 hx,cell_keep h.2 hx⟩
end
section
variable {b0 b1 b2 b3 b4 o0 o1 o2 o3 o4:Nat} {x0 x1 x2 x3 x4:Value} {W:World}
end
abbrev S6 (b0 b1 b2 b3 b4 b5 o0 o1 o2 o3 o4 o5:Nat) (x0 x1 x2 x3 x4 x5:Value) (W:World):Prop:=W.cell? ⟨b0,o0,none⟩=some x0/\W.cell? ⟨b1,o1,none⟩=some x1/\W.cell? ⟨b2,o2,none⟩=some x2/\W.cell? ⟨b3,o3,none⟩=some x3/\W.cell? ⟨b4,o4,none⟩=some x4/\W.cell? ⟨b5,o5,none⟩=some x5
section
variable {b0 b1 b2 b3 b4 b5 o0 o1 o2 o3 o4 o5:Nat} {x0 x1 x2 x3 x4 x5:Value} {W:World}
theorem S6.drew (h:S6 b0 b1 b2 b3 b4 b5 o0 o1 o2 o3 o4 o5 x0 x1 x2 x3 x4 x5 W):S6 b0 b1 b2 b3 b4 b5 o0 o1 o2 o3 o4 o5 x0 x1 x2 x3 x4 x5 W.drew:=h
theorem S6.keep {W':World} (h:S6 b0 b1 b2 b3 b4 b5 o0 o1 o2 o3 o4 o5 x0 x1 x2 x3 x4 x5 W) (hx:XF W W'):S6 b0 b1 b2 b3 b4 b5 o0 o1 o2 o3 o4 o5 x0 x1 x2 x3 x4 x5 W':=⟨cell_keep h.1 hx,cell_keep h.2.1 hx,cell_keep h.2.2.1 hx,cell_keep h.2.2.2.1 hx,cell_keep h.2.2.2.2.1 hx,cell_keep h.2.2.2.2.2 hx⟩
end
section
variable {b0 b1 b2 b3 b4 b5 b6 o0 o1 o2 o3 o4 o5 o6:Nat} {x0 x1 x2 x3 x4 x5 x6:Value} {W:World}
end
section
variable {b0 b1 b2 b3 b4 b5 b6 b7 o0 o1 o2 o3 o4 o5 o6 o7:Nat} {x0 x1 x2 x3 x4 x5 x6 x7:Value} {W:World}
end
def BoxV (W:World) (b:Nat) (v:VarV):Prop:=blk W b=some (.cells (cV v).toArray 57 (0,0))
theorem BoxV.facts {W:World} {b:Nat} {v:VarV} (h:BoxV W b v):W.cell? ⟨b,0,none⟩=some (.int .i64 v.lo)/\W.cell? ⟨b,1,none⟩=some (.int .i64 v.up)/\W.cell? ⟨b,2,none⟩=some (.bool v.op)/\W.cell? ⟨b,3,none⟩=some (.bool v.ig)/\W.cell? ⟨b,4,none⟩=some (.int .i64 v.co):=⟨cellq h 0 rfl,cellq h 1 rfl,cellq h 2 rfl,cellq h 3 rfl,cellq h 4 rfl⟩
theorem BoxV.keep {W W':World} {b:Nat} {v:VarV} (h:BoxV W b v) (hx:XF W W'):BoxV W' b v:=blk_keep h hx
theorem BoxV.new (W:World) (v:VarV):BoxV (W.alloc (.cells #[.int .i64 v.lo,.int .i64 v.up,.bool v.op,.bool v.ig,.int .i64 v.co] 57)) W.heap.size v:=blk_alloc_at _ _
theorem BoxR.keep {W W':World} {b:Nat} {neg:Bool} {m d:Value} (h:BoxR W b neg m d) (hx:XF W W'):BoxR W' b neg m d:=h.ext hx id
section
variable {P:Program} {md:Region.Mode} {l:List Oper} {Q:Exit->Act->World->Prop} {S:World->Prop}
theorem held_take (i:Nat) {oi:Oper} {v:Value} {fuel:Nat} {listed:Array Bool} {a:Act} {w:World} (hi:l[i]?=some oi) (hs:Region.noSelect l.toArray=true) (hf:Region.free md l.toArray listed i=true)
  (hr:(Region.ready md l.toArray listed).contains i=true) (hQ:∀ c a w,Q (.panic c) (a.put oi.dst v) w->Q (.panic c) a w) (hw:Region.wanted oi (yielded l.toArray a.tmps)=true)
  (he:∀ w,S w->(execOp a.eval oi).run P w=.ok (.value v) w) (hS:S w) (h:wpAnyH P md l.toArray Q S fuel (listed.setIfInBounds i true) (a.put oi.dst v) w):wpAnyH P md l.toArray Q S (fuel+1) listed a w :=
 wpAnyH_take (by simpa using hi) hs hf hr hQ (.inl ⟨hw,he⟩) hS h
theorem held_skip (i:Nat) {oi:Oper} {fuel:Nat} {listed:Array Bool} {a:Act} {w:World} (hi:l[i]?=some oi) (hs:Region.noSelect l.toArray=true) (hf:Region.free md l.toArray listed i=true)
  (hr:(Region.ready md l.toArray listed).contains i=true) (hQ:∀ c a w,Q (.panic c) (a.put oi.dst undef) w->Q (.panic c) a w) (hw:Region.wanted oi (yielded l.toArray a.tmps)=false)
  (hS:S w) (h:wpAnyH P md l.toArray Q S fuel (listed.setIfInBounds i true) (a.put oi.dst undef) w):wpAnyH P md l.toArray Q S (fuel+1) listed a w :=
 wpAnyH_take (by simpa using hi) hs hf hr hQ (.inr ⟨hw,rfl⟩) hS h
theorem held_step (i:Nat) {oi:Oper} {fuel:Nat} {listed:Array Bool} {a:Act} {w:World} (hi:l[i]?=some oi) (hr:Region.ready md l.toArray listed=[i])
  (h:∀ K':Act->World->Prop,Shut (∀ a w,S w->(S w->wpAnyH P md l.toArray Q S fuel (listed.setIfInBounds i true) a w)->K' a w)->if Region.wanted oi (yielded l.toArray a.tmps)=true then Oper.wp P oi a w K' Q else K' (a.put oi.dst undef) w) :
  wpAnyH P md l.toArray Q S (fuel+1) listed a w :=
 wpAnyH_ready hr (by simp) (AllReadyH.cons (by simpa using hi) h AllReadyH.nil)
end
section
variable {P:Program} {md:Region.Mode} {ops:Array Oper} {Q:Exit->Act->World->Prop} {S:World->Prop} {k:Nat}
theorem unlisted {i j:Nat} {oj:Oper} {ls:Array Bool} (hr:i ∈ Region.ready md ops ls) (hoj:ops[j]?=some oj) (hj:j ∈ Region.ready md ops ls) (e:Edge) (he:e ∈ oj.after) (hb:Region.binds md e=true):e.on≠i:=fun h=>by
 obtain ⟨_,o,ho,hall⟩:=mem_ready.1 hj
 rw [hoj] at ho; cases ho
 have h1:=hall e he hb
 have h0:=(mem_ready.1 hr).1
 rw [h,Array.getD_eq_getD_getElem?] at h1
 rw [Array.getD_eq_getD_getElem?] at h0
 cases hq:ls[i]? with
 | none=>rw [hq] at h1; simp at h1
 | some x=>rw [hq] at h0 h1; simp at h0 h1; rw [h0] at h1; cases h1
def Apart (md:Region.Mode) (ops:Array Oper) (i:Nat) (oi:Oper) (ls:Array Bool):Prop:=∀ j oj,ops[j]?=some oj->j≠i->ls.getD j true=false->(∀ e ∈ oj.after,Region.binds md e=true->e.on≠i)->oi.apart ops oj=true
theorem Apart.next {i j:Nat} {oi:Oper} {ls:Array Bool} (h:Apart md ops i oi ls) (hj:ls.getD j true=false):Apart md ops i oi (ls.setIfInBounds j true):=fun k ok hk hki hun hno=>by
 refine h k ok hk hki ?_ hno
 by_cases e:j=k
 ·rw [<- e]; exact hj
 ·rw [getD_set_ne true e] at hun; exact hun
end
section
variable {P:Program} {md:Region.Mode} {l:List Oper} {Q:Exit->Act->World->Prop} {S:World->Prop} {k:Nat}
end
section
variable {P:Program} {md:Region.Mode} {l:List Oper} {Q:Exit->Act->World->Prop} {S:World->Prop} {k:Nat}
theorem ht (i:Nat) {oi:Oper} {v:Value} {fuel:Nat} {listed:Array Bool} {a:Act} {w:World} (hi:l[i]?=some oi:=by rfl) (hs:Region.noSelect l.toArray=true:=by kernel_rfl) (hf:Region.free md l.toArray listed i=true:=by kernel_rfl)
  (hr:(Region.ready md l.toArray listed).contains i=true:=by kernel_rfl) (hQ:∀ c a w,Q (.panic c) (a.put oi.dst v) w->Q (.panic c) a w:=by exact fun _ _ _ h=>h) (hw:Region.wanted oi (yielded l.toArray a.tmps)=true:=by rfl)
  (he:∀ w,S w->(execOp a.eval oi).run P w=.ok (.value v) w:=by (intro w hSw; (try go_frame); (try dsimp only at hSw); go_simp) <;> with_reducible rfl) (hS:S w:=by assumption) (h:wpAnyH P md l.toArray Q S fuel (listed.setIfInBounds i true) (a.put oi.dst v) w):wpAnyH P md l.toArray Q S (fuel+1) listed a w :=
 held_take i hi hs hf hr hQ hw he hS h
theorem hk (i:Nat) {oi:Oper} {fuel:Nat} {listed:Array Bool} {a:Act} {w:World} (hi:l[i]?=some oi:=by rfl) (hs:Region.noSelect l.toArray=true:=by kernel_rfl) (hf:Region.free md l.toArray listed i=true:=by kernel_rfl)
  (hr:(Region.ready md l.toArray listed).contains i=true:=by kernel_rfl) (hQ:∀ c a w,Q (.panic c) (a.put oi.dst undef) w->Q (.panic c) a w:=by exact fun _ _ _ h=>h) (hw:Region.wanted oi (yielded l.toArray a.tmps)=false:=by rfl)
  (hS:S w:=by assumption) (h:wpAnyH P md l.toArray Q S fuel (listed.setIfInBounds i true) (a.put oi.dst undef) w):wpAnyH P md l.toArray Q S (fuel+1) listed a w :=
 held_skip i hi hs hf hr hQ hw hS h
theorem hst (i:Nat) {oi:Oper} {fuel:Nat} {listed:Array Bool} {a:Act} {w:World} (hi:l[i]?=some oi:=by rfl) (hr:Region.ready md l.toArray listed=[i]:=by kernel_rfl)
  (h:∀ K':Act->World->Prop,Shut (∀ a w,S w->(S w->wpAnyH P md l.toArray Q S fuel (listed.setIfInBounds i true) a w)->K' a w)->if Region.wanted oi (yielded l.toArray a.tmps)=true then Oper.wp P oi a w K' Q else K' (a.put oi.dst undef) w) :
  wpAnyH P md l.toArray Q S (fuel+1) listed a w:=held_step i hi hr h
end
section
variable {w0 W:World}
theorem cq {b i:Nat} {v:Value} (h:w0.cell? ⟨b,i,none⟩=some v):∀ W,XF w0 W->W.cell? ⟨b,i,none⟩=some v:=fun _ hx=>cell_keep h hx
theorem cqo {S:Nat->Prop} {b i:Nat} {v:Value} (h:w0.cell? ⟨b,i,none⟩=some v) (hn:¬ S b):∀ W,Ext S w0 W->W.cell? ⟨b,i,none⟩=some v:=fun _ hx=>(hx.cell (p:=⟨b,i,none⟩) (World.block_lt_of_cell? _ _ h) hn).trans h
end
theorem least1_any (w:World) (pb xb:Nat) (vv rv xv:Value) (p:ProgV) (l:List Rat) (L:Nat) (hp:blk w pb=some (.cells #[vv,rv] 25 (0,0))) (hxb:blk w xb=some (.cells #[xv] 32 (0,0))) (hv:Vrs w vv p.vars) (hl:Rats w xv l L) (hL:L<=268435455) (i:Nat) (hi:i<p.vars.length) :
  Calls Tryz.prog 70 #[.int .i64 i,.pointer (some ⟨xb,0,none⟩),.pointer (some ⟨pb,0,none⟩)] w (TermPost w (pickQ (p.v i) (atQ l i)) (atQ l i) L):=by
 obtain ⟨vo,vc,rfl,-,hn,-⟩:=hv.shape
 obtain ⟨xo,xc,rfl,-,hxn,-⟩:=hl.shape
 have HA:=bH (fun W (hW:XF w W)=>lat_any W _ l L (hl.keep hW) i)
 obtain ⟨b,off,rfl,hlt,e0,e1,-,-,-,-⟩:=hv.atp i hi
 have hx:=(Ext.refl (fun _=>False) w).alloc (.cells #[.bool false,.slice none 0 0,.slice none 0 0] 42)
 have hS:S4 pb xb b b 0 0 (off+i*5) (off+i*5+1) (.slice (some ⟨b,off,none⟩) p.vars.length vc) (.slice xo l.length xc) (.int .i64 (p.v i).lo) (.int .i64 (p.v i).up) (w.alloc (.cells #[.bool false,.slice none 0 0,.slice none 0 0] 42)):=S4.keep ⟨cellq hp 0 rfl,cellq hxb 0 rfl,e0,e1⟩ hx
 have hb:=boxR_new (W:=w) rfl false none 0 0 none 0 0
 have HB:=bH (bI hb (bI hx hS))
 have n0:=blk_lt hp
 have n1:=blk_lt hxb
 have j0:(0:Int)<=(i:Int):=by omega
 have j1:(i:Int)<(p.vars.length:Int):=by omega
 clear hv hl hp hxb e0 e1 hi
 go_enter Tryz.func70,Tryz.ntmps70
 go_upto_region 1 with fail
 obtain ⟨x0,x1,-,-⟩:=hS
 clear hb hx
 obtain ⟨r,hr⟩:∃ r,w.heap.size=r:=⟨_,rfl⟩
 rw [hr] at HB n0 n1 hlt ⊢
 generalize w.alloc (.cells #[.bool false,.slice none 0 0,.slice none 0 0] 42)=w1 at *
 go_wp2_with fail
 refine (HA.out _ HB.out.2.1).mono ?_
 rintro r2 w2 ⟨v2,rfl,h2,hx2⟩
 have HG:=bH (rsign_any w2 v2 _ L h2 hL)
 have HX2:=bH hx2
 clear h2 hx2
 go_wp2_with fail
 refine HG.out.mono ?_
 rintro r3 w3 ⟨rfl,hx3⟩
 have hx13:=HX2.out.trans hx3
 have hS:=HB.out.2.2.keep hx13
 have HB3:=bH (bI (HB.out.1.ext hx13 id) (HB.out.2.1.trans hx13))
 have hsg:=sign_lt (atQ l i)
 clear hx3 hx13 HX2 HG HB x0 x1
 have hcase:((atQ l i).num.sign<0/\pickQ (p.v i) (atQ l i)=(p.v i).up)∨(¬ (atQ l i).num.sign<0/\pickQ (p.v i) (atQ l i)=(p.v i).lo):=by
  by_cases h:atQ l i<0
  ·exact .inl ⟨hsg.2 h,if_pos h⟩
  ·exact .inr ⟨fun h2=>h (hsg.1 h2),if_neg h⟩
 generalize pickQ (p.v i) (atQ l i)=pk at *
 generalize p.vars.length=n at *
 generalize l.length=xn at *
 generalize (atQ l i).num.sign=sg at *
 clear hsg
 rcases hcase with ⟨hc,rfl⟩ | ⟨hc,rfl⟩
 ·replace hS:S3 pb xb b 0 0 (off+i*5+1) (.slice (some ⟨b,off,none⟩) n vc) (.slice xo xn xc) (.int .i64 (p.v i).up) w3:=⟨hS.1,hS.2.1,hS.2.2.2⟩
  generalize (p.v i).up=k at *
  go_upto_region 2 with fail
  (go_region_held3 (S3 pb xb b 0 0 (off+i*5+1) (.slice (some ⟨b,off,none⟩) n vc) (.slice xo xn xc) (.int .i64 k))
   (repeat (first | (with_reducible assumption) | (with_reducible refine S3.drew ?_) | (with_reducible refine S3.set ?_ _ _ ?_ ?_ ?_) | (dsimp only; omega)))
   ((go_at_call 55; (with_reducible refine (HA.out _ HB3.out.2.drew).mono ?_); rintro q1 w11 ⟨v11,rfl,h11,hx11⟩; have hX1:=(Ext.refl (fun _=>False) w3).drew.trans hx11; have hK1:=hS.keep hX1; have hr3:=HB3.out.1.ext hX1 id; obtain ⟨d0,d1,d2,d3,d4,d5⟩:=hr3.facts; obtain ⟨ng,sa,sn,sc,ta,tn,tc,rfl⟩:=h11.shape)))
  obtain ⟨hp,ha⟩:=term_put (w:=w) (k:=k) hr3 (Nat.le_of_eq hr) (HB3.out.2.trans hX1) h11
  have HP:=bH (bI hp ha)
  clear hp ha h11 hx11 hX1 hK1 hr3 d0 d1 d2 d3 d4 d5 hS HB3
  go_wp2
  generalize ((w11.setCell ⟨r,0,none⟩ (.bool ng)).setCell ⟨r,1,none⟩ (.slice sa sn sc)).setCell ⟨r,2,none⟩ (.slice ta tn tc)=w9 at *
  obtain ⟨g0,g1,g2,_⟩:=HP.out.1.facts
  exact bodyPost_ret (v:=.tuple #[.int .i64 k,.agg #[.bool ng,.slice sa sn sc,.slice ta tn tc]]) (by simp [results,Tryz.results70,go_sem,g0,g1,g2]) rfl HP.out.2
 ·replace hS:S3 pb xb b 0 0 (off+i*5) (.slice (some ⟨b,off,none⟩) n vc) (.slice xo xn xc) (.int .i64 (p.v i).lo) w3:=⟨hS.1,hS.2.1,hS.2.2.1⟩
  generalize (p.v i).lo=k at *
  go_upto_region 3 with fail
  (go_region_held3 (S3 pb xb b 0 0 (off+i*5) (.slice (some ⟨b,off,none⟩) n vc) (.slice xo xn xc) (.int .i64 k))
   (repeat (first | (with_reducible assumption) | (with_reducible refine S3.drew ?_) | (with_reducible refine S3.set ?_ _ _ ?_ ?_ ?_) | (dsimp only; omega)))
   ((go_at_call 55; (with_reducible refine (HA.out _ HB3.out.2.drew).mono ?_); rintro q1 w11 ⟨v11,rfl,h11,hx11⟩; have hX1:=(Ext.refl (fun _=>False) w3).drew.trans hx11; have hK1:=hS.keep hX1; have hr3:=HB3.out.1.ext hX1 id; obtain ⟨d0,d1,d2,d3,d4,d5⟩:=hr3.facts; obtain ⟨ng,sa,sn,sc,ta,tn,tc,rfl⟩:=h11.shape)))
  obtain ⟨hp,ha⟩:=term_put (w:=w) (k:=k) hr3 (Nat.le_of_eq hr) (HB3.out.2.trans hX1) h11
  have HP:=bH (bI hp ha)
  clear hp ha h11 hx11 hX1 hK1 hr3 d0 d1 d2 d3 d4 d5 hS HB3
  go_wp2
  generalize ((w11.setCell ⟨r,0,none⟩ (.bool ng)).setCell ⟨r,1,none⟩ (.slice sa sn sc)).setCell ⟨r,2,none⟩ (.slice ta tn tc)=w9 at *
  obtain ⟨g0,g1,g2,_⟩:=HP.out.1.facts
  exact bodyPost_ret (v:=.tuple #[.int .i64 k,.agg #[.bool ng,.slice sa sn sc,.slice ta tn tc]]) (by simp [results,Tryz.results70,go_sem,g0,g1,g2]) rfl HP.out.2
def leaB (p:ProgV) (c:List Rat) (i:Nat):Bool:=((p.v i).op || decide ((p.v i).lo<=(p.v i).up)) && !((p.v i).op && decide (atQ c i<0))
theorem allTo_and (f g:Nat->Bool):∀ n,allTo n (fun i=>f i && g i)=(allTo n f && allTo n g)
 | 0=>rfl
 | n+1=>by
  show (allTo n (fun i=>f i && g i) && (f n && g n))=((allTo n f && f n) && (allTo n g && g n))
  rw [allTo_and f g n]
  cases allTo n f <;> cases allTo n g <;> cases f n <;> cases g n <;> rfl
theorem leastQ_eq (p:ProgV) (c:List Rat):leastQ p c=if allTo p.vars.length (leaB p c) then some (leastS p c) else none:=by
 unfold leastQ emptyB lowB leaB
 rw [allTo_and]
 generalize allTo p.vars.length (fun i=>(p.v i).op || decide ((p.v i).lo<=(p.v i).up))=a
 generalize (allTo p.vars.length fun i=>!((p.v i).op && decide (atQ c i<0)))=b
 cases a <;> cases b <;> rfl
def OptPost (w:World) (q:Option Rat) (r:Ending) (w':World):Prop:=XF w w'/\match q with
 | none=>∃ v,r=.returned (.tuple #[v,.bool false])/\IsRat w' v 0
 | some q=>∃ v,r=.returned (.tuple #[v,.bool true])/\IsRat w' v q
theorem pick_in {p:ProgV} {w:World} {v:Value} (h:Vrs w v p.vars) (c:List Rat) (i:Nat) (hi:i<p.vars.length):InR (pickQ (p.v i) (atQ c i)):=by
 unfold pickQ
 split
 ·exact (h.ok i hi).up
 ·exact (h.ok i hi).lo
theorem Least_any (w:World) (pv xv:Value) (p:ProgV) (l:List Rat) (L:Nat) (hp:IsPrg w pv p) (hl:Rats w xv l L) (h1:1<=L) (hL:1+p.vars.length*(L+3)+(L+3)<=4000000) :
  Calls Tryz.prog 28 #[pv,xv] w (OptPost w (leastQ p l)):=by
 obtain ⟨vv,rv,rfl,hv,hr⟩:=hp
 obtain ⟨vo,vc,rfl,-,hn,-⟩:=hv.shape
 obtain ⟨xo,xc,rfl,-,hxn,-⟩:=hl.shape
 obtain ⟨b0,b1,b2,hx⟩:=box3 w (.cells #[.slice vo p.vars.length vc,rv] 25) (.cells #[.slice xo l.length xc] 32) (.cells #[.bool false,.slice none 0 0,.slice none 0 0] 42)
 have HV:=bH (bI hv hl)
 have HS:=bH (fun W0 (hW0:XF (((w.alloc (.cells #[.slice vo p.vars.length vc,rv] 25)).alloc (.cells #[.slice xo l.length xc] 32)).alloc (.cells #[.bool false,.slice none 0 0,.slice none 0 0] 42)) W0) =>
  lsum_any W0 p.vars.length 70 #[.pointer (some ⟨w.heap.size+1,0,none⟩),.pointer (some ⟨w.heap.size,0,none⟩)] (fun i=>pickQ (p.v i) (atQ l i)) (fun i=>atQ l i) L h1 hL
   (fun i hi=>pick_in hv l i hi) (fun i _=>hl.sz h1 i) (enters_of Tryz.func70 (by kernel_rfl) rfl)
   (fun W hW i hi=>least1_any W w.heap.size (w.heap.size+1) _ rv _ p l L (blk_keep b0 (hW0.trans hW)) (blk_keep b1 (hW0.trans hW)) (hv.keep ((hx.trans hW0).trans hW)) (hl.keep ((hx.trans hW0).trans hW)) (by omega) i hi))
 have HA:=bH (fun W (hW:XF w W) (i:Nat)=>lat_any W _ l L (hl.keep hW) i)
 have HG:=bH (fun W u q (hu:Rrat W u q L)=>rsign_any W u q L hu (by omega))
 have HB:=bH (bI b0 (bI b1 (bI (boxR_of b2) hx)))
 have HQ:=bH (leastQ_eq p l)
 obtain ⟨qs,hqs⟩:∃ qs,leastS p l=qs:=⟨_,rfl⟩
 have hqs':=hqs
 unfold leastS at hqs'
 rw [hqs'] at HS
 rw [hqs] at HQ
 clear hv hr hl b0 b1 b2 hx hqs hqs'
 obtain ⟨n,hn'⟩:∃ n,p.vars.length=n:=⟨_,rfl⟩
 have HN:=bH hn'
 rw [hn'] at hn ⊢ HV HB HS HQ
 clear hn' hL
 generalize l.length=xn at *
 go_enter Tryz.func28,Tryz.ntmps28
 go_upto_region 1 with fail
 generalize (((w.alloc (.cells #[.slice vo n vc,rv] 25)).alloc (.cells #[.slice xo xn xc] 32)).alloc (.cells #[.bool false,.slice none 0 0,.slice none 0 0] 42))=w1 at *
 obtain ⟨pb,hpb⟩:∃ pb,w.heap.size=pb:=⟨_,rfl⟩
 have hpw:w.heap.size<=pb:=Nat.le_of_eq hpb
 rw [hpb] at HB HS ⊢
 have z0:=cellq HB.out.1 0 rfl
 go_wp2_with fail
 go_loopg [11] n (fun gg v11 wr=>∃ i:Nat,i<=n/\gg=n - i/\v11=.int .i64 i/\allTo i (leaB p l)=true/\XF w1 wr)
 case atStart=>exact ⟨0,Nat.zero_le _,rfl,rfl,rfl,Ext.refl _ _⟩
 case round =>
  clear z0
  obtain ⟨i,hi,rfl,rfl,hall,hx⟩:=hrel
  have HX:=bH (bI hall hx)
  clear hall hx
  by_cases hin:i<n
  ·have i0:(i:Int)<(n:Int):=by omega
   have hrow:=(HV.out.1.keep (HB.out.2.2.2.trans HX.out.2))
   obtain ⟨b,off,rfl,hlt,e0,e1,e2,e3,e4,-⟩:=hrow.atp i (by rw [HN.out]; exact hin)
   clear hrow
   have HA1:=bH (fun W (hW:XF wr W)=>HA.out W ((HB.out.2.2.2.trans HX.out.2).trans hW) i)
   have hb1:=BoxV.new wr (p.v i)
   have hx1:=(Ext.refl (fun _=>False) wr).alloc (.cells #[.int .i64 (p.v i).lo,.int .i64 (p.v i).up,.bool (p.v i).op,.bool (p.v i).ig,.int .i64 (p.v i).co] 57)
   have HR:=bH (show leaB p l i=(((p.v i).op || decide ((p.v i).lo<=(p.v i).up)) && !((p.v i).op && decide (atQ l i<0))) from rfl)
   have HB1:=bH (bI hb1 hx1)
   clear hb1 hx1
   go_upto_region 4 with fail
   obtain ⟨rb,hrb⟩:∃ rb,wr.heap.size=rb:=⟨_,rfl⟩
   rw [hrb] at HB1 ⊢
   generalize wr.alloc (.cells #[.int .i64 (p.v i).lo,.int .i64 (p.v i).up,.bool (p.v i).op,.bool (p.v i).ig,.int .i64 (p.v i).co] 57)=w2 at *
   clear e0 e1 e2 e3 e4
   obtain ⟨f0,f1,f2,-,-⟩:=HB1.out.1.facts
   have a0:=(cellq HB.out.2.1 0 rfl)
   have a1:=cell_keep (cell_keep a0 HX.out.2) HB1.out.2
   clear a0
   have hbr:=((HB.out.2.2.1.keep HX.out.2).keep HB1.out.2)
   obtain ⟨d0,d1,d2,d3,d4,d5⟩:=hbr.facts
   have hput:=hbr.put (neg:=false) (no_int none 0 0) (no_int none 0 0)
   have HPut:=bH hput
   clear hput hbr
   have hs0:=sign_lt (atQ l i)
   have HSg:=bH hs0
   clear hs0
   generalize (p.v i).op=o at *
   generalize (p.v i).lo=lo at *
   generalize (p.v i).up=up at *
   cases o with
   | false =>
    by_cases hlu:up<lo
    ·go_wp2
     generalize (((w2.setCell ⟨pb+1+1,0,none⟩ (.bool false)).setCell ⟨pb+1+1,1,none⟩ (.slice none 0 0)).setCell ⟨pb+1+1,2,none⟩ (.slice none 0 0))=w9 at *
     obtain ⟨g0,g1,g2,_⟩:=HPut.out.box.facts
     refine bodyPost_ret (v:=.tuple #[.agg #[.bool false,.slice none 0 0,.slice none 0 0],.bool false]) (by simp [results,Tryz.results28,go_sem,g0,g1,g2]) rfl ⟨?_,?_⟩
     ·exact (((HB.out.2.2.2.trans HX.out.2).trans HB1.out.2)).own HPut.out.ext (fun k e=>by omega)
     ·rw [HQ.out,if_neg (by rw [allTo_false (f:=leaB p l) hin (by rw [HR.out]; simp; omega)]; simp)]
      exact ⟨_,rfl,IsRat.zero _⟩
    ·go_wp2
     go_roundg (n - (i+1))
     case measure=>omega
     case rel=>exact ⟨i+1,by omega,rfl,by go_num,allTo_next HX.out.1 (by rw [HR.out]; simp; omega),HX.out.2.trans HB1.out.2⟩
   | true =>
    go_wp2_with fail
    refine (HA1.out w2 HB1.out.2).mono ?_
    rintro r3 w3 ⟨v3,rfl,h3,hx3⟩
    have HG3:=bH (HG.out w3 v3 _ h3)
    have HX3:=bH hx3
    clear h3 hx3 HPut
    go_wp2_with fail
    refine HG3.out.mono ?_
    rintro r4 w4 ⟨rfl,hx4⟩
    have hx24:=HX3.out.trans hx4
    have hbr:=(((HB.out.2.2.1.keep HX.out.2).keep HB1.out.2)).keep hx24
    obtain ⟨d0,d1,d2,d3,d4,d5⟩:=hbr.facts
    have hput:=hbr.put (neg:=false) (no_int none 0 0) (no_int none 0 0)
    have HPut:=bH hput
    have HX4:=bH ((HX.out.2.trans HB1.out.2).trans hx24)
    clear hput hbr hx4 hx24 HX3 HG3
    by_cases hs:(atQ l i).num.sign<0
    ·have hq:atQ l i<0:=HSg.out.1 hs
     have HQ1:=bH hq
     clear hq
     generalize (atQ l i).num.sign=sg at *
     go_wp2
     generalize (((w4.setCell ⟨pb+1+1,0,none⟩ (.bool false)).setCell ⟨pb+1+1,1,none⟩ (.slice none 0 0)).setCell ⟨pb+1+1,2,none⟩ (.slice none 0 0))=w9 at *
     obtain ⟨g0,g1,g2,_⟩:=HPut.out.box.facts
     refine bodyPost_ret (v:=.tuple #[.agg #[.bool false,.slice none 0 0,.slice none 0 0],.bool false]) (by simp [results,Tryz.results28,go_sem,g0,g1,g2]) rfl ⟨?_,?_⟩
     ·exact (HB.out.2.2.2.trans HX4.out).own HPut.out.ext (fun k e=>by omega)
     ·rw [HQ.out,if_neg (by rw [allTo_false (f:=leaB p l) hin (by rw [HR.out]; simp [HQ1.out])]; simp)]
      exact ⟨_,rfl,IsRat.zero _⟩
    ·have hq:¬ atQ l i<0:=fun h=>hs (HSg.out.2 h)
     have HQ1:=bH hq
     clear hq
     generalize (atQ l i).num.sign=sg at *
     go_wp2
     go_roundg (n - (i+1))
     case measure=>omega
     case rel=>exact ⟨i+1,by omega,rfl,by go_num,allTo_next HX.out.1 (by rw [HR.out]; simp [HQ1.out]),HX4.out⟩
  ·obtain rfl:i=n:=by omega
   have a0:=cell_keep (cellq HB.out.1 0 rfl) HX.out.2
   go_wp2_with fail
   refine (HS.out wr HX.out.2).mono ?_
   rintro r2 w2 ⟨v2,rfl,h2,hx2⟩
   obtain ⟨ng,sa,sn,sc,ta,tn,tc,rfl⟩:=h2.shape
   have hr3:=(HB.out.2.2.1.keep HX.out.2).keep hx2
   obtain ⟨d0,d1,d2,d3,d4,d5⟩:=hr3.facts
   have hp:=hr3.put (neg:=ng) (no_int sa sn sc) (no_int ta tn tc)
   have HP:=bH (bI hp (bI (hp.rat h2) ((HB.out.2.2.2.trans (HX.out.2.trans hx2)).own hp.ext (fun k e=>by omega))))
   clear h2 hr3 hx2 hp
   go_wp2
   generalize (((w2.setCell ⟨pb+1+1,0,none⟩ (.bool ng)).setCell ⟨pb+1+1,1,none⟩ (.slice sa sn sc)).setCell ⟨pb+1+1,2,none⟩ (.slice ta tn tc))=w9 at *
   obtain ⟨g0,g1,g2,_⟩:=HP.out.1.box.facts
   refine bodyPost_ret (v:=.tuple #[.agg #[.bool ng,.slice sa sn sc,.slice ta tn tc],.bool true]) (by simp [results,Tryz.results28,go_sem,g0,g1,g2]) rfl ⟨HP.out.2.2,?_⟩
   rw [HQ.out,if_pos HX.out.1]
   exact ⟨_,rfl,HP.out.2.1⟩
section
variable {w w':World} {b n:Nat} {f g:Nat->Rat}
end
theorem Tryz.infoRat:(Tryz.prog.info? 42).map (fun i=>(i.zero,i.size,i.bytes))=some (some (.agg #[.bool false,.slice none 0 0,.slice none 0 0]),3,56):=by kernel_rfl
section
variable {b0 b1 b2 b3 b4 b5 b6 b7 b8 o0 o1 o2 o3 o4 o5 o6 o7 o8:Nat} {x0 x1 x2 x3 x4 x5 x6 x7 x8:Value} {W:World}
end
theorem sumTo_sz {g:Nat->Rat} {M:Nat}:∀ {n:Nat},(∀ i,i<n->Sz (g i) M)->Sz (sumTo n g) (1+n*(M+1))
 | 0,_=>Sz.zero.mono (by omega)
 | n+1,h=>by
  have e:1+n*(M+1)+M+1=1+(n+1)*(M+1):=by rw [Nat.succ_mul]; omega
  exact ((sumTo_sz (n:=n) (fun i hi=>h i (by omega))).add (h n (by omega))).mono (Nat.le_of_eq e)
def nv (k:Nat):Value:=.int .i64 (k:Int)
theorem nv_one (k:Nat):∀ u ∈ [Value.int .i64 (k:Int)],u.oneCell'=true:=fun u hu=>by
 rw [List.mem_singleton.1 hu]; rfl
def NOwn (w:World) (base:Nat) (v:Value) (l:List Nat):Prop:=w.ownsRow base 3 1 v l.length (l.map nv)
theorem nown_app {w:World} {base j k:Nat} {v:Value} {o:List Nat} (hlen:o.length=j) (h:w.ownsRow base 3 1 v (j+1) (o.map nv++[.int .i64 (k:Int)])):NOwn w base v (o++[k]):=by
 unfold NOwn
 rw [List.length_append,hlen,List.map_append]
 exact h
theorem NOwn.nil (w:World) (base:Nat):NOwn w base (.slice none 0 0) []:=World.ownsRow_nil w base _ 1
theorem NOwn.keep {w w':World} {base:Nat} {v:Value} {l:List Nat} (h:NOwn w base v l) (hx:XF w w'):NOwn w' base v l:=ownsRow_ext h hx (fun _ _ h=>h)
theorem NOwn.shape {w:World} {base:Nat} {v:Value} {l:List Nat} (h:NOwn w base v l):∃ ao cap,v=.slice ao l.length cap:=ownsRow_shape h
def NumsPost (w:World) (l:List Nat) (r:Ending) (w':World):Prop:=∃ v,r=.returned v/\NOwn w' w.heap.size v l/\XF w w'
theorem Tryz.infoInt:(Tryz.prog.info? 3).map (fun i=>(i.zero,i.size,i.bytes))=some (some (.int .i64 0),1,8):=by kernel_rfl
theorem Rats.take {w:World} {ao:Option Addr} {n c:Nat} {l:List Rat} {L:Nat} (h:Rats w (.slice ao n c) l L) (k:Nat) (hk:k<=n):Rats w (.slice ao k c) (l.take k) L:=by
 obtain ⟨cs,h0,⟨ao',c',e,h1,h2,h3,h4⟩,h5⟩:=h
 cases e
 refine ⟨cs.take k,by simp [h0],⟨ao,c,by rw [List.length_take,Nat.min_eq_left hk],by rw [List.length_take]; omega,h2,h3,fun hp=>?_⟩,fun i c' q hc hq=>?_⟩
 ·rw [List.length_take] at hp
  obtain ⟨b,off,e,hb,hc⟩:=h4 (by omega)
  refine ⟨b,off,e,hb,fun i r hi j u hu=>hc i r ?_ j u hu⟩
  rw [List.getElem?_take] at hi
  split at hi
  ·exact hi
  ·cases hi
 ·rw [List.getElem?_take] at hc hq
  split at hc
  ·rename_i hik
   rw [if_pos hik] at hq
   exact h5 i c' q hc hq
  ·cases hc
theorem clip_any (w w0:World) (pv xv:Value) (p:ProgV) (x:List Rat) (L:Nat) (hp:IsPrg w pv p) (hl:Rats w0 xv x L) :
  Calls Tryz.prog 58 #[pv,xv] w fun r w'=>(∃ v,r=.returned v/\Rats w0 v (clipQ p x) L)/\XF w w':=by
 obtain ⟨vv,rv,rfl,hv,-⟩:=hp
 obtain ⟨vo,vc,rfl,-,hn,-⟩:=hv.shape
 obtain ⟨xo,xc,rfl,hxo,hxn,hxc⟩:=hl.shape
 have HT:=bH (fun k hk=>hl.take k hk)
 have hxc63:xc<=9223372036854775807:=by
  obtain ⟨_,_,⟨_,_,e,_,h,_⟩,_⟩:=hl
  have e3:=(Value.slice.inj e).2.2
  unfold maxLen at h; omega
 unfold clipQ
 clear hv hl
 have HX:=bH ((Ext.refl (fun _=>False) w).alloc (.cells #[.slice vo p.vars.length vc,rv] 25))
 generalize p.vars.length=n at *
 generalize hxl:x.length=xn at *
 have HE:Hid (n<=xn∨x.take n=x.take xn):=bH (by
  by_cases h:n<=xn
  ·exact .inl h
  ·exact .inr (by rw [List.take_of_length_le (by omega),List.take_of_length_le (by omega)]))
 clear hxl
 cases xo with
 | none =>
  have hc0:xc=0:=hxo rfl
  subst hc0
  obtain rfl:xn=0:=by omega
  clear hxo
  go_enter Tryz.func58,Tryz.ntmps58
  go_wp2
  go_ret
  refine ⟨⟨_,rfl,?_⟩,HX.out⟩
  rcases HE.out with h | h
  ·obtain rfl:n=0:=by omega
   exact HT.out 0 (Nat.le_refl _)
  ·rw [h]; exact HT.out 0 (Nat.le_refl _)
 | some a =>
  clear hxo
  by_cases h:n<=xn
  ·have h':(n:Int)<=(xn:Int):=by omega
   have hm:min (xn:Int) (n:Int)=(n:Int):=by omega
   go_enter Tryz.func58,Tryz.ntmps58
   go_wp2
   all_goals
    go_ret
    exact ⟨⟨_,rfl,HT.out n h⟩,HX.out⟩
  ·have h':(xn:Int)<(n:Int):=by omega
   have hm:min (xn:Int) (n:Int)=(xn:Int):=by omega
   have HE':=bH (HE.out.resolve_left h)
   go_enter Tryz.func58,Tryz.ntmps58
   go_wp2
   all_goals
    go_ret
    exact ⟨⟨_,rfl,by rw [HE'.out]; exact HT.out xn (Nat.le_refl _)⟩,HX.out⟩
theorem dot_sz {ts:List TermV} {x:List Rat} {L T:Nat} (ht:∀ k,k<ts.length->TermOk (ts.getD k term0)) (hx:∀ i:Int,Sz (atQ x i) L) (hT:ts.length<=T):Sz (dotQ ts x) (1+T*(L+3)) :=
 (sumTo_sz (M:=L+2) (fun k hk=>((Sz.int (ht k hk).coef).mul (hx _)).mono (by omega))).mono (by
  have:=Nat.mul_le_mul_right (L+3) hT
  show 1+ts.length*(L+3)<=_
  omega)
theorem Rws.term_ok {p:ProgV} {w:World} {v:Value} (h:Rws w v p.rows) {i:Nat} (hi:i<p.rows.length):∀ k,k<(p.r i).terms.length->TermOk ((p.r i).t k):=fun k hk=>by
 obtain ⟨ao,c,rfl,_⟩:=h.shape
 obtain ⟨_,_,_,_,_,_,_,_,_,_,_,_,ht⟩:=h.atp i hi
 exact ht.ok k hk
theorem kind_sign {k:Int} {d b:Rat}:kindB k d b=if k=0 then !decide (0<(d - b).num.sign) else if k=1 then !decide ((d - b).num.sign<0) else decide ((d - b).num.sign=0):=by
 have h1:=sign_lt (d - b)
 have h2:=sign_gt (d - b)
 have h3:=sign_zero (d - b)
 unfold kindB
 split
 ·rw [<- decide_not]; exact decide_eq_decide.2 ⟨fun h h'=>by have:=h2.1 h'; grind,fun h=>Rat.not_lt.1 (fun h'=>h (h2.2 (by grind)))⟩
 ·split
  ·rw [<- decide_not]; exact decide_eq_decide.2 ⟨fun h h'=>by have:=h1.1 h'; grind,fun h=>Rat.not_lt.1 (fun h'=>h (h1.2 (by grind)))⟩
  ·exact decide_eq_decide.2 ⟨fun h=>h3.2 (by grind),fun h=>by have:=h3.1 h; grind⟩
theorem Violated_any (w:World) (pv xv:Value) (p:ProgV) (x:List Rat) (L T:Nat) (hp:IsPrg w pv p) (hy:Rats w xv x L) (h1:1<=L) (hT:∀ i,i<p.rows.length->(p.r i).terms.length<=T) (hL:1+T*(L+3)+(L+3)<=4000000) (hm:p.rows.length<=1000000) :
  Calls Tryz.prog 17 #[pv,xv] w (NumsPost w (violQ p x)):=by
 obtain ⟨ti,hi0⟩:=info_parts Tryz.infoInt
 have Hi:=bH hi0
 clear hi0
 obtain ⟨vv,rv,rfl,hvv,hr⟩:=hp
 obtain ⟨ro,rc,rfl,-,hn,-⟩:=hr.shape
 have HCl:=bH (fun W (hW:XF w W)=>clip_any W w _ xv p x L ⟨vv,_,rfl,hvv.keep hW,hr.keep hW⟩ hy)
 have Hsz:=bH (fun i hi=>dot_sz (x:=clipQ p x) (L:=L) (hr.term_ok hi) (fun j=>(by
  unfold clipQ
  obtain ⟨yo,yc,e,_⟩:=hy.shape
  rw [e] at hy
  by_cases h:p.vars.length<=x.length
  ·exact (hy.take p.vars.length h).sz h1 j
  ·rw [List.take_of_length_le (by omega)]; exact hy.sz h1 j)) (hT i hi))
 have HV:=bH hr
 have HT:=bH hT
 clear hvv hy hT
 obtain ⟨n,hn'⟩:∃ n,p.rows.length=n:=⟨_,rfl⟩
 have HN:=bH hn'
 have hb1:=blk_alloc_at w (.cells #[vv,.slice ro p.rows.length rc] 25)
 have hx1:=(Ext.refl (fun _=>False) w).alloc (.cells #[vv,.slice ro p.rows.length rc] 25)
 have HB:=bH (bI hb1 hx1)
 clear hr hb1 hx1
 rw [hn'] at hn hm HV HB HCl
 unfold violQ
 rw [hn']
 have hvl:∀ i,(violN (fun i=>holdsB (p.r i) (clipQ p x)) i).length<=i:=fun i=>by
  induction i with
  | zero=>exact Nat.le_refl _
  | succ i ih =>
   unfold violN
   split
   ·omega
   ·rw [List.length_append]; simp; exact ih
 have HVL:=bH hvl
 clear hn' hvl
 go_enter Tryz.func17,Tryz.ntmps17
 go_upto_region 1 with fail
 generalize w.alloc (.cells #[vv,.slice ro n rc] 25)=w1 at *
 obtain ⟨pb,hpb⟩:∃ pb,w.heap.size=pb:=⟨_,rfl⟩
 have hpw:w.heap.size<=pb:=Nat.le_of_eq hpb
 rw [hpb] at HB ⊢
 rw [<- hpb]
 rw [hpb]
 clear hpb
 have z0:=cellq HB.out.1 0 rfl
 have z1:=cellq HB.out.1 1 rfl
 go_wp2_with fail
 refine (HCl.out w1 HB.out.2).mono ?_
 rintro r2 w2 ⟨⟨xv2,rfl,hx2v⟩,hx2⟩
 have HX2:=bH (bI hx2v (HB.out.2.trans hx2))
 obtain ⟨zo,zc,rfl,-,-,-⟩:=hx2v.shape
 have z1:=cell_keep z1 hx2
 clear hx2v hx2 HCl z0
 generalize (clipQ p x).length=zn at *
 go_wp2_with fail
 go_loopg [15,5] n (fun gg v15 v5 wr=>∃ (i:Nat) (ov:Value),i<=n/\gg=n - i/\v15=.int .i64 i/\v5=ov/\NOwn wr w.heap.size ov (violN (fun i=>holdsB (p.r i) (clipQ p x)) i)/\XF w wr)
 case atStart=>exact ⟨0,_,Nat.zero_le _,rfl,rfl,rfl,NOwn.nil _ _,HX2.out.2⟩
 case round =>
  clear z1
  obtain ⟨i,ov,hi,rfl,rfl,rfl,ho,hx⟩:=hrel
  have HX:=bH hx
  obtain ⟨ao,cap,rfl⟩:=ho.shape
  have HO:=bH ho
  obtain ⟨ln,hln⟩:∃ ln,(violN (fun i=>holdsB (p.r i) (clipQ p x)) i).length=ln:=⟨_,rfl⟩
  have hlni:ln<=i:=by have:=HVL.out i; omega
  have Hlen:=bH hln
  rw [hln] at HO ⊢
  clear hln ho hx
  by_cases hin:i<n
  ·have i0:(i:Int)<(n:Int):=by omega
   obtain ⟨b,off,ta,tc,rfl,-,e0,e1,e2,e3,e4,hrok,htm⟩:=HV.out.atp i (by rw [HN.out]; exact hin)
   replace e0:=cell_keep e0 HX.out
   replace e1:=cell_keep e1 HX.out
   replace e2:=cell_keep e2 HX.out
   replace e3:=cell_keep e3 HX.out
   replace e4:=cell_keep e4 HX.out
   have HD0:=bH (fun W (hW:XF wr W)=>Dot_any W _ _ _ (clipQ p x) L (htm.keep (HX.out.trans hW)) (HX2.out.1.keep (HX.out.trans hW)) h1 (by
    have h:=HT.out i (by rw [HN.out]; exact hin)
    have:=Nat.mul_le_mul_right (L+3) h
    omega))
   have HszI:=bH (Hsz.out i (by rw [HN.out]; exact hin))
   have HBd:=bH hrok.bound
   have HR0:=bH (show holdsB (p.r i) (clipQ p x)=_ from kind_sign)
   clear htm hrok
   obtain ⟨tl,htl⟩:∃ tl,(p.r i).terms.length=tl:=⟨_,rfl⟩
   rw [htl] at e3 HD0
   clear htl
   obtain ⟨D,hD⟩:∃ D,dotQ (p.r i).terms (clipQ p x)=D:=⟨_,rfl⟩
   rw [hD] at HD0 HszI HR0
   clear hD
   obtain ⟨bd,hbd⟩:∃ bd,(p.r i).bound=bd:=⟨_,rfl⟩
   rw [hbd] at e4 HBd HR0
   clear hbd
   obtain ⟨k,hk⟩:∃ k,(p.r i).kind=k:=⟨_,rfl⟩
   rw [hk] at e2 HR0
   clear hk
   generalize (p.r i).name=nm at *
   generalize (p.r i).group=gr at *
   have hx3:=(Ext.refl (fun _=>False) wr).alloc (.cells #[.string nm,.int .i64 gr,.int .i64 k,.slice ta tl tc,.int .i64 bd] 75)
   have hb3:=blk_alloc_at wr (.cells #[.string nm,.int .i64 gr,.int .i64 k,.slice ta tl tc,.int .i64 bd] 75)
   have HB3:=bH (bI hb3 hx3)
   clear hb3 hx3
   go_upto_region 6 with fail
   obtain ⟨rb,hrb⟩:∃ rb,wr.heap.size=rb:=⟨_,rfl⟩
   rw [hrb] at HB3 ⊢
   generalize wr.alloc (.cells #[.string nm,.int .i64 gr,.int .i64 k,.slice ta tl tc,.int .i64 bd] 75)=w3 at *
   clear e0 e1 e2 e3 e4 hrb
   have hx3:=HB3.out.2
   have HD:=bH (fun W (hW:XF wr W)=>HD0.out W hW)
   have HF:=bH (fun W=>rfrom_any W bd HBd.out.1 HBd.out.2)
   have HC:=bH (fun W u u' (hu:IsRat W u D) (hu':IsRat W u' ((bd:Int):Rat))=>rcmp_any W u u' D _ (1+T*(L+3)+2) (hu.reads (HszI.out.mono (by omega))) (hu'.reads ((Sz.int HBd.out).mono (by omega))) (by omega) (by omega))
   have hS:S2 rb rb 3 4 (.slice ta tl tc) (.int .i64 bd) w3:=⟨cellq HB3.out.1 3 rfl,cellq HB3.out.1 4 rfl⟩
   obtain ⟨sg,hsg⟩:∃ sg,(D - (bd:Rat)).num.sign=sg:=⟨_,rfl⟩
   have HR:=bH (HR0.out.trans (by rw [hsg]))
   rw [hsg] at HC
   generalize (bd:Rat)=bq at *
   clear hsg HR0 HD0
   refine wp_region_held_drew (S:=(S2 rb rb 3 4 (.slice ta tl tc) (.int .i64 bd))) (by kernel_rfl) (hS.drew) (fun hHeld=>?_)
   refine ht 0 (h:=?_)
   (try go_frame)
   refine ht 1 (h:=?_)
   (try go_frame)
   refine ht 2 (h:=?_)
   (try go_frame)
   refine ht 4 (h:=?_)
   (try go_frame)
   refine ht 5 (h:=?_)
   (try go_frame)
   refine held_step 3 rfl (by kernel_rfl) (fun K hK=>?_)
   (go_simp; go_at_call 42; (with_reducible refine (HD.out _ (hx3.drew)).mono ?_); rintro q1 w11 ⟨v11,rfl,h11,hx11⟩; have hX1:=(Ext.refl (fun _=>False) w3).drew.trans hx11; have hK1:=hS.keep hX1; have hC1:=HC.out w11; obtain ⟨n11,a11,l11,c11,a11',l11',c11',rfl⟩:=h11.shape)
   refine hK.out _ _ (hK1) (fun hHeld=>?_)
   clear hK K
   (try go_frame)
   refine held_step 6 rfl (by kernel_rfl) (fun K hK=>?_)
   (go_simp; go_at_call 57; (with_reducible refine (HF.out _).mono ?_); rintro q2 w12 ⟨v12,rfl,h12,hx12⟩; have hX2:=hX1.trans hx12; have hK2:=hS.keep hX2; have hC2:=HC.out w12 _ _ (h11.keep hx12) h12; obtain ⟨n12,a12,l12,c12,a12',l12',c12',rfl⟩:=h12.shape)
   refine hK.out _ _ (hK2) (fun hHeld=>?_)
   clear hK K
   (try go_frame)
   refine held_step 7 rfl (by kernel_rfl) (fun K hK=>?_)
   (go_simp; go_at_call 56; (with_reducible refine hC2.mono ?_); rintro q3 w13 ⟨rfl,hx13⟩; have hX3:=hX2.trans hx13; have hK3:=hS.keep hX3)
   refine hK.out _ _ (hK3) (fun hHeld=>?_)
   clear hK K
   (try go_frame)
   refine ht 8 (h:=?_)
   (try go_frame)
   refine wpAnyH_done (by kernel_rfl) ?_ _
   have HXa:=bH (HX.out.trans (hx3.trans hX3))
   have e2:=cell_keep (cellq HB3.out.1 2 rfl) hX3
   have hok13:NOwn w13 w.heap.size (.slice ao ln cap) (violN (fun i=>holdsB (p.r i) (clipQ p x)) i):=HO.out.keep (hx3.trans hX3)
   have hxa:=(Ext.refl (fun _=>False) w13).alloc (.cells #[.int .i64 (i:Int)] 3)
   have HO1:Hid ((w13.alloc (.cells #[.int .i64 (i:Int)] 3)).ownsRow w.heap.size 3 1 (.slice ao ln cap) ln ((violN (fun i=>holdsB (p.r i) (clipQ p x)) i).map nv)):=bH (by have:=hok13.keep hxa; unfold NOwn at this; rw [Hlen.out] at this; exact this)
   have HGe:=bH (row_ge HO1.out)
   have HOk:=bH hok13
   clear hX1 hX2 hX3 hK1 hK2 hK3 hS h11 h12 hx11 hx12 hx13 hC1 hC2 hx3 HB3 HD HF HC hok13 hxa
   have hcase:(k=0/\0<sg)∨(k=0/\¬ 0<sg)∨(k=1/\sg<0)∨(k=1/\¬ sg<0)∨(¬ k=0/\¬ k=1/\¬ sg=0)∨(¬ k=0/\¬ k=1/\sg=0):=by omega
   rcases hcase with ⟨rfl,hs⟩ | ⟨rfl,hs⟩ | ⟨rfl,hs⟩ | ⟨rfl,hs⟩ | ⟨hk0,hk1,hs⟩ | ⟨hk0,hk1,hs⟩
   ·skip
    go_wp2_with (at_builtin; refine wpList_append_any rfl (.tmp 58) (.tmp 60) 35 rfl w.heap.size 3 ti _ 1 8 Tryz.underlying35 Hi.out.1 Hi.out.2.1 Hi.out.2.2.1 Hi.out.2.2.2 rfl (by decide) _ _ _ rfl HO1.out _ 1 1 (fun e=>by cases e) [.int .i64 (i:Int)] rfl rfl (.inr ⟨_,rfl,cells_new [.int .i64 (i:Int)] _ rfl⟩) (nv_one _) (by simp only [maxLen]; omega) (by omega) (Nat.le_trans HXa.out.size (by simp)) ?_; intro v5 w5 hown5 hgrow5 hat5; have HO:Hid (NOwn w5 w.heap.size v5 (violN (fun i=>holdsB (p.r i) (clipQ p x)) i++[i])):=bH (nown_app Hlen.out hown5); have HX5:Hid (XF w w5):=bH ((HXa.out.alloc (.cells #[.int .i64 (i:Int)] 3)).grown hgrow5 (fun k e h=>absurd (HGe.out k e) (by omega))); clear hown5 hgrow5 hat5)
    go_roundg (n - (i+1))
    case measure=>omega
    case rel=>exact ⟨i+1,v5,by omega,rfl,by go_num,rfl,(by show NOwn w5 w.heap.size v5 (if holdsB (p.r i) (clipQ p x) then _ else _); rw [if_neg (by rw [HR.out]; simp [hs])]; exact HO.out),HX5.out⟩
   ·skip
    go_wp2
    go_roundg (n - (i+1))
    case measure=>omega
    case rel=>exact ⟨i+1,.slice ao ln cap,by omega,rfl,by go_num,rfl,(by show NOwn w13 w.heap.size _ (if holdsB (p.r i) (clipQ p x) then _ else _); rw [if_pos (by rw [HR.out]; simp [hs])]; exact HOk.out),HXa.out⟩
   ·skip
    go_wp2_with (at_builtin; refine wpList_append_any rfl (.tmp 58) (.tmp 60) 35 rfl w.heap.size 3 ti _ 1 8 Tryz.underlying35 Hi.out.1 Hi.out.2.1 Hi.out.2.2.1 Hi.out.2.2.2 rfl (by decide) _ _ _ rfl HO1.out _ 1 1 (fun e=>by cases e) [.int .i64 (i:Int)] rfl rfl (.inr ⟨_,rfl,cells_new [.int .i64 (i:Int)] _ rfl⟩) (nv_one _) (by simp only [maxLen]; omega) (by omega) (Nat.le_trans HXa.out.size (by simp)) ?_; intro v5 w5 hown5 hgrow5 hat5; have HO:Hid (NOwn w5 w.heap.size v5 (violN (fun i=>holdsB (p.r i) (clipQ p x)) i++[i])):=bH (nown_app Hlen.out hown5); have HX5:Hid (XF w w5):=bH ((HXa.out.alloc (.cells #[.int .i64 (i:Int)] 3)).grown hgrow5 (fun k e h=>absurd (HGe.out k e) (by omega))); clear hown5 hgrow5 hat5)
    go_roundg (n - (i+1))
    case measure=>omega
    case rel=>exact ⟨i+1,v5,by omega,rfl,by go_num,rfl,(by show NOwn w5 w.heap.size v5 (if holdsB (p.r i) (clipQ p x) then _ else _); rw [if_neg (by rw [HR.out]; simp [hs])]; exact HO.out),HX5.out⟩
   ·skip
    go_wp2
    go_roundg (n - (i+1))
    case measure=>omega
    case rel=>exact ⟨i+1,.slice ao ln cap,by omega,rfl,by go_num,rfl,(by show NOwn w13 w.heap.size _ (if holdsB (p.r i) (clipQ p x) then _ else _); rw [if_pos (by rw [HR.out]; simp [hs])]; exact HOk.out),HXa.out⟩
   ·have k1:(k == 1)=false:=by simpa using hk1
    have k0:(k == 0)=false:=by simpa using hk0
    have k2:(k != 1)=true:=by simpa using hk1
    have k3:(k != 0)=true:=by simpa using hk0
    have s1:(sg != 0)=true:=by simpa using hs
    have s2:decide (sg=0)=false:=by simpa using hs
    go_wp2_with (at_builtin; refine wpList_append_any rfl (.tmp 58) (.tmp 60) 35 rfl w.heap.size 3 ti _ 1 8 Tryz.underlying35 Hi.out.1 Hi.out.2.1 Hi.out.2.2.1 Hi.out.2.2.2 rfl (by decide) _ _ _ rfl HO1.out _ 1 1 (fun e=>by cases e) [.int .i64 (i:Int)] rfl rfl (.inr ⟨_,rfl,cells_new [.int .i64 (i:Int)] _ rfl⟩) (nv_one _) (by simp only [maxLen]; omega) (by omega) (Nat.le_trans HXa.out.size (by simp)) ?_; intro v5 w5 hown5 hgrow5 hat5; have HO:Hid (NOwn w5 w.heap.size v5 (violN (fun i=>holdsB (p.r i) (clipQ p x)) i++[i])):=bH (nown_app Hlen.out hown5); have HX5:Hid (XF w w5):=bH ((HXa.out.alloc (.cells #[.int .i64 (i:Int)] 3)).grown hgrow5 (fun k e h=>absurd (HGe.out k e) (by omega))); clear hown5 hgrow5 hat5)
    go_roundg (n - (i+1))
    case measure=>omega
    case rel=>exact ⟨i+1,v5,by omega,rfl,by go_num,rfl,(by show NOwn w5 w.heap.size v5 (if holdsB (p.r i) (clipQ p x) then _ else _); rw [if_neg (by rw [HR.out]; simp [hk0,hk1,hs])]; exact HO.out),HX5.out⟩
   ·have k1:(k == 1)=false:=by simpa using hk1
    have k0:(k == 0)=false:=by simpa using hk0
    have k2:(k != 1)=true:=by simpa using hk1
    have k3:(k != 0)=true:=by simpa using hk0
    subst hs
    go_wp2
    go_roundg (n - (i+1))
    case measure=>omega
    case rel=>exact ⟨i+1,.slice ao ln cap,by omega,rfl,by go_num,rfl,(by show NOwn w13 w.heap.size _ (if holdsB (p.r i) (clipQ p x) then _ else _); rw [if_pos (by rw [HR.out]; simp [hk0,hk1])]; exact HOk.out),HXa.out⟩
  ·obtain rfl:i=n:=by omega
   go_wp2
   go_ret
   exact ⟨_,rfl,by have:=HO.out; exact this,HX.out⟩
end Go.Proofs.YtglepbhkilbbcaaGreatDoor
namespace Go.Proofs
open Go.Shelf
def Tryz.laysM246_ren:Go.Shelf.Ren:=⟨fun | 246=>118 | 283=>137 | 284=>138 | 285=>139 | 286=>140 | 129=>162 | 317=>163 | 318=>164 | 319=>165 | 320=>166 | 337=>180 | 338=>181 | n=>n,fun | 2=>2 | 3=>3 | 9=>9 | 4=>4 | 171=>156 | 0=>0 | 53=>116 | 37=>138 | 5=>5 | 173=>159 | 212=>178 | 51=>121 | 20=>20 | 213=>179 | 46=>128 | 232=>202 | 233=>203 | n=>n,fun | 17=>0 | 18=>2 | 19=>3 | n=>n⟩
def Tryz.laysM243_ren:Go.Shelf.Ren:=⟨fun | 243=>90 | 246=>118 | 283=>137 | 284=>138 | 285=>139 | 286=>140 | 129=>162 | 317=>163 | 318=>164 | 319=>165 | 320=>166 | 337=>180 | 338=>181 | n=>n,fun | 3=>3 | 9=>9 | 2=>2 | 4=>4 | 171=>156 | 0=>0 | 53=>116 | 37=>138 | 5=>5 | 173=>159 | 212=>178 | 51=>121 | 20=>20 | 213=>179 | 46=>128 | 232=>202 | 233=>203 | n=>n,fun | 17=>0 | 18=>2 | 19=>3 | n=>n⟩
def Tryz.laysM171_ren:Go.Shelf.Ren:=⟨fun | 171=>50 | 243=>90 | 246=>118 | 283=>137 | 284=>138 | 285=>139 | 286=>140 | 129=>162 | 317=>163 | 318=>164 | 319=>165 | 320=>166 | 337=>180 | 338=>181 | n=>n,fun | 3=>3 | 9=>9 | 2=>2 | 4=>4 | 171=>156 | 0=>0 | 53=>116 | 37=>138 | 5=>5 | 173=>159 | 212=>178 | 51=>121 | 20=>20 | 213=>179 | 46=>128 | 232=>202 | 233=>203 | n=>n,fun | 17=>0 | 18=>2 | 19=>3 | n=>n⟩
theorem Tryz.laysM171:Go.Proofs.LaysM.n171 Tryz.prog Tryz.laysM171_ren:={
 mixed:=by kernel_rfl
 f129:=Tryz.func162.trans (congrArg some (by kernel_rfl))
 f171:=Tryz.func50.trans (congrArg some (by kernel_rfl))
 f243:=Tryz.func90.trans (congrArg some (by kernel_rfl))
 f246:=Tryz.func118.trans (congrArg some (by kernel_rfl))
 f283:=Tryz.func137.trans (congrArg some (by kernel_rfl))
 f284:=Tryz.func138.trans (congrArg some (by kernel_rfl))
 f285:=Tryz.func139.trans (congrArg some (by kernel_rfl))
 f286:=Tryz.func140.trans (congrArg some (by kernel_rfl))
 f317:=Tryz.func163.trans (congrArg some (by kernel_rfl))
 f318:=Tryz.func164.trans (congrArg some (by kernel_rfl))
 f319:=Tryz.func165.trans (congrArg some (by kernel_rfl))
 f320:=Tryz.func166.trans (congrArg some (by kernel_rfl))
 f337:=Tryz.func180.trans (congrArg some (by kernel_rfl))
 f338:=Tryz.func181.trans (congrArg some (by kernel_rfl))
 t0:=Tryz.underlying0
 a0:=Tryz.isAgg0
 z0:=Tryz.sizeOf0
 v0:=Tryz.zeroValue0
 t2:=Tryz.underlying2
 a2:=Tryz.isAgg2
 z2:=Tryz.sizeOf2
 v2:=Tryz.zeroValue2
 t3:=Tryz.underlying3
 a3:=Tryz.isAgg3
 z3:=Tryz.sizeOf3
 v3:=Tryz.zeroValue3
 t4:=Tryz.underlying4
 a4:=Tryz.isAgg4
 z4:=Tryz.sizeOf4
 v4:=Tryz.zeroValue4
 t5:=Tryz.underlying5
 a5:=Tryz.isAgg5
 z5:=Tryz.sizeOf5
 v5:=Tryz.zeroValue5
 t9:=Tryz.underlying9
 a9:=Tryz.isAgg9
 z9:=Tryz.sizeOf9
 v9:=Tryz.zeroValue9
 t20:=Tryz.underlying20
 a20:=Tryz.isAgg20
 z20:=Tryz.sizeOf20
 v20:=Tryz.zeroValue20
 t37:=Tryz.underlying138
 a37:=Tryz.isAgg138
 z37:=Tryz.sizeOf138
 v37:=Tryz.zeroValue138
 t46:=Tryz.underlying128
 a46:=Tryz.isAgg128
 z46:=Tryz.sizeOf128
 v46:=Tryz.zeroValue128
 t51:=Tryz.underlying121
 a51:=Tryz.isAgg121
 z51:=Tryz.sizeOf121
 v51:=Tryz.zeroValue121
 t53:=Tryz.underlying116
 a53:=Tryz.isAgg116
 z53:=Tryz.sizeOf116
 v53:=Tryz.zeroValue116
 t171:=Tryz.underlying156
 a171:=Tryz.isAgg156
 z171:=Tryz.sizeOf156
 v171:=Tryz.zeroValue156
 t173:=Tryz.underlying159
 a173:=Tryz.isAgg159
 z173:=Tryz.sizeOf159
 v173:=Tryz.zeroValue159
 t212:=Tryz.underlying178
 a212:=Tryz.isAgg178
 z212:=Tryz.sizeOf178
 v212:=Tryz.zeroValue178
 t213:=Tryz.underlying179
 a213:=Tryz.isAgg179
 z213:=Tryz.sizeOf179
 t232:=Tryz.underlying202
 a232:=Tryz.isAgg202
 z232:=Tryz.sizeOf202
 v232:=Tryz.zeroValue202
 t233:=Tryz.underlying203
 a233:=Tryz.isAgg203
 z233:=Tryz.sizeOf203
 v233:=Tryz.zeroValue203
 g17:=by kernel_rfl
 g18:=by kernel_rfl
 g19:=by kernel_rfl
 i0:=by kernel_rfl
 i2:=by kernel_rfl
 i3:=by kernel_rfl
 i4:=by kernel_rfl
 i5:=by kernel_rfl
 i9:=by kernel_rfl
 i20:=by kernel_rfl
 i37:=by kernel_rfl
 i46:=by kernel_rfl
 i51:=by kernel_rfl
 i53:=by kernel_rfl
 i171:=by kernel_rfl
 i173:=by kernel_rfl
 i212:=by kernel_rfl
 i232:=by kernel_rfl
 i233:=by kernel_rfl
 m17:=by kernel_rfl
 m18:=by kernel_rfl
 m19:=by kernel_rfl }
open Go.RowKit Go.Sort Go.Lib in
theorem Tryz.strconv_Itoa (n:Int) (h0:-9223372036854775808<=n) (h1:n<=9223372036854775807) (w:World) (htab:Lib.TabIs Tryz.prog w "internal/strconv.uint64pow10" .u64 Lib.pow10Tab) :
  Calls Tryz.prog 50 #[.int .i64 n] w fun e w'=>e=.returned (.string ⟨(Lib.itoa n).toArray⟩)/\∃ k os,w'=grow (w.drewN k) os:=Any.strconv_Itoa Tryz.laysM171 n h0 h1 w htab
def Tryz.laysM173_ren:Go.Shelf.Ren:=⟨fun | 173=>89 | 246=>118 | 283=>137 | 284=>138 | 285=>139 | 286=>140 | 129=>162 | 317=>163 | 318=>164 | 319=>165 | 320=>166 | 337=>180 | 338=>181 | n=>n,fun | 2=>2 | 3=>3 | 9=>9 | 4=>4 | 171=>156 | 0=>0 | 53=>116 | 37=>138 | 5=>5 | 173=>159 | 212=>178 | 51=>121 | 20=>20 | 213=>179 | 46=>128 | 232=>202 | 233=>203 | n=>n,fun | 17=>0 | 18=>2 | 19=>3 | n=>n⟩
theorem Tryz.laysM173:Go.Proofs.LaysM.n173 Tryz.prog Tryz.laysM173_ren:={
 mixed:=by kernel_rfl
 f129:=Tryz.func162.trans (congrArg some (by kernel_rfl))
 f173:=Tryz.func89.trans (congrArg some (by kernel_rfl))
 f246:=Tryz.func118.trans (congrArg some (by kernel_rfl))
 f283:=Tryz.func137.trans (congrArg some (by kernel_rfl))
 f284:=Tryz.func138.trans (congrArg some (by kernel_rfl))
 f285:=Tryz.func139.trans (congrArg some (by kernel_rfl))
 f286:=Tryz.func140.trans (congrArg some (by kernel_rfl))
 f317:=Tryz.func163.trans (congrArg some (by kernel_rfl))
 f318:=Tryz.func164.trans (congrArg some (by kernel_rfl))
 f319:=Tryz.func165.trans (congrArg some (by kernel_rfl))
 f320:=Tryz.func166.trans (congrArg some (by kernel_rfl))
 f337:=Tryz.func180.trans (congrArg some (by kernel_rfl))
 f338:=Tryz.func181.trans (congrArg some (by kernel_rfl))
 t0:=Tryz.underlying0
 a0:=Tryz.isAgg0
 z0:=Tryz.sizeOf0
 v0:=Tryz.zeroValue0
 t2:=Tryz.underlying2
 a2:=Tryz.isAgg2
 z2:=Tryz.sizeOf2
 v2:=Tryz.zeroValue2
 t3:=Tryz.underlying3
 a3:=Tryz.isAgg3
 z3:=Tryz.sizeOf3
 v3:=Tryz.zeroValue3
 t4:=Tryz.underlying4
 a4:=Tryz.isAgg4
 z4:=Tryz.sizeOf4
 v4:=Tryz.zeroValue4
 t5:=Tryz.underlying5
 a5:=Tryz.isAgg5
 z5:=Tryz.sizeOf5
 v5:=Tryz.zeroValue5
 t9:=Tryz.underlying9
 a9:=Tryz.isAgg9
 z9:=Tryz.sizeOf9
 v9:=Tryz.zeroValue9
 t20:=Tryz.underlying20
 a20:=Tryz.isAgg20
 z20:=Tryz.sizeOf20
 v20:=Tryz.zeroValue20
 t37:=Tryz.underlying138
 a37:=Tryz.isAgg138
 z37:=Tryz.sizeOf138
 v37:=Tryz.zeroValue138
 t46:=Tryz.underlying128
 a46:=Tryz.isAgg128
 z46:=Tryz.sizeOf128
 v46:=Tryz.zeroValue128
 t51:=Tryz.underlying121
 a51:=Tryz.isAgg121
 z51:=Tryz.sizeOf121
 v51:=Tryz.zeroValue121
 t53:=Tryz.underlying116
 a53:=Tryz.isAgg116
 z53:=Tryz.sizeOf116
 v53:=Tryz.zeroValue116
 t171:=Tryz.underlying156
 a171:=Tryz.isAgg156
 z171:=Tryz.sizeOf156
 v171:=Tryz.zeroValue156
 t173:=Tryz.underlying159
 a173:=Tryz.isAgg159
 z173:=Tryz.sizeOf159
 v173:=Tryz.zeroValue159
 t212:=Tryz.underlying178
 a212:=Tryz.isAgg178
 z212:=Tryz.sizeOf178
 v212:=Tryz.zeroValue178
 t213:=Tryz.underlying179
 a213:=Tryz.isAgg179
 z213:=Tryz.sizeOf179
 t232:=Tryz.underlying202
 a232:=Tryz.isAgg202
 z232:=Tryz.sizeOf202
 v232:=Tryz.zeroValue202
 t233:=Tryz.underlying203
 a233:=Tryz.isAgg203
 z233:=Tryz.sizeOf203
 v233:=Tryz.zeroValue203
 g17:=by kernel_rfl
 g18:=by kernel_rfl
 g19:=by kernel_rfl
 i0:=by kernel_rfl
 i2:=by kernel_rfl
 i3:=by kernel_rfl
 i4:=by kernel_rfl
 i5:=by kernel_rfl
 i9:=by kernel_rfl
 i20:=by kernel_rfl
 i37:=by kernel_rfl
 i46:=by kernel_rfl
 i51:=by kernel_rfl
 i53:=by kernel_rfl
 i171:=by kernel_rfl
 i173:=by kernel_rfl
 i212:=by kernel_rfl
 i232:=by kernel_rfl
 i233:=by kernel_rfl
 m17:=by kernel_rfl
 m18:=by kernel_rfl
 m19:=by kernel_rfl }
open Go.RowKit Go.Sort Go.Lib in
theorem Tryz.strconv_FormatInt_10 (n:Int) (h0:-9223372036854775808<=n) (h1:n<=9223372036854775807) (w:World) (htab:Lib.TabIs Tryz.prog w "internal/strconv.uint64pow10" .u64 Lib.pow10Tab) :
  Calls Tryz.prog 89 #[.int .i64 n,.int .i64 10] w fun e w'=>e=.returned (.string ⟨(Lib.itoa n).toArray⟩)/\∃ k os,w'=grow (w.drewN k) os:=Any.strconv_FormatInt_10 Tryz.laysM173 n h0 h1 w htab
def Tryz.laysGw17_ren:Go.Shelf.Ren:=⟨fun | 17=>87 | 15=>117 | 20=>136 | n=>n,fun | 9=>9 | 23=>111 | 4=>4 | 3=>3 | 0=>0 | 21=>21 | n=>n,fun | n=>n⟩
theorem Tryz.laysGw17:Go.Proofs.LaysGw.n17 Tryz.prog Tryz.laysGw17_ren:={
 mixed:=by kernel_rfl
 f15:=Tryz.func117.trans (congrArg some (by kernel_rfl))
 f17:=Tryz.func87.trans (congrArg some (by kernel_rfl))
 f20:=Tryz.func136.trans (congrArg some (by kernel_rfl))
 t0:=Tryz.underlying0
 a0:=Tryz.isAgg0
 z0:=Tryz.sizeOf0
 v0:=Tryz.zeroValue0
 i0:=by kernel_rfl
 t3:=Tryz.underlying3
 a3:=Tryz.isAgg3
 z3:=Tryz.sizeOf3
 v3:=Tryz.zeroValue3
 i3:=by kernel_rfl
 t4:=Tryz.underlying4
 a4:=Tryz.isAgg4
 z4:=Tryz.sizeOf4
 v4:=Tryz.zeroValue4
 i4:=by kernel_rfl
 t9:=Tryz.underlying9
 a9:=Tryz.isAgg9
 z9:=Tryz.sizeOf9
 v9:=Tryz.zeroValue9
 i9:=by kernel_rfl
 t21:=Tryz.underlying21
 a21:=Tryz.isAgg21
 z21:=Tryz.sizeOf21
 v21:=Tryz.zeroValue21
 i21:=by kernel_rfl
 t23:=Tryz.underlying111
 a23:=Tryz.isAgg111
 z23:=Tryz.sizeOf111
 v23:=Tryz.zeroValue111
 i23:=by kernel_rfl }
open Go.RowKit Go.Lib in
theorem Tryz.strings_ContainsFunc (g:Nat) (lb:Array Value) (eg:∀ args w,(callFunc g args).run Tryz.prog w=.ok (.enter g args) w) (p:Nat->Bool) (s:ByteArray) (w:World) (hp:PredAt Tryz.prog g lb encR p w) :
  Calls Tryz.prog 87 #[.string s,.func (.func g) #[] lb] w fun e w'=>e=.returned (.bool (decide (0<=Lib.idxFunc p true s)))/\Below w.heap.size w w':=Any.strings_ContainsFunc Tryz.laysGw17 g lb eg p s w hp
def Tryz.laysSlH8_f84_ren:Go.Shelf.Ren:=⟨fun | 8=>84 | 6=>116 | n=>n,fun | 22=>71 | 23=>2 | 25=>80 | 4=>4 | 3=>3 | 0=>0 | n=>n,fun | n=>n⟩
theorem Tryz.laysSlH8_f84:Go.Proofs.SlLaysH.n8 Tryz.prog Tryz.laysSlH8_f84_ren:={
 mixed:=by kernel_rfl
 f6:=⟨Tryz.f116.name,by decide,Tryz.func116.trans (congrArg some (by kernel_rfl))⟩
 f8:=⟨Tryz.f84.name,by decide,Tryz.func84.trans (congrArg some (by kernel_rfl))⟩
 t0:=Tryz.underlying0
 a0:=Tryz.isAgg0
 z0:=Tryz.sizeOf0
 v0:=Tryz.zeroValue0
 t3:=Tryz.underlying3
 a3:=Tryz.isAgg3
 z3:=Tryz.sizeOf3
 v3:=Tryz.zeroValue3
 t4:=Tryz.underlying4
 a4:=Tryz.isAgg4
 z4:=Tryz.sizeOf4
 v4:=Tryz.zeroValue4
 t22:=Tryz.underlying71
 a22:=Tryz.isAgg71
 z22:=Tryz.sizeOf71
 v22:=Tryz.zeroValue71
 a23:=Tryz.isAgg2
 z23:=Tryz.sizeOf2
 t25:=Tryz.underlying80
 a25:=Tryz.isAgg80
 z25:=Tryz.sizeOf80
 v25:=Tryz.zeroValue80 }
open Go.RowKit Go.Lib in
theorem Tryz.slices_ContainsFunc {α:Type} [Inhabited α] (enc:α->Value) (p:α->Bool) (g:Nat) (lb:Array Value) (eg:∀ args w,(callFunc g args).run Tryz.prog w=.ok (.enter g args) w) (b off n c:Nat) (zs:List α) (w:World) (hp:PredAt Tryz.prog g lb enc p w) (hz:n<=zs.length) (hbig:n<=9223372036854775807) (hc:∀ j,j<zs.length->w.cell? ⟨b,off+j,none⟩=some (enc zs[j]!)) :
  Calls Tryz.prog 84 #[.slice (some ⟨b,off,none⟩) n c,.func (.func g) #[] lb] w fun e w'=>e=.returned (.bool ((zs.take n).any p))/\∃ q,w'=w.drewN q:=AnyE.slices_ContainsFunc Tryz.laysSlH8_f84 enc p g lb eg b off n c zs w hp hz hbig hc
def Tryz.laysRow8_ren:Go.Shelf.Ren:=⟨fun | 8=>44 | 6=>86 | n=>n,fun | 22=>23 | 23=>75 | 25=>79 | 4=>4 | 3=>3 | 0=>0 | n=>n,fun | n=>n⟩
theorem Tryz.laysRow8:Go.Proofs.SlLaysH0.n8 Tryz.prog Tryz.laysRow8_ren:={
 mixed:=by kernel_rfl
 f6:=⟨Tryz.f86.name,by decide,Tryz.func86.trans (congrArg some (by kernel_rfl))⟩
 f8:=⟨Tryz.f44.name,by decide,Tryz.func44.trans (congrArg some (by kernel_rfl))⟩
 t0:=Tryz.underlying0
 a0:=Tryz.isAgg0
 z0:=Tryz.sizeOf0
 v0:=Tryz.zeroValue0
 t3:=Tryz.underlying3
 a3:=Tryz.isAgg3
 z3:=Tryz.sizeOf3
 v3:=Tryz.zeroValue3
 t4:=Tryz.underlying4
 a4:=Tryz.isAgg4
 z4:=Tryz.sizeOf4
 v4:=Tryz.zeroValue4
 t22:=Tryz.underlying23
 a22:=Tryz.isAgg23
 z22:=Tryz.sizeOf23
 v22:=Tryz.zeroValue23
 t25:=Tryz.underlying79
 a25:=Tryz.isAgg79
 z25:=Tryz.sizeOf79
 v25:=Tryz.zeroValue79 }
end Go.Proofs
namespace Go.Proofs.YtglepbhkilbbcaaGreatDoor
open Go.RowKit Go.MapKept
open Go.ChangeMaps (setBlock)
open Go.RowKit Go.MapKept Go.Lib
theorem Below.ext {w w':World} (h:Below w.heap.size w w'):XF w w':=⟨h.os,h.tape,h.output,h.size,fun k hk _=>h.block k hk⟩
theorem limited1_pred (w:World):PredAt Tryz.prog 85 #[] (fun z:Int=>Value.int .i64 z) (fun z=>!limB z) w:=fun W z _=>by
 unfold FnGives limB
 by_cases h1:z < -1099511627776
 ·go_enter Tryz.func85,Tryz.ntmps85
  go_wp2
  go_ret
  exact ⟨ret_bool (by first | rfl | (simp; done) | (simp; omega) | omega),0,rfl⟩
 ·by_cases h2:1099511627776<z
  ·go_enter Tryz.func85,Tryz.ntmps85
   go_wp2
   go_ret
   exact ⟨ret_bool (by first | rfl | (simp; done) | (simp; omega) | omega),0,rfl⟩
  ·go_enter Tryz.func85,Tryz.ntmps85
   go_wp2
   go_ret
   exact ⟨ret_bool (by first | rfl | (simp; done) | (simp; omega) | omega),0,rfl⟩
theorem any_not_all {α:Type} (f:α->Bool):∀ l:List α,(!l.any fun z=>!f z)=l.all f
 | []=>rfl
 | a :: l=>by
  rw [List.any_cons,List.all_cons,<- any_not_all f l]
  cases f a <;> cases (l.any fun z=>!f z) <;> rfl
theorem limited_any (w:World) (b off c:Nat) (l:List Int) (hl:l.length<=9223372036854775807) (hc:∀ j z,l[j]?=some z->w.cell? ⟨b,off+j,none⟩=some (.int .i64 z)) :
  Calls Tryz.prog 43 #[.slice (some ⟨b,off,none⟩) l.length c] w (BoolPost w (l.all limB)):=by
 have hq:=Tryz.slices_ContainsFunc (fun z:Int=>Value.int .i64 z) (fun z=>!limB z) 85 #[] (enters_of Tryz.func85 (by kernel_rfl) rfl) b off l.length c l w (limited1_pred w) (Nat.le_refl _) hl (fun j hj=>(by
  rw [getElem!_pos l j hj]
  exact hc j _ (List.getElem?_eq_getElem hj)))
 rw [List.take_length] at hq
 have ha:=any_not_all limB l
 generalize (l.any fun z=>!limB z)=x at *
 have HQ:=bH hq
 have HA:=bH ha
 clear hq ha hc
 generalize l.all limB=y at *
 generalize l.length=n at *
 go_enter Tryz.func43,Tryz.ntmps43
 go_wp2_with (go_at_call 84; refine HQ.out.mono ?_; rintro e w' ⟨rfl,q,rfl⟩)
 go_ret
 exact ⟨ret_bool HA.out,(Ext.refl _ w).drewN q⟩
theorem name1_pred (w:World):PredAt Tryz.prog 88 #[] encR (fun r=>decide (r<32) || decide (126<r)) w:=fun W z _=>by
 unfold FnGives
 show Calls Tryz.prog 88 #[.int .i32 (z:Int)] W _
 by_cases h1:z<32
 ·have h1':(z:Int)<32:=by omega
  go_enter Tryz.func88,Tryz.ntmps88
  go_wp2
  go_ret
  exact ⟨ret_bool (by first | rfl | (simp; done) | (simp; omega) | omega),0,rfl⟩
 ·have h1':¬ (z:Int)<32:=by omega
  by_cases h2:126<z
  ·have h2':(126:Int)<z:=by omega
   go_enter Tryz.func88,Tryz.ntmps88
   go_wp2
   go_ret
   exact ⟨ret_bool (by first | rfl | (simp; done) | (simp; omega) | omega),0,rfl⟩
  ·have h2':¬ (126:Int)<z:=by omega
   go_enter Tryz.func88,Tryz.ntmps88
   go_wp2
   go_ret
   exact ⟨ret_bool (by first | rfl | (simp; done) | (simp; omega) | omega),0,rfl⟩
def badR (r:Nat):Bool:=decide (r<32) || decide (126<r)
theorem idx_bad (s:ByteArray):∀ (f pos:Nat),s.size<=pos+f->(0<=idxFuncFrom badR true s f pos↔∃ i,pos<=i/\∃ h:i<s.size,badR (s[i]'h).toNat=true)
 | 0,pos,h=>by
  unfold idxFuncFrom
  constructor
  ·intro h1; omega
  ·rintro ⟨i,h1,h2,_⟩; omega
 | f+1,pos,h=>by
  unfold idxFuncFrom
  by_cases hp:pos<s.size
  ·rw [if_pos hp]
   by_cases ha:(s[pos]'hp).toNat<128
   ·rw [decode_ascii s pos hp ha]
    by_cases hb:badR (s[pos]'hp).toNat=true
    ·rw [if_pos hb]
     exact ⟨fun _=>⟨pos,Nat.le_refl _,hp,hb⟩,fun _=>by omega⟩
    ·rw [if_neg hb,idx_bad s f (pos+1) (by omega)]
     constructor
     ·rintro ⟨i,h1,h2⟩; exact ⟨i,by omega,h2⟩
     ·rintro ⟨i,h1,h2,h3⟩
      refine ⟨i,?_,h2,h3⟩
      rcases Nat.lt_or_ge pos i with h4 | h4
      ·omega
      ·obtain rfl:i=pos:=by omega
       exact absurd h3 hb
   ·have hd:=(decode_high s pos hp (by omega)).1
    have hb:badR (Utf8.decode s pos).1=true:=by unfold badR; rw [decide_eq_true (p:=(126<_)) (by omega)]; simp
    rw [if_pos hb]
    refine ⟨fun _=>⟨pos,Nat.le_refl _,hp,?_⟩,fun _=>by omega⟩
    unfold badR
    rw [decide_eq_true (p:=(126<(s[pos]'hp).toNat)) (by omega)]; simp
  ·rw [if_neg hp]
   constructor
   ·intro h1; omega
   ·rintro ⟨i,h1,h2,_⟩; omega
theorem name_idx (s:ByteArray):(!decide (0<=idxFunc badR true s))=nameB s:=by
 have h:=idx_bad s s.size 0 (by omega)
 have hl:s.toList=s.data.toList:=ByteArray.toList_eq s
 cases hq:nameB s with
 | true =>
  rw [decide_eq_false]; rfl
  intro h0
  obtain ⟨i,_,hi,hb⟩:=h.1 h0
  unfold nameB at hq
  rw [hl,List.all_eq_true] at hq
  have:=hq (s[i]'hi) (by
   show s.data[i] ∈ s.data.toList
   simp)
  unfold badR at hb
  simp only [Bool.and_eq_true,Bool.or_eq_true,decide_eq_true_eq] at this hb
  omega
 | false =>
  rw [decide_eq_true]; rfl
  refine h.2 ?_
  unfold nameB at hq
  rw [hl,List.all_eq_false] at hq
  obtain ⟨x,hx,hb⟩:=hq
  obtain ⟨i,hi,rfl⟩:=List.getElem_of_mem hx
  have hi':i<s.size:=by rw [Array.length_toList] at hi; exact hi
  refine ⟨i,Nat.zero_le _,hi',?_⟩
  unfold badR
  simp only [Bool.and_eq_true,decide_eq_true_eq,Bool.or_eq_true] at hb ⊢
  have e:s[i]'hi'=s.data.toList[i]:=by
   show s.data[i]=_
   rw [Array.getElem_toList]
  rw [e]
  omega
def Tab10 (w:World):Prop:=Lib.TabIs Tryz.prog w "internal/strconv.uint64pow10" .u64 Lib.pow10Tab
theorem Tab10.keep {w w':World} (h:Tab10 w) (hx:XF w w'):Tab10 w':=by
 unfold Tab10 Lib.TabIs World.var? at h ⊢
 cases hg:Tryz.prog.globalNamed "internal/strconv.uint64pow10" with
 | none=>rw [hg] at h; cases h
 | some g =>
  rw [hg] at h
  simp only [Option.bind_some] at h ⊢
  have hlt:g<w.heap.size:=by
   rcases Nat.lt_or_ge g w.heap.size with h' | h'
   ·exact h'
   ·rw [Array.getElem?_eq_none h'] at h; cases h
  rw [hx.block g hlt id]
  exact h
theorem ext_grow (w:World) (k:Nat) (os:Array Obj):XF w (Go.Sort.grow (w.drewN k) os):=by
 have h1:XF w (w.drewN k):=Ext.drewN (Ext.refl _ w) k
 refine h1.trans ⟨rfl,rfl,rfl,?_,fun i hi _=>?_⟩
 ·show _<=((w.drewN k).heap++os).size
  rw [Array.size_append]; omega
 ·show ((w.drewN k).heap++os)[i]?=_
  rw [Array.getElem?_append_left hi]
def numT (n:Int):ByteArray:=⟨(Lib.itoa n).toArray⟩
def StrPost (w:World) (s:ByteArray) (r:Ending) (w':World):Prop:=r=.returned (.string s)/\XF w w'
theorem numT_size {n:Int} (h:InR n):(numT n).size<=21:=Lib.itoa_length_le n h.1 h.2
theorem itoa_any (w:World) (n:Int) (hn:InR n) (ht:Tab10 w):Calls Tryz.prog 50 #[.int .i64 n] w (StrPost w (numT n)) :=
 (Tryz.strconv_Itoa n hn.1 hn.2 w ht).mono fun r w' ⟨h1,k,os,h2⟩=>⟨h1,by rw [h2]; exact ext_grow w k os⟩
theorem number_any (w:World) (n:Int) (hn:InR n) (ht:Tab10 w):Calls Tryz.prog 49 #[.int .i64 n] w (StrPost w (numT n)):=by
 have HF:=bH (Tryz.strconv_FormatInt_10 n hn.1 hn.2 w ht)
 clear hn ht
 go_enter Tryz.func49,Tryz.ntmps49
 go_wp2_with (go_at_call 89; refine HF.out.mono ?_; rintro r1 w1 ⟨rfl,k,os,rfl⟩)
 go_ret
 exact ⟨rfl,ext_grow w k os⟩
end Go.Proofs.YtglepbhkilbbcaaGreatDoor
namespace Go.Proofs
open Go.Shelf
def Tryz.lays156_ren:Go.Shelf.Ren:=⟨fun | 156=>91 | 165=>119 | 166=>120 | 169=>121 | 240=>141 | 241=>142 | 276=>167 | 277=>168 | n=>n,fun | 31=>30 | 9=>9 | 3=>3 | 4=>4 | 0=>0 | 20=>20 | 72=>140 | 76=>144 | 70=>137 | 37=>138 | 75=>143 | 127=>161 | 164=>180 | 5=>5 | 80=>146 | n=>n,fun | n=>n⟩
theorem Tryz.lays156:Go.Proofs.Lays.n156 Tryz.prog Tryz.lays156_ren:={
 mixed:=by kernel_rfl
 f156:=Tryz.func91.trans (congrArg some (by kernel_rfl))
 f165:=Tryz.func119.trans (congrArg some (by kernel_rfl))
 f166:=Tryz.func120.trans (congrArg some (by kernel_rfl))
 f169:=Tryz.func121.trans (congrArg some (by kernel_rfl))
 f240:=Tryz.func141.trans (congrArg some (by kernel_rfl))
 f241:=Tryz.func142.trans (congrArg some (by kernel_rfl))
 f276:=Tryz.func167.trans (congrArg some (by kernel_rfl))
 f277:=Tryz.func168.trans (congrArg some (by kernel_rfl))
 t0:=Tryz.underlying0
 a0:=Tryz.isAgg0
 z0:=Tryz.sizeOf0
 v0:=Tryz.zeroValue0
 t3:=Tryz.underlying3
 a3:=Tryz.isAgg3
 z3:=Tryz.sizeOf3
 v3:=Tryz.zeroValue3
 t4:=Tryz.underlying4
 a4:=Tryz.isAgg4
 z4:=Tryz.sizeOf4
 v4:=Tryz.zeroValue4
 t9:=Tryz.underlying9
 a9:=Tryz.isAgg9
 z9:=Tryz.sizeOf9
 v9:=Tryz.zeroValue9
 t20:=Tryz.underlying20
 a20:=Tryz.isAgg20
 z20:=Tryz.sizeOf20
 v20:=Tryz.zeroValue20
 t31:=Tryz.underlying30
 a31:=Tryz.isAgg30
 z31:=Tryz.sizeOf30
 v31:=Tryz.zeroValue30
 t37:=Tryz.underlying138
 a37:=Tryz.isAgg138
 z37:=Tryz.sizeOf138
 v37:=Tryz.zeroValue138
 t70:=Tryz.underlying137
 a70:=Tryz.isAgg137
 z70:=Tryz.sizeOf137
 v70:=Tryz.zeroValue137
 t72:=Tryz.underlying140
 a72:=Tryz.isAgg140
 z72:=Tryz.sizeOf140
 v72:=Tryz.zeroValue140
 t75:=Tryz.underlying143
 a75:=Tryz.isAgg143
 z75:=Tryz.sizeOf143
 v75:=Tryz.zeroValue143
 t76:=Tryz.underlying144
 a76:=Tryz.isAgg144
 z76:=Tryz.sizeOf144
 v76:=Tryz.zeroValue144
 t127:=Tryz.underlying161
 a127:=Tryz.isAgg161
 z127:=Tryz.sizeOf161
 v127:=Tryz.zeroValue161
 t164:=Tryz.underlying180
 a164:=Tryz.isAgg180
 z164:=Tryz.sizeOf180
 v164:=Tryz.zeroValue180 }
theorem Tryz.Builder_Extra_156:Builder.Extra Tryz.prog Tryz.lays156_ren:={
 sizeBuilder:=by kernel_rfl
 liesBuilder:=by kernel_rfl
 t5:=Tryz.underlying5
 a5:=Tryz.isAgg5
 z5:=Tryz.sizeOf5
 v5:=Tryz.zeroValue5
 infoByte:=by kernel_rfl
 cellsByte:=by kernel_rfl
 sizeByte:=by kernel_rfl
 neB5:=by decide }
open Go.RowKit in
theorem Tryz.strings_Join (bk o c:Nat) (xs:List ByteArray) (sep:ByteArray) (w:World) (hcells:∀ (j:Nat) x,xs[j]?=some x->w.cell? ⟨bk,o+j,none⟩=some (.string x)) (hbk:bk<w.heap.size) (hN:xs.length<=140737488355328) (hcap:xs.length<=c) (hlen:(Lib.join (xs.map (·.data.toList)) sep.data.toList).length<=140737488355328) :
  Calls Tryz.prog 91 #[.slice (some ⟨bk,o,none⟩) xs.length c,.string sep] w fun e w'=>e=.returned (.string ⟨(Lib.join (xs.map (·.data.toList)) sep.data.toList).toArray⟩)/\Below w.heap.size w w':=Any.strings_Join Tryz.lays156 Tryz.Builder_Extra_156 bk o c xs sep w hcells hbk hN hcap hlen
end Go.Proofs
namespace Go.Proofs.YtglepbhkilbbcaaGreatDoor
open Go.RowKit Go.MapKept
open Go.ChangeMaps (setBlock)
theorem Tryz.infoString:(Tryz.prog.info? 9).map (fun i=>(i.zero,i.size,i.bytes))=some (some (.string ⟨#[]⟩),1,16):=by kernel_rfl
def cS (s:ByteArray):List Value:=[.string s]
def SRow (w:World) (base:Nat) (v:Value) (l:List ByteArray):Prop:=w.ownsRow base 9 1 v l.length (l.map Value.string)
theorem SRow.keep {w w':World} {base:Nat} {v:Value} {l:List ByteArray} (h:SRow w base v l) (hx:XF w w'):SRow w' base v l:=ownsRow_ext h hx (fun _ _ e=>e)
theorem wpList_appS {w:World} {ops:Array Oper} {rest:List Oper} {o:Oper} {a:Act} {Q:Exit->Act->World->Prop} (hgd:o.guard=none) (s x:Operand)
  (ho:o.op=.call { callee:=.builtin .append,args:=#[s,x],argTypes:=#[30,30] }) (base:Nat) (v:Value) (l:List ByteArray) (hs:a.eval s=v) (hown:SRow w base v l) (y:ByteArray) {b:Nat} {c:Nat} (hx:a.eval x=.slice (some ⟨b,0,none⟩) 1 c) (hc:w.cell? ⟨b,0,none⟩=some (.string y)) (hl:l.length<=100000) (hbase:base<=w.heap.size)
  (h:∀ v' w',SRow w' base v' (l++[y])->Ext (fun k=>v.ownBlock=some k) w w'->wpList Tryz.prog ops Q rest (a.put o.dst v') w') :
  wpList Tryz.prog ops Q (o :: rest) a w:=by
 obtain ⟨i0,hi0,hz0,hz1,hz2⟩:=info_parts Tryz.infoString
 refine wpList_append_any hgd s x 30 ho base 9 i0 _ 1 16 Tryz.underlying30 hi0 hz0 hz1 hz2 rfl (by decide) v l.length (l.map Value.string) hs hown (some ⟨b,0,none⟩) 1 c (fun e=>by cases e) [.string y] hx rfl (.inr ⟨_,rfl,fun j u hu=>?_⟩) (fun u hu=>by simp at hu; subst hu; rfl) (by unfold maxLen; omega) (by omega) hbase (fun v' w' g1 g2 g3=>h v' w' ?_ ?_)
 ·match j,hu with
  | 0,hu =>
   cases hu
   rw [Addr.add_lit]
   exact hc
  | j+1,hu=>simp at hu
 ·unfold SRow
  rw [List.length_append,List.map_append]
  exact g1
 ·exact (Ext.refl (fun k=>v.ownBlock=some k) w).grown g2 (fun k hk _=>hk)
theorem SRow.cells {w:World} {base:Nat} {v:Value} {l:List ByteArray} (h:SRow w base v l) (h0:0<l.length):∃ b c,v=.slice (some ⟨b,0,none⟩) l.length c/\l.length<=c/\b<w.heap.size/\base<=b/\∀ (j:Nat) x,l[j]?=some x->w.cell? ⟨b,j,none⟩=some (.string x):=by
 rcases h.2 with ⟨_,e⟩ | ⟨g,cap,cur,rfl,k1,k2,k3,k4,k5,k6⟩
 ·omega
 ·refine ⟨g,cap,rfl,k3,blk_lt k2,k1,fun j x hx=>?_⟩
  have hj:j<l.length:=(List.getElem?_eq_some_iff.1 hx).1
  rw [cell_of_cells k2,<- Array.getElem?_toList]
  have h2:(cur.toList.take (l.length*1))[j]?=some (.string x):=by
   rw [k6,List.getElem?_map,hx]; rfl
  rw [List.getElem?_take_of_lt (by omega)] at h2
  exact h2
def xT (t:TermV):ByteArray:=⟨#[120]⟩++numT t.var
def absI (n:Int):Int:=if n<0 then -n else n
def yT (t:TermV):ByteArray:=if absI t.coef=1 then xT t else numT (absI t.coef)++⟨#[32]⟩++xT t
def termT (i:Nat) (t:TermV):ByteArray:=if i=0 then (if t.coef<0 then ⟨#[45]⟩++yT t else yT t) else if t.coef<0 then ⟨#[45,32]⟩++yT t else ⟨#[43,32]⟩++yT t
def partsT (ts:List TermV) (k:Nat):List ByteArray:=(List.range k).map fun i=>termT i (ts.getD i term0)
def termsT (ts:List TermV):ByteArray:=if ts=[] then ⟨#[48]⟩ else ⟨(Lib.join ((partsT ts ts.length).map (·.data.toList)) [32]).toArray⟩
theorem partsT_len (ts:List TermV) (k:Nat):(partsT ts k).length=k:=by simp [partsT]
theorem partsT_next (ts:List TermV) (k:Nat):partsT ts (k+1)=partsT ts k++[termT k (ts.getD k term0)]:=by
 unfold partsT
 rw [List.range_succ,List.map_append]; rfl
theorem app_size (a b:ByteArray):(a++b).size=a.size+b.size:=ByteArray.size_append
theorem absI_in {n:Int} (h:limB n=true):InR (absI n)/\absI n<=1099511627776/\0<=absI n:=by
 unfold limB at h
 simp only [Bool.and_eq_true,decide_eq_true_eq] at h
 unfold absI InR
 split <;> omega
theorem termT_size {i:Nat} {t:TermV} (hv:InR t.var) (hc:limB t.coef=true):(termT i t).size<=50:=by
 have h1:=numT_size hv
 have h2:=numT_size (absI_in hc).1
 have hx:(xT t).size<=22:=by unfold xT; rw [app_size]; show 1+_<=_; omega
 have hy:(yT t).size<=44:=by
  unfold yT
  split
  ·omega
  ·rw [app_size,app_size]; show _+1+_<=_; omega
 unfold termT
 split <;> split <;> first | omega | (rw [app_size]; show 1+_<=_; omega) | (rw [app_size]; show 2+_<=_; omega)
theorem join_le {l:List (List UInt8)} {c:Nat}:(∀ x ∈ l,x.length<=c)->(Lib.join l [32]).length<=l.length*(c+1):=by
 intro h
 cases l with
 | nil=>simp [Lib.join]
 | cons x r =>
  have hl:∀ l:List (List UInt8),(∀ x ∈ l,x.length<=c)->Lib.lens l<=l.length*c:=by
   intro l
   induction l with
   | nil=>intro _; simp [Lib.lens]
   | cons y l ih =>
    intro hy
    have h1:=ih fun x hx=>hy x (List.mem_cons_of_mem _ hx)
    have h2:=hy y (List.mem_cons_self ..)
    simp only [Lib.lens,List.map_cons,List.sum_cons,List.length_cons] at h1 ⊢
    rw [Nat.succ_mul]; omega
  have h1:=hl (x :: r) h
  rw [Lib.join_length]
  have h2:(x :: r).length=r.length+1:=rfl
  generalize Lib.lens (x :: r)=z at *
  rw [h2] at h1 ⊢
  rw [Nat.mul_succ]
  show 1*r.length+_<=_
  omega
open Go.RowKit Go.MapKept Go.Lib
theorem limited_one (w:World) (z:Int) (c:Nat):Calls Tryz.prog 43 #[.slice (some ⟨w.heap.size,0,none⟩) 1 c] (w.alloc (.cells #[.int .i64 z] 2)) (BoolPost (w.alloc (.cells #[.int .i64 z] 2)) (limB z)):=by
 have h:=limited_any (w.alloc (.cells #[.int .i64 z] 2)) w.heap.size 0 c [z] (by simp) (fun j u hj=>by
  have:=cells_new (w:=w) [Value.int .i64 z] 2 rfl j (.int .i64 u) (by
   match j,hj with
   | 0,hj=>cases hj; rfl
   | j+1,hj=>simp at hj)
  simpa [Addr.add_lit] using this)
 simpa using h
theorem name_any (w:World) (s:ByteArray):Calls Tryz.prog 87 #[.string s,.func (.func 88) #[] #[]] w fun r w'=>r=.returned (.bool (!nameB s))/\XF w w':=by
 refine (Tryz.strings_ContainsFunc 88 #[] (enters_of Tryz.func88 (by kernel_rfl) rfl) _ s w (name1_pred w)).mono ?_
 rintro r w' ⟨rfl,hb⟩
 refine ⟨ret_bool ?_,Below.ext hb⟩
 have:=name_idx s
 unfold badR at this
 rw [<- this,Bool.not_not]
theorem termsB_cons (n last:Int) (t:TermV) (l:List TermV):termsB n last (t :: l)=(decide (last<t.var) && decide (t.var<n) && !decide (t.coef=0) && limB t.coef && termsB n t.var l):=rfl
theorem validRow_any (w:World) (vars:Nat) (hv:vars<=9223372036854775807) (r:RowV) (ta:Option Addr) (tc:Nat) (hok:RowOk r) (ht:Tms w (.slice ta r.terms.length tc) r.terms) :
  Calls Tryz.prog 46 #[.int .i64 vars,.agg #[.string r.name,.int .i64 r.group,.int .i64 r.kind,.slice ta r.terms.length tc,.int .i64 r.bound]] w (BoolPost w (rowB vars r)):=by
 have hns:r.name.size<=9223372036854775807:=by have:=hok.name; unfold maxLen at this; omega
 have hg:=hok.group
 have hk:=hok.kind
 unfold InR at hg hk
 obtain ⟨-,-,-,-,htn,-⟩:=ht.shape
 have HT:=bH ht
 have HR:=bH (show rowB vars r=(decide (0<=r.kind) && decide (r.kind<=2) && decide (0<=r.group) && decide (r.group<=60) && decide (r.name.size<=80) && limB r.bound && nameB r.name && termsB vars (-1) r.terms) from rfl)
 have hb1:=blk_alloc_at w (.cells #[.string r.name,.int .i64 r.group,.int .i64 r.kind,.slice ta r.terms.length tc,.int .i64 r.bound] 75)
 have hx1:=(Ext.refl (fun _=>False) w).alloc (.cells #[.string r.name,.int .i64 r.group,.int .i64 r.kind,.slice ta r.terms.length tc,.int .i64 r.bound] 75)
 have HB:=bH (bI hb1 hx1)
 clear ht hok hb1 hx1
 obtain ⟨tl,htl⟩:∃ tl,r.terms.length=tl:=⟨_,rfl⟩
 have HTL:=bH htl
 rw [htl] at htn HT HB ⊢
 clear htl
 obtain ⟨gr,hgr⟩:∃ gr,r.group=gr:=⟨_,rfl⟩
 rw [hgr] at hg HR HB ⊢
 clear hgr
 obtain ⟨kd,hkd⟩:∃ kd,r.kind=kd:=⟨_,rfl⟩
 rw [hkd] at hk HR HB ⊢
 clear hkd
 obtain ⟨bd,hbd⟩:∃ bd,r.bound=bd:=⟨_,rfl⟩
 rw [hbd] at HR HB ⊢
 clear hbd
 obtain ⟨nm,hnm⟩:∃ nm,r.name=nm:=⟨_,rfl⟩
 rw [hnm] at hns HR HB ⊢
 clear hnm
 go_enter Tryz.func46,Tryz.ntmps46
 go_upto_region 1 with fail
 generalize hw1:w.alloc (.cells #[.string nm,.int .i64 gr,.int .i64 kd,.slice ta tl tc,.int .i64 bd] 75)=w1 at *
 clear hw1
 obtain ⟨rb,hrb⟩:∃ rb,w.heap.size=rb:=⟨_,rfl⟩
 rw [hrb] at HB ⊢
 clear hrb
 have e0:=cellq HB.out.1 0 rfl
 have e1:=cellq HB.out.1 1 rfl
 have e2:=cellq HB.out.1 2 rfl
 have e3:=cellq HB.out.1 3 rfl
 have e4:=cellq HB.out.1 4 rfl
 by_cases c1:80<nm.size
 ·have c1':(80:Int)<(nm.size:Int):=by omega
  go_wp2
  go_ret
  exact ⟨ret_bool (by rw [HR.out,decide_eq_false (p:=(nm.size<=80)) (by omega)]; simp),HB.out.2⟩
 have c1':¬ (80:Int)<(nm.size:Int):=by omega
 by_cases c2:gr<0
 ·go_wp2
  go_ret
  exact ⟨ret_bool (by rw [HR.out,decide_eq_false (p:=(0<=gr)) (by omega)]; simp),HB.out.2⟩
 by_cases c3:60<gr
 ·go_wp2
  go_ret
  exact ⟨ret_bool (by rw [HR.out,decide_eq_false (p:=(gr<=60)) (by omega)]; simp),HB.out.2⟩
 by_cases c4:kd<0
 ·go_wp2
  go_ret
  exact ⟨ret_bool (by rw [HR.out,decide_eq_false (p:=(0<=kd)) (by omega)]; simp),HB.out.2⟩
 by_cases c5:2<kd
 ·go_wp2
  go_ret
  exact ⟨ret_bool (by rw [HR.out,decide_eq_false (p:=(kd<=2)) (by omega)]; simp),HB.out.2⟩
 have HL:=bH (fun W (z:Int) c=>limited_one W z c)
 have HN:=bH (fun W=>name_any W nm)
 have HR2:Hid (rowB vars r=(limB bd && nameB nm && termsB vars (-1) r.terms)):=bH (by
  rw [HR.out,decide_eq_true (p:=(0<=kd)) (by omega),decide_eq_true (p:=(kd<=2)) (by omega),decide_eq_true (p:=(0<=gr)) (by omega),decide_eq_true (p:=(gr<=60)) (by omega),decide_eq_true (p:=(nm.size<=80)) (by omega)]
  simp)
 clear HR
 go_wp2_with fail
 refine (HL.out w1 bd _).mono ?_
 rintro r2 w2 ⟨rfl,hx2⟩
 have hx12:=((Ext.refl (fun _=>False) w1).alloc (.cells #[.int .i64 bd] 2)).trans hx2
 have HB2:=bH (bI (blk_keep HB.out.1 hx12) (HB.out.2.trans hx12))
 clear hx2 hx12 HB e0 e1 e2 e3 e4
 cases hlb:limB bd with
 | false =>
  rw [hlb] at HR2
  clear hlb
  go_wp2
  go_ret
  exact ⟨ret_bool (by rw [HR2.out]; rfl),HB2.out.2⟩
 | true =>
  rw [hlb] at HR2
  clear hlb
  have e3:=cellq HB2.out.1 3 rfl
  go_wp2_with fail
  go_loopg [42,5] tl (fun gg v42 v5 wr=>∃ (k:Nat) (la:Int),k<=tl/\gg=tl - k/\v42=.int .i64 k/\v5=.int .i64 la∧-9223372036854775808<=la/\la<=9223372036854775807/\termsB vars (-1) r.terms=termsB vars la (r.terms.drop k)/\XF w2 wr)
  case atStart=>exact ⟨0,-1,Nat.zero_le _,rfl,rfl,rfl,by omega,by omega,rfl,Ext.refl _ _⟩
  case round =>
   clear e3
   obtain ⟨k,la,hk,rfl,rfl,rfl,hla0,hla1,heq,hx⟩:=hrel
   have HX:=bH (bI heq hx)
   clear heq hx
   by_cases hin:k<tl
   ·have i0:(k:Int)<(tl:Int):=by omega
    have hkl:k<r.terms.length:=by rw [HTL.out]; exact hin
    have hdr:r.terms.drop k=r.t k :: r.terms.drop (k+1):=by
     rw [List.drop_eq_getElem_cons hkl,r.t_at hkl]
    have HD:=bH (HX.out.1.trans (by rw [hdr,termsB_cons]))
    obtain ⟨b,off,rfl,-,e0,e1,htok⟩:=(HT.out.keep (HB2.out.2.trans HX.out.2)).atr k hkl
    have hva:=htok.var
    have hco:=htok.coef
    unfold InR at hva hco
    clear hdr hkl htok
    obtain ⟨tv,htv⟩:∃ tv,(r.t k).var=tv:=⟨_,rfl⟩
    obtain ⟨co,hco'⟩:∃ co,(r.t k).coef=co:=⟨_,rfl⟩
    rw [htv] at e0 HD hva
    rw [hco'] at e1 HD hco
    clear htv hco'
    have hb3:=blk_alloc_at wr (.cells #[.int .i64 tv,.int .i64 co] 99)
    have hx3:=(Ext.refl (fun _=>False) wr).alloc (.cells #[.int .i64 tv,.int .i64 co] 99)
    have HB3:=bH (bI hb3 hx3)
    clear hb3 hx3
    go_upto_region 7 with fail
    generalize hw3:wr.alloc (.cells #[.int .i64 tv,.int .i64 co] 99)=w3 at *
    clear hw3
    obtain ⟨tb,htb⟩:∃ tb,wr.heap.size=tb:=⟨_,rfl⟩
    rw [htb] at HB3 ⊢
    clear htb e0 e1
    obtain ⟨x0,x1⟩:w3.cell? ⟨tb,0,none⟩=some (.int .i64 tv)/\w3.cell? ⟨tb,1,none⟩=some (.int .i64 co):=⟨cellq HB3.out.1 0 rfl,cellq HB3.out.1 1 rfl⟩
    have HE:=bH ((HB2.out.2.trans HX.out.2).trans HB3.out.2)
    by_cases t1:tv<=la
    ·go_wp2
     go_ret
     exact ⟨ret_bool (by rw [HR2.out,HD.out,decide_eq_false (p:=(la<tv)) (by omega)]; simp),HE.out⟩
    by_cases t2:(vars:Int)<=tv
    ·go_wp2
     go_ret
     exact ⟨ret_bool (by rw [HR2.out,HD.out,decide_eq_false (p:=(tv<(vars:Int))) (by omega)]; simp),HE.out⟩
    by_cases t3:co=0
    ·have t3':(co == 0)=true:=by simpa using t3
     subst t3
     go_wp2
     go_ret
     exact ⟨ret_bool (by rw [HR2.out,HD.out]; simp),HE.out⟩
    have t3':(co == 0)=false:=by simpa using t3
    have HD2:Hid (termsB vars (-1) r.terms=(limB co && termsB vars tv (r.terms.drop (k+1)))):=bH (by
     rw [HD.out,decide_eq_true (p:=(la<tv)) (by omega),decide_eq_true (p:=(tv<(vars:Int))) (by omega),decide_eq_false t3]; simp)
    clear HD
    go_wp2_with fail
    refine (HL.out w3 co _).mono ?_
    rintro r4 w4 ⟨rfl,hx4⟩
    have hx34:=((Ext.refl (fun _=>False) w3).alloc (.cells #[.int .i64 co] 2)).trans hx4
    have HX4:=bH ((HX.out.2.trans HB3.out.2).trans hx34)
    have y0:=cell_keep x0 hx34
    clear hx4 hx34 x0 x1 HE
    cases hlc:limB co with
    | false =>
     rw [hlc] at HD2
     clear hlc
     go_wp2
     go_ret
     exact ⟨ret_bool (by rw [HR2.out,HD2.out]; simp),HB2.out.2.trans HX4.out⟩
    | true =>
     rw [hlc] at HD2
     clear hlc
     go_wp2
     go_roundg (tl - (k+1))
     case measure=>omega
     case rel=>exact ⟨k+1,tv,by omega,rfl,by go_num,rfl,by omega,by omega,by rw [HD2.out]; simp,HX4.out⟩
   ·obtain rfl:k=tl:=by omega
    have HF:Hid (termsB vars (-1) r.terms=true):=bH (by
     rw [HX.out.1,List.drop_of_length_le (by rw [HTL.out]; exact Nat.le_refl _)]; rfl)
    have e0:=cell_keep (cellq HB2.out.1 0 rfl) HX.out.2
    go_wp2_with fail
    refine (HN.out wr).mono ?_
    rintro r4 w4 ⟨rfl,hx4⟩
    have HX4:=bH ((HB2.out.2.trans HX.out.2).trans hx4)
    clear hx4 e0
    go_wp2
    go_ret
    exact ⟨ret_bool (by rw [HR2.out,HF.out]; simp),HX4.out⟩
open Go.RowKit Go.MapKept Go.Lib
theorem rows_empty (w:World) (ao:Option Addr) (c:Nat) (fv:Value):Calls Tryz.prog 44 #[.slice ao 0 c,fv] w fun r w'=>r=.returned (.bool false)/\w'=w:=by
 have h:∀ W,Calls Tryz.prog 86 #[.slice ao 0 c,fv] W fun r w'=>r=.returned (.int .i64 (-1))/\w'=W:=fun W=>by
  go_enter Tryz.func86,Tryz.ntmps86
  go_wp2_with fail
  go_loopg [8] 0 (fun gg s8 wr=>s8=.int .i64 0/\wr=W)
  case atStart=>exact ⟨rfl,rfl⟩
  case round =>
   obtain ⟨rfl,rfl⟩:=hrel
   go_wp2
   go_ret
   exact ⟨rfl,rfl⟩
 have H:=bH h
 clear h
 go_enter Tryz.func44,Tryz.ntmps44
 go_wp2_with (go_at_call 86; refine (H.out _).mono ?_; rintro e w' ⟨rfl,rfl⟩)
 go_ret
 exact ⟨rfl,rfl⟩
def rowC (p:ProgV) (tvs:List Value) (j:Nat):List Value:=cR (p.r j) (tvs.getD j (.slice none 0 0))
theorem valid1_any (w:World) (pb:Nat) (vv rv:Value) (p:ProgV) (hp:blk w pb=some (.cells #[vv,rv] 25 (0,0))) (hv:Vrs w vv p.vars) (r:RowV) (tv:Value) (ht:Tms w tv r.terms) (hok:RowOk r) :
  Calls Tryz.prog 45 #[.agg (cR r tv).toArray,.pointer (some ⟨pb,0,none⟩)] w (BoolPost w (!rowB p.vars.length r)):=by
 obtain ⟨vo,vc,rfl,-,hn,-⟩:=hv.shape
 obtain ⟨ta,tc,rfl,-,-,-⟩:=ht.shape
 have HR:=bH (fun W (hW:XF w W)=>validRow_any W p.vars.length hn r ta tc hok (ht.keep hW))
 have hx:=(Ext.refl (fun _=>False) w).alloc (.cells #[.string r.name,.int .i64 r.group,.int .i64 r.kind,.slice ta r.terms.length tc,.int .i64 r.bound] 75)
 have z0:=cell_keep (cellq hp 0 rfl) hx
 have HX:=bH hx
 clear hv ht hok hp hx
 generalize p.vars.length=n at *
 generalize r.terms.length=tl at *
 generalize rowB n r=b at *
 show Calls Tryz.prog 45 #[.agg #[.string r.name,.int .i64 r.group,.int .i64 r.kind,.slice ta tl tc,.int .i64 r.bound],.pointer (some ⟨pb,0,none⟩)] w _
 go_enter Tryz.func45,Tryz.ntmps45
 go_wp2_with (go_at_call 46; refine (HR.out _ HX.out).mono ?_; rintro e w' ⟨rfl,hx'⟩)
 go_ret
 exact ⟨rfl,HX.out.trans hx'⟩
theorem all_range {α:Type} (f:α->Bool) (l:List α) (d:α):(!(List.range l.length).any fun j=>!f (l.getD j d))=l.all f:=by
 rw [any_not_all]
 have h:(List.range l.length).map (fun j=>l.getD j d)=l:=by
  refine List.ext_getElem (by simp) (fun i h1 h2=>?_)
  simp [List.getElem?_eq_getElem h2]
 conv=>rhs; rw [<- h]
 rw [List.all_map]; rfl
theorem rows_any (w:World) (pb:Nat) (vv rv:Value) (p:ProgV) (hp:blk w pb=some (.cells #[vv,rv] 25 (0,0))) (hv:Vrs w vv p.vars) (hr:Rws w rv p.rows) :
  Calls Tryz.prog 44 #[rv,.func (.func 45) #[] #[.pointer (some ⟨pb,0,none⟩)]] w fun r w'=>r=.returned (.bool (!p.rows.all (rowB p.vars.length)))/\XF w w':=by
 obtain ⟨ro,rc,rfl,-,hn,-⟩:=hr.shape
 by_cases h0:p.rows.length=0
 ·rw [h0]
  refine (rows_empty w ro rc _).mono ?_
  rintro r w' ⟨rfl,rfl⟩
  refine ⟨ret_bool ?_,Ext.refl _ _⟩
  rw [List.eq_nil_of_length_eq_zero h0]; rfl
 obtain ⟨tvs,hl,⟨ao,c,e,h1,h2,h3,h4⟩,h5⟩:=hr
 rw [List.length_zipWith,hl,Nat.min_self] at e h1 h4
 cases e
 obtain ⟨b,off,rfl,hlt,hc⟩:=h4 (by omega)
 have hall:∀ j,Tms w (tvs.getD j (.slice none 0 0)) (p.r j).terms/\RowOk (p.r j):=fun j=>by
  by_cases hj:j<p.rows.length
  ·have hj':j<tvs.length:=by omega
   have:=h5 j _ _ (List.getElem?_eq_getElem hj) (List.getElem?_eq_getElem hj')
   rw [p.r_at hj] at this
   rw [getD_lt hj']
   exact this
  ·have e1:p.r j=row0:=by
    unfold ProgV.r
    rw [List.getD_eq_getElem?_getD,List.getElem?_eq_none (by omega)]; rfl
   rw [List.getD_eq_getElem?_getD,List.getElem?_eq_none (by omega),e1]
   refine ⟨⟨Sl.nil w 2,fun t ht=>(by cases ht)⟩,⟨?_,?_,?_,?_⟩⟩
   ·show (0:Nat)<=maxLen; exact Nat.zero_le _
   all_goals (constructor <;> (show (_:Int)<=_) <;> decide)
 have hq:=AnyQ.slices_ContainsFunc Tryz.laysRow8 5 Tryz.isAgg75 Tryz.sizeOf75 (rowC p tvs) (fun _=>rfl) (fun j=>!rowB p.vars.length (p.r j)) 45 #[.pointer (some ⟨pb,0,none⟩)] (enters_of Tryz.func45 (by kernel_rfl) rfl) b off p.rows.length rc (List.range p.rows.length) w
  (fun W j hW=>by
   have hx:=Below.ext hW
   refine (valid1_any W pb vv _ p (blk_keep hp hx) (hv.keep hx) (p.r j) _ ((hall j).1.keep hx) (hall j).2).mono ?_
   rintro e w' ⟨rfl,hx'⟩
   exact ⟨rfl,(hx.trans hx').below⟩)
  (by simp) hn hlt (fun j hj i v hi=>by
   rw [List.length_range] at hj
   rw [getElem!_pos _ j (by simpa using hj),List.getElem_range] at hi
   refine hc j _ ?_ i v hi
   have hj':j<tvs.length:=by omega
   rw [List.getElem?_zipWith,List.getElem?_eq_getElem hj,List.getElem?_eq_getElem hj',p.r_at hj]
   show some (cR (p.r j) tvs[j])=some (cR (p.r j) (tvs.getD j _))
   rw [getD_lt hj'])
 refine hq.mono ?_
 rintro r w' ⟨rfl,hb⟩
 refine ⟨ret_bool ?_,Below.ext hb⟩
 have ht:List.take p.rows.length (List.range p.rows.length)=List.range p.rows.length:=by
  rw [List.take_of_length_le (by simp)]
 rw [ht,<- all_range (rowB p.vars.length) p.rows row0,Bool.not_not]
 rfl
theorem varB_eq (v:VarV):varB v=([v.lo,v.up,v.co].all limB && !(v.op && !decide (v.up=0))):=by
 unfold varB
 simp [Bool.and_assoc]
theorem all_next {α:Type} {f:α->Bool} {l:List α} {d:α} {i:Nat} (hi:i<l.length) (h:(l.take i).all f=true) (hf:f (l.getD i d)=true):(l.take (i+1)).all f=true:=by
 rw [List.take_succ_eq_append_getElem hi,List.all_append,h,Bool.true_and,List.all_cons,List.all_nil,Bool.and_true,<- getD_lt hi d]
 exact hf
theorem all_fails {α:Type} {f:α->Bool} {l:List α} {d:α} {i:Nat} (hi:i<l.length) (hf:f (l.getD i d)=false):l.all f=false:=by
 rw [List.all_eq_false]
 exact ⟨_,List.getElem_mem hi,by rw [<- getD_lt hi d,hf]; simp⟩
theorem Valid_any (w:World) (pv:Value) (p:ProgV) (hp:IsPrg w pv p):Calls Tryz.prog 10 #[pv] w (BoolPost w (validB p)):=by
 obtain ⟨vv,rv,rfl,hv,hr⟩:=hp
 obtain ⟨vo,vc,rfl,-,hn,-⟩:=hv.shape
 obtain ⟨ro,rc,rfl,-,hrn,-⟩:=hr.shape
 have HV:=bH (bI hv hr)
 have HR:=bH (show validB p=(decide (p.vars.length<=400) && decide (p.rows.length<=4000) && p.vars.all varB && p.rows.all (rowB p.vars.length)) from rfl)
 have hb:=blk_alloc_at w (.cells #[.slice vo p.vars.length vc,.slice ro p.rows.length rc] 25)
 have hx:=(Ext.refl (fun _=>False) w).alloc (.cells #[.slice vo p.vars.length vc,.slice ro p.rows.length rc] 25)
 have HB:=bH (bI hb hx)
 have HW:=bH (fun W (hW:XF w W) pb hpb=>rows_any W pb _ _ p hpb (hv.keep hW) (hr.keep hW))
 clear hv hr hb hx
 obtain ⟨n,hn'⟩:∃ n,p.vars.length=n:=⟨_,rfl⟩
 have HN:=bH hn'
 rw [hn'] at hn HV HR HB HW ⊢
 clear hn'
 obtain ⟨m,hm'⟩:∃ m,p.rows.length=m:=⟨_,rfl⟩
 rw [hm'] at hrn HV HR HB HW ⊢
 clear hm'
 generalize p.rows.all (rowB n)=rb at *
 go_enter Tryz.func10,Tryz.ntmps10
 go_upto_region 1 with fail
 generalize hw1:w.alloc (.cells #[.slice vo n vc,.slice ro m rc] 25)=w1 at *
 clear hw1
 obtain ⟨pb,hpb⟩:∃ pb,w.heap.size=pb:=⟨_,rfl⟩
 rw [hpb] at HB ⊢
 clear hpb
 have z0:=cellq HB.out.1 0 rfl
 have z1:=cellq HB.out.1 1 rfl
 by_cases c1:400<n
 ·have c1':(400:Int)<(n:Int):=by omega
  go_wp2
  go_ret
  exact ⟨ret_bool (by rw [HR.out,decide_eq_false (p:=(n<=400)) (by omega)]; simp),HB.out.2⟩
 have c1':¬ (400:Int)<(n:Int):=by omega
 by_cases c2:4000<m
 ·have c2':(4000:Int)<(m:Int):=by omega
  go_wp2
  go_ret
  exact ⟨ret_bool (by rw [HR.out,decide_eq_false (p:=(m<=4000)) (by omega)]; simp),HB.out.2⟩
 have c2':¬ (4000:Int)<(m:Int):=by omega
 have HR2:Hid (validB p=(p.vars.all varB && rb)):=bH (by rw [HR.out,decide_eq_true (p:=(n<=400)) (by omega),decide_eq_true (p:=(m<=4000)) (by omega)]; simp)
 clear HR
 go_wp2_with fail
 go_loopg [18] n (fun gg v18 wr=>∃ i:Nat,i<=n/\gg=n - i/\v18=.int .i64 i/\(p.vars.take i).all varB=true/\XF w1 wr)
 case atStart=>exact ⟨0,Nat.zero_le _,rfl,rfl,rfl,Ext.refl _ _⟩
 case round =>
  clear z0 z1
  obtain ⟨i,hi,rfl,rfl,hall,hx⟩:=hrel
  have HX:=bH (bI hall hx)
  clear hall hx
  by_cases hin:i<n
  ·have i0:(i:Int)<(n:Int):=by omega
   have HI:Hid (i<p.vars.length):=bH (by rw [HN.out]; exact hin)
   obtain ⟨b,off,rfl,-,e0,e1,e2,e3,e4,-⟩:=(HV.out.1.keep (HB.out.2.trans HX.out.2)).atp i HI.out
   have hb1:=BoxV.new wr (p.v i)
   have hx1:=(Ext.refl (fun _=>False) wr).alloc (.cells #[.int .i64 (p.v i).lo,.int .i64 (p.v i).up,.bool (p.v i).op,.bool (p.v i).ig,.int .i64 (p.v i).co] 57)
   have HB1:=bH (bI hb1 hx1)
   have HVB:=bH (varB_eq (p.v i))
   clear hb1 hx1
   go_upto_region 6 with fail
   generalize hw2:wr.alloc (.cells #[.int .i64 (p.v i).lo,.int .i64 (p.v i).up,.bool (p.v i).op,.bool (p.v i).ig,.int .i64 (p.v i).co] 57)=w2 at *
   clear hw2 e0 e1 e2 e3 e4
   obtain ⟨vb,hvb⟩:∃ vb,wr.heap.size=vb:=⟨_,rfl⟩
   rw [hvb] at HB1 ⊢
   clear hvb
   obtain ⟨f0,f1,f2,-,f4⟩:=HB1.out.1.facts
   have HL:=bH (limited_any (w2.alloc (.cells #[.int .i64 (p.v i).lo,.int .i64 (p.v i).up,.int .i64 (p.v i).co] 2)) w2.heap.size 0 3 [(p.v i).lo,(p.v i).up,(p.v i).co] (by simp) (fun j u hj=>(by
    have:=cells_new (w:=w2) [Value.int .i64 (p.v i).lo,.int .i64 (p.v i).up,.int .i64 (p.v i).co] 2 rfl j (.int .i64 u) (by
     match j,hj with
     | 0,hj=>cases hj; rfl
     | 1,hj=>cases hj; rfl
     | 2,hj=>cases hj; rfl
     | j+3,hj=>simp at hj)
    simpa [Addr.add_lit] using this)))
   simp only [List.length_cons,List.length_nil,Nat.zero_add] at HL
   obtain ⟨lb,hlb⟩:∃ lb,[(p.v i).lo,(p.v i).up,(p.v i).co].all limB=lb:=⟨_,rfl⟩
   rw [hlb] at HL HVB
   clear hlb
   generalize (p.v i).lo=lo at *
   generalize (p.v i).up=up at *
   generalize (p.v i).op=o at *
   generalize (p.v i).ig=ig at *
   generalize (p.v i).co=co at *
   go_wp2_with fail
   refine HL.out.mono ?_
   rintro r3 w3 ⟨rfl,hx3⟩
   have hx23:=((Ext.refl (fun _=>False) w2).alloc (.cells #[.int .i64 lo,.int .i64 up,.int .i64 co] 2)).trans hx3
   have HX3:=bH ((HX.out.2.trans HB1.out.2).trans hx23)
   have g1:=cell_keep f1 hx23
   have g2:=cell_keep f2 hx23
   clear f0 f1 f2 f4 hx3 hx23 HL HB1
   cases lb with
   | false =>
    go_wp2
    go_ret
    exact ⟨ret_bool (by rw [HR2.out,all_fails (d:=var0) HI.out (HVB.out.trans rfl)]; rfl),HB.out.2.trans HX3.out⟩
   | true =>
    cases o with
    | false =>
     go_wp2
     go_roundg (n - (i+1))
     case measure=>omega
     case rel=>exact ⟨i+1,by omega,rfl,by go_num,all_next (d:=var0) HI.out HX.out.1 (HVB.out.trans rfl),HX3.out⟩
    | true =>
     by_cases hu:up=0
     ·have hu':(up == 0)=true:=by simpa using hu
      have HVB':=bH (HVB.out.trans (show _=true by rw [decide_eq_true hu]; rfl))
      clear HVB
      subst hu
      go_wp2
      go_roundg (n - (i+1))
      case measure=>omega
      case rel=>exact ⟨i+1,by omega,rfl,by go_num,all_next (d:=var0) HI.out HX.out.1 HVB'.out,HX3.out⟩
     ·have hu':(up == 0)=false:=by simpa using hu
      have hu2:(up != 0)=true:=by simpa using hu
      have HVB':=bH (HVB.out.trans (show _=false by rw [decide_eq_false hu]; rfl))
      clear HVB
      go_wp2
      go_ret
      exact ⟨ret_bool (by rw [HR2.out,all_fails (d:=var0) HI.out HVB'.out]; rfl),HB.out.2.trans HX3.out⟩
  ·obtain rfl:i=n:=by omega
   have HF:Hid (p.vars.all varB=true):=bH (by
    have:=HX.out.1
    rw [List.take_of_length_le (by rw [HN.out]; exact Nat.le_refl _)] at this
    exact this)
   have z1:=cell_keep (cellq HB.out.1 1 rfl) HX.out.2
   have HW2:=bH (HW.out wr (HB.out.2.trans HX.out.2) pb (blk_keep HB.out.1 HX.out.2))
   go_wp2_with fail
   refine HW2.out.mono ?_
   rintro r3 w3 ⟨rfl,hx3⟩
   have HX3:=bH ((HB.out.2.trans HX.out.2).trans hx3)
   clear hx3 z1 HW2
   go_wp2
   go_ret
   exact ⟨ret_bool (by rw [HR2.out,HF.out]; simp),HX3.out⟩
theorem combB_sz {p:ProgV} {y:List Rat} {w:World} {v:Value} {L:Nat} (hr:Rws w v p.rows) (hy:∀ i:Int,Sz (atQ y i) L):Sz (combB p y) (1+p.rows.length*(L+3)) :=
 sumTo_sz (M:=L+2) (fun i hi=>((Sz.int (hr.ok i hi).bound).mul (hy i)).mono (by omega))
theorem leastS_sz {p:ProgV} {c:List Rat} {w:World} {v:Value} {L:Nat} (hv:Vrs w v p.vars) (hc:∀ i:Int,Sz (atQ c i) L):Sz (leastS p c) (1+p.vars.length*(L+3)) :=
 sumTo_sz (M:=L+2) (fun i hi=>((Sz.int (pick_in hv c i hi)).mul (hc i)).mono (by omega))
theorem OptPost.open {w w':World} {q:Option Rat} {r:Ending} (h:OptPost w q r w'):∃ neg a1 m1 c1 a2 m2 c2,r=.returned (.tuple #[.agg #[.bool neg,.slice a1 m1 c1,.slice a2 m2 c2],.bool q.isSome])/\IsRat w' (.agg #[.bool neg,.slice a1 m1 c1,.slice a2 m2 c2]) (q.getD 0)/\XF w w':=by
 obtain ⟨hx,h⟩:=h
 cases q with
 | none =>
  obtain ⟨v,rfl,hv⟩:=h
  obtain ⟨neg,a1,m1,c1,a2,m2,c2,rfl⟩:=hv.shape
  exact ⟨neg,a1,m1,c1,a2,m2,c2,rfl,hv,hx⟩
 | some q =>
  obtain ⟨v,rfl,hv⟩:=h
  obtain ⟨neg,a1,m1,c1,a2,m2,c2,rfl⟩:=hv.shape
  exact ⟨neg,a1,m1,c1,a2,m2,c2,rfl,hv,hx⟩
def insB (p:ProgV) (x:List Rat) (i:Nat):Bool:=decide (((p.v i).lo:Rat)<=atQ x i) && ((p.v i).op || decide (atQ x i<=((p.v i).up:Rat)))
theorem insideB_eq (p:ProgV) (x:List Rat):insideB p x=allTo p.vars.length (insB p x):=rfl
theorem insB_sign (p:ProgV) (x:List Rat) (i:Nat):insB p x i=(!decide ((atQ x i - ((p.v i).lo:Rat)).num.sign<0) && ((p.v i).op || !decide (0<(atQ x i - ((p.v i).up:Rat)).num.sign))):=by
 have hr1:=sign_lt (atQ x i - ((p.v i).lo:Rat))
 have hr2:=sign_gt (atQ x i - ((p.v i).up:Rat))
 unfold insB
 congr 1
 ·rw [<- decide_not]; exact decide_eq_decide.2 ⟨fun h h2=>by have:=hr1.1 h2; grind,fun h=>Rat.not_lt.1 (fun h2=>h (hr1.2 (by grind)))⟩
 ·congr 1
  rw [<- decide_not]; exact decide_eq_decide.2 ⟨fun h h2=>by have:=hr2.1 h2; grind,fun h=>Rat.not_lt.1 (fun h2=>h (hr2.2 (by grind)))⟩
theorem Inside_any (w:World) (pv xv:Value) (p:ProgV) (x:List Rat) (L:Nat) (hp:IsPrg w pv p) (hy:Rats w xv x L) (h1:1<=L) (hL:L<=4194000) :
  Calls Tryz.prog 16 #[pv,xv] w (BoolPost w (insideB p x)):=by
 obtain ⟨vv,rv,rfl,hr,-⟩:=hp
 obtain ⟨vo,vc,rfl,-,hn,-⟩:=hr.shape
 obtain ⟨yo,yc,rfl,-,hyn,-⟩:=hy.shape
 have HV:=bH (bI hr hy)
 obtain ⟨n,hn'⟩:∃ n,p.vars.length=n:=⟨_,rfl⟩
 have HN:=bH hn'
 have HA:=bH (fun W (hW:XF w W) (i:Nat)=>lat_any W _ x L (hy.keep hW) i)
 have HC:=bH (fun W u u' q (k:Int) (hk:InR k) (hu:Rrat W u q L) (hu':IsRat W u' (k:Rat))=>rcmp_any W u u' q (k:Rat) (L+2) (hu.mono (by omega)) (hu'.reads ((Sz.int hk).mono (by omega))) (by omega) (by omega))
 clear hr hy
 rw [hn'] at hn ⊢ HV
 clear hn'
 generalize x.length=yn at *
 go_enter Tryz.func16,Tryz.ntmps16
 go_wp2_with fail
 go_loopg [11] n (fun gg v11 wr=>∃ i:Nat,i<=n/\gg=n - i/\v11=.int .i64 i/\allTo i (insB p x)=true/\XF w wr)
 case atStart=>exact ⟨0,Nat.zero_le _,rfl,rfl,rfl,(Ext.refl _ _).alloc _⟩
 case round =>
  obtain ⟨i,hi,rfl,rfl,hall,hx⟩:=hrel
  have HX:=bH (bI hall hx)
  clear hall hx
  by_cases hin:i<n
  ·have i0:(i:Int)<(n:Int):=by omega
   have hrow:=(HV.out.1.keep HX.out.2)
   obtain ⟨b,off,rfl,hlt,e0,e1,e2,e3,e4,hok⟩:=hrow.atp i (by rw [HN.out]; exact hin)
   clear hrow
   have HA1:=bH (fun W (hW:XF wr W)=>HA.out W (HX.out.2.trans hW) i)
   have hb1:=BoxV.new wr (p.v i)
   have hx1:=(Ext.refl (fun _=>False) wr).alloc (.cells #[.int .i64 (p.v i).lo,.int .i64 (p.v i).up,.bool (p.v i).op,.bool (p.v i).ig,.int .i64 (p.v i).co] 57)
   have HB:=bH (bI hb1 (bI hx1 hok))
   clear hb1 hx1 hok
   go_upto_region 4 with fail
   obtain ⟨rb,hrb⟩:∃ rb,wr.heap.size=rb:=⟨_,rfl⟩
   rw [hrb] at HB ⊢
   generalize wr.alloc (.cells #[.int .i64 (p.v i).lo,.int .i64 (p.v i).up,.bool (p.v i).op,.bool (p.v i).ig,.int .i64 (p.v i).co] 57)=w1 at *
   clear e0 e1 e2 e3 e4
   go_wp2_with fail
   refine (HA1.out w1 HB.out.2.1).mono ?_
   rintro r2 w2 ⟨v2,rfl,h2,hx2⟩
   obtain ⟨xn,xa,xm,xc,ya,ym,yc',rfl⟩:=h2.shape
   have hx3:=hx2.alloc (.cells #[.bool xn,.slice xa xm xc,.slice ya ym yc'] 42)
   have hb3:=boxR_new (W:=w2) rfl xn xa xm xc ya ym yc'
   have h3:=h2.keep ((Ext.refl (fun _=>False) w2).alloc (.cells #[.bool xn,.slice xa xm xc,.slice ya ym yc'] 42))
   have HB3:=bH (bI hb3 (bI (HB.out.1.keep hx3) (bI h3 ((HX.out.2.trans HB.out.2.1).trans hx3))))
   have HO:=bH HB.out.2.2
   clear hb3 h3 h2 hx2 hx3 HA1 HB
   go_upto_region 5 with fail
   obtain ⟨cb,hcb⟩:∃ cb,w2.heap.size=cb:=⟨_,rfl⟩
   rw [hcb] at HB3 ⊢
   clear hcb
   generalize w2.alloc (.cells #[.bool xn,.slice xa xm xc,.slice ya ym yc'] 42)=w3 at *
   have HF1:=bH (fun W=>rfrom_any W (p.v i).lo HO.out.lo.1 HO.out.lo.2)
   have HF2:=bH (fun W=>rfrom_any W (p.v i).up HO.out.up.1 HO.out.up.2)
   have HC1:=bH (fun W u (hW:XF w3 W) hu=>HC.out W _ u _ _ HO.out.lo (HB3.out.2.2.1.keep hW) hu)
   have HC2:=bH (fun W u (hW:XF w3 W) hu=>HC.out W _ u _ _ HO.out.up (HB3.out.2.2.1.keep hW) hu)
   have HR:=bH (insB_sign p x i)
   obtain ⟨f0,f1,f2,-,-⟩:=HB3.out.2.1.facts
   obtain ⟨g0,g1,g2,-⟩:=HB3.out.1.facts
   have hS:S6 rb rb rb cb cb cb 0 1 2 0 1 2 (.int .i64 (p.v i).lo) (.int .i64 (p.v i).up) (.bool (p.v i).op) (.bool xn) (.slice xa xm xc) (.slice ya ym yc') w3:=⟨f0,f1,f2,g0,g1,g2⟩
   clear f0 f1 f2 g0 g1 g2 HC HA HO
   generalize (atQ x i - ((p.v i).lo:Rat)).num.sign=s1 at *
   generalize (atQ x i - ((p.v i).up:Rat)).num.sign=s2 at *
   generalize ((p.v i).lo:Rat)=lq at *
   generalize ((p.v i).up:Rat)=uq at *
   generalize (p.v i).lo=lo at *
   generalize (p.v i).up=up at *
   generalize (p.v i).op=o at *
   have hcase:s1<0∨(¬ s1<0/\o=true)∨(¬ s1<0/\o=false/\0<s2)∨(¬ s1<0/\o=false/\¬ 0<s2):=by cases o <;> simp <;> omega
   rcases hcase with hs | ⟨hs,rfl⟩ | ⟨hs0,rfl,hs⟩ | ⟨hs0,rfl,hs⟩
   ·have hd:decide (s1<0)=true:=decide_eq_true hs
    refine wp_region_held_drew (S:=(S6 rb rb rb cb cb cb 0 1 2 0 1 2 (.int .i64 lo) (.int .i64 up) (.bool o) (.bool xn) (.slice xa xm xc) (.slice ya ym yc'))) (by kernel_rfl) (hS.drew) (fun hHeld=>?_)
    refine ht 0 (h:=?_)
    (try go_frame)
    refine ht 1 (h:=?_)
    (try go_frame)
    refine ht 2 (h:=?_)
    (try go_frame)
    refine held_step 3 rfl (by kernel_rfl) (fun K hK=>?_)
    (go_simp; go_at_call 57; (with_reducible refine (HF1.out _).mono ?_); rintro q1 w11 ⟨v11,rfl,h11,hx11⟩; have hX1:=(Ext.refl (fun _=>False) w3).drew.trans hx11; have hK1:=hS.keep hX1; have hC1:=HC1.out w11 _ hX1 h11; obtain ⟨n11,a11,l11,c11,a12,l12,c12,rfl⟩:=h11.shape)
    refine hK.out _ _ (hK1) (fun hHeld=>?_)
    clear hK K
    (try go_frame)
    refine held_step 4 rfl (by kernel_rfl) (fun K hK=>?_)
    (go_simp; go_at_call 56; (with_reducible refine hC1.mono ?_); rintro q2 w12 ⟨rfl,hx12⟩; have hX2:=hX1.trans hx12; have hK2:=hS.keep hX2)
    refine hK.out _ _ (hK2) (fun hHeld=>?_)
    clear hK K
    (try go_frame)
    refine ht 5 (h:=?_)
    (try go_frame)
    refine ht 6 (h:=?_)
    (try go_frame)
    refine held_skip 7 rfl (by kernel_rfl) (by kernel_rfl) (by kernel_rfl) (fun _ _ _ h=>h) (by rfl) (by assumption) ?_
    (try go_frame)
    refine held_skip 8 rfl (by kernel_rfl) (by kernel_rfl) (by kernel_rfl) (fun _ _ _ h=>h) (by rfl) (by assumption) ?_
    (try go_frame)
    refine held_skip 9 rfl (by kernel_rfl) (by kernel_rfl) (by kernel_rfl) (fun _ _ _ h=>h) (by rfl) (by assumption) ?_
    (try go_frame)
    refine held_skip 10 rfl (by kernel_rfl) (by kernel_rfl) (by kernel_rfl) (fun _ _ _ h=>h) (by rfl) (by assumption) ?_
    (try go_frame)
    refine held_skip 11 rfl (by kernel_rfl) (by kernel_rfl) (by kernel_rfl) (fun _ _ _ h=>h) (by rfl) (by assumption) ?_
    (try go_frame)
    refine held_skip 12 rfl (by kernel_rfl) (by kernel_rfl) (by kernel_rfl) (fun _ _ _ h=>h) (by rfl) (by assumption) ?_
    (try go_frame)
    refine held_skip 13 rfl (by kernel_rfl) (by kernel_rfl) (by kernel_rfl) (fun _ _ _ h=>h) (by rfl) (by assumption) ?_
    (try go_frame)
    refine held_skip 14 rfl (by kernel_rfl) (by kernel_rfl) (by kernel_rfl) (fun _ _ _ h=>h) (by rfl) (by assumption) ?_
    (try go_frame)
    refine held_skip 15 rfl (by kernel_rfl) (by kernel_rfl) (by kernel_rfl) (fun _ _ _ h=>h) (by rfl) (by assumption) ?_
    (try go_frame)
    refine held_skip 16 rfl (by kernel_rfl) (by kernel_rfl) (by kernel_rfl) (fun _ _ _ h=>h) (by rfl) (by assumption) ?_
    (try go_frame)
    refine held_skip 17 rfl (by kernel_rfl) (by kernel_rfl) (by kernel_rfl) (fun _ _ _ h=>h) (by rfl) (by assumption) ?_
    (try go_frame)
    refine ht 18 (h:=?_)
    (try go_frame)
    refine wpAnyH_done (by kernel_rfl) ?_ _
    have HXX:=bH (HB3.out.2.2.2.trans hX2)
    clear hX1 hX2 h11 hx11 hx12 hC1 hK1 hK2 hS hHeld
    go_wp2
    go_ret
    exact ⟨ret_bool (allTo_false (f:=insB p x) (i:=i) (by rw [HN.out]; exact hin) (by rw [HR.out]; simp [hs])).symm,HXX.out⟩
   ·have hd:decide (s1<0)=false:=decide_eq_false hs
    refine wp_region_held_drew (S:=(S6 rb rb rb cb cb cb 0 1 2 0 1 2 (.int .i64 lo) (.int .i64 up) (.bool true) (.bool xn) (.slice xa xm xc) (.slice ya ym yc'))) (by kernel_rfl) (hS.drew) (fun hHeld=>?_)
    refine ht 0 (h:=?_)
    (try go_frame)
    refine ht 1 (h:=?_)
    (try go_frame)
    refine ht 2 (h:=?_)
    (try go_frame)
    refine held_step 3 rfl (by kernel_rfl) (fun K hK=>?_)
    (go_simp; go_at_call 57; (with_reducible refine (HF1.out _).mono ?_); rintro q1 w11 ⟨v11,rfl,h11,hx11⟩; have hX1:=(Ext.refl (fun _=>False) w3).drew.trans hx11; have hK1:=hS.keep hX1; have hC1:=HC1.out w11 _ hX1 h11; obtain ⟨n11,a11,l11,c11,a12,l12,c12,rfl⟩:=h11.shape)
    refine hK.out _ _ (hK1) (fun hHeld=>?_)
    clear hK K
    (try go_frame)
    refine held_step 4 rfl (by kernel_rfl) (fun K hK=>?_)
    (go_simp; go_at_call 56; (with_reducible refine hC1.mono ?_); rintro q2 w12 ⟨rfl,hx12⟩; have hX2:=hX1.trans hx12; have hK2:=hS.keep hX2)
    refine hK.out _ _ (hK2) (fun hHeld=>?_)
    clear hK K
    (try go_frame)
    refine ht 5 (h:=?_)
    (try go_frame)
    refine ht 6 (h:=?_)
    (try go_frame)
    refine ht 7 (h:=?_)
    (try go_frame)
    refine ht 8 (h:=?_)
    (try go_frame)
    refine ht 9 (h:=?_)
    (try go_frame)
    refine ht 10 (h:=?_)
    (try go_frame)
    refine held_skip 11 rfl (by kernel_rfl) (by kernel_rfl) (by kernel_rfl) (fun _ _ _ h=>h) (by rfl) (by assumption) ?_
    (try go_frame)
    refine held_skip 12 rfl (by kernel_rfl) (by kernel_rfl) (by kernel_rfl) (fun _ _ _ h=>h) (by rfl) (by assumption) ?_
    (try go_frame)
    refine held_skip 13 rfl (by kernel_rfl) (by kernel_rfl) (by kernel_rfl) (fun _ _ _ h=>h) (by rfl) (by assumption) ?_
    (try go_frame)
    refine held_skip 14 rfl (by kernel_rfl) (by kernel_rfl) (by kernel_rfl) (fun _ _ _ h=>h) (by rfl) (by assumption) ?_
    (try go_frame)
    refine held_skip 15 rfl (by kernel_rfl) (by kernel_rfl) (by kernel_rfl) (fun _ _ _ h=>h) (by rfl) (by assumption) ?_
    (try go_frame)
    refine held_skip 16 rfl (by kernel_rfl) (by kernel_rfl) (by kernel_rfl) (fun _ _ _ h=>h) (by rfl) (by assumption) ?_
    (try go_frame)
    refine ht 17 (h:=?_)
    (try go_frame)
    refine ht 18 (h:=?_)
    (try go_frame)
    refine wpAnyH_done (by kernel_rfl) ?_ _
    have HXX:=bH (HB3.out.2.2.2.trans hX2)
    clear hX1 hX2 h11 hx11 hx12 hC1 hK1 hK2 hS hHeld
    go_wp2
    go_roundg (n - (i+1))
    case measure=>omega
    case rel=>exact ⟨i+1,by omega,rfl,by go_num,allTo_next HX.out.1 (by rw [HR.out]; simp [hs]),HXX.out⟩
   ·have hd:decide (s1<0)=false:=decide_eq_false hs0; have hd2:decide (0<s2)=true:=decide_eq_true hs
    refine wp_region_held_drew (S:=(S6 rb rb rb cb cb cb 0 1 2 0 1 2 (.int .i64 lo) (.int .i64 up) (.bool false) (.bool xn) (.slice xa xm xc) (.slice ya ym yc'))) (by kernel_rfl) (hS.drew) (fun hHeld=>?_)
    refine ht 0 (h:=?_)
    (try go_frame)
    refine ht 1 (h:=?_)
    (try go_frame)
    refine ht 2 (h:=?_)
    (try go_frame)
    refine held_step 3 rfl (by kernel_rfl) (fun K hK=>?_)
    (go_simp; go_at_call 57; (with_reducible refine (HF1.out _).mono ?_); rintro q1 w11 ⟨v11,rfl,h11,hx11⟩; have hX1:=(Ext.refl (fun _=>False) w3).drew.trans hx11; have hK1:=hS.keep hX1; have hC1:=HC1.out w11 _ hX1 h11; obtain ⟨n11,a11,l11,c11,a12,l12,c12,rfl⟩:=h11.shape)
    refine hK.out _ _ (hK1) (fun hHeld=>?_)
    clear hK K
    (try go_frame)
    refine held_step 4 rfl (by kernel_rfl) (fun K hK=>?_)
    (go_simp; go_at_call 56; (with_reducible refine hC1.mono ?_); rintro q2 w12 ⟨rfl,hx12⟩; have hX2:=hX1.trans hx12; have hK2:=hS.keep hX2)
    refine hK.out _ _ (hK2) (fun hHeld=>?_)
    clear hK K
    (try go_frame)
    refine ht 5 (h:=?_)
    (try go_frame)
    refine ht 6 (h:=?_)
    (try go_frame)
    refine ht 7 (h:=?_)
    (try go_frame)
    refine ht 8 (h:=?_)
    (try go_frame)
    refine ht 9 (h:=?_)
    (try go_frame)
    refine ht 10 (h:=?_)
    (try go_frame)
    refine ht 11 (h:=?_)
    (try go_frame)
    refine ht 12 (h:=?_)
    (try go_frame)
    refine ht 13 (h:=?_)
    (try go_frame)
    refine held_step 14 rfl (by kernel_rfl) (fun K hK=>?_)
    (go_simp; go_at_call 57; (with_reducible refine (HF2.out _).mono ?_); rintro q3 w13 ⟨v13,rfl,h13,hx13⟩; have hX3:=hX2.trans hx13; have hK3:=hS.keep hX3; have hC2:=HC2.out w13 _ hX3 h13; obtain ⟨n13,a13,l13,c13,a14,l14,c14,rfl⟩:=h13.shape)
    refine hK.out _ _ (hK3) (fun hHeld=>?_)
    clear hK K
    (try go_frame)
    refine held_step 15 rfl (by kernel_rfl) (fun K hK=>?_)
    (go_simp; go_at_call 56; (with_reducible refine hC2.mono ?_); rintro q4 w14 ⟨rfl,hx14⟩; have hX4:=hX3.trans hx14; have hK4:=hS.keep hX4)
    refine hK.out _ _ (hK4) (fun hHeld=>?_)
    clear hK K
    (try go_frame)
    refine ht 16 (h:=?_)
    (try go_frame)
    refine ht 17 (h:=?_)
    (try go_frame)
    refine ht 18 (h:=?_)
    (try go_frame)
    refine wpAnyH_done (by kernel_rfl) ?_ _
    have HXX:=bH (HB3.out.2.2.2.trans hX4)
    clear hX1 hX2 h11 hx11 hx12 hC1 hK1 hK2 hS hHeld hX3 hX4 h13 hx13 hx14 hC2 hK3 hK4
    go_wp2
    go_ret
    exact ⟨ret_bool (allTo_false (f:=insB p x) (i:=i) (by rw [HN.out]; exact hin) (by rw [HR.out]; simp [hs])).symm,HXX.out⟩
   ·have hd:decide (s1<0)=false:=decide_eq_false hs0; have hd2:decide (0<s2)=false:=decide_eq_false hs
    refine wp_region_held_drew (S:=(S6 rb rb rb cb cb cb 0 1 2 0 1 2 (.int .i64 lo) (.int .i64 up) (.bool false) (.bool xn) (.slice xa xm xc) (.slice ya ym yc'))) (by kernel_rfl) (hS.drew) (fun hHeld=>?_)
    refine ht 0 (h:=?_)
    (try go_frame)
    refine ht 1 (h:=?_)
    (try go_frame)
    refine ht 2 (h:=?_)
    (try go_frame)
    refine held_step 3 rfl (by kernel_rfl) (fun K hK=>?_)
    (go_simp; go_at_call 57; (with_reducible refine (HF1.out _).mono ?_); rintro q1 w11 ⟨v11,rfl,h11,hx11⟩; have hX1:=(Ext.refl (fun _=>False) w3).drew.trans hx11; have hK1:=hS.keep hX1; have hC1:=HC1.out w11 _ hX1 h11; obtain ⟨n11,a11,l11,c11,a12,l12,c12,rfl⟩:=h11.shape)
    refine hK.out _ _ (hK1) (fun hHeld=>?_)
    clear hK K
    (try go_frame)
    refine held_step 4 rfl (by kernel_rfl) (fun K hK=>?_)
    (go_simp; go_at_call 56; (with_reducible refine hC1.mono ?_); rintro q2 w12 ⟨rfl,hx12⟩; have hX2:=hX1.trans hx12; have hK2:=hS.keep hX2)
    refine hK.out _ _ (hK2) (fun hHeld=>?_)
    clear hK K
    (try go_frame)
    refine ht 5 (h:=?_)
    (try go_frame)
    refine ht 6 (h:=?_)
    (try go_frame)
    refine ht 7 (h:=?_)
    (try go_frame)
    refine ht 8 (h:=?_)
    (try go_frame)
    refine ht 9 (h:=?_)
    (try go_frame)
    refine ht 10 (h:=?_)
    (try go_frame)
    refine ht 11 (h:=?_)
    (try go_frame)
    refine ht 12 (h:=?_)
    (try go_frame)
    refine ht 13 (h:=?_)
    (try go_frame)
    refine held_step 14 rfl (by kernel_rfl) (fun K hK=>?_)
    (go_simp; go_at_call 57; (with_reducible refine (HF2.out _).mono ?_); rintro q3 w13 ⟨v13,rfl,h13,hx13⟩; have hX3:=hX2.trans hx13; have hK3:=hS.keep hX3; have hC2:=HC2.out w13 _ hX3 h13; obtain ⟨n13,a13,l13,c13,a14,l14,c14,rfl⟩:=h13.shape)
    refine hK.out _ _ (hK3) (fun hHeld=>?_)
    clear hK K
    (try go_frame)
    refine held_step 15 rfl (by kernel_rfl) (fun K hK=>?_)
    (go_simp; go_at_call 56; (with_reducible refine hC2.mono ?_); rintro q4 w14 ⟨rfl,hx14⟩; have hX4:=hX3.trans hx14; have hK4:=hS.keep hX4)
    refine hK.out _ _ (hK4) (fun hHeld=>?_)
    clear hK K
    (try go_frame)
    refine ht 16 (h:=?_)
    (try go_frame)
    refine ht 17 (h:=?_)
    (try go_frame)
    refine ht 18 (h:=?_)
    (try go_frame)
    refine wpAnyH_done (by kernel_rfl) ?_ _
    have HXX:=bH (HB3.out.2.2.2.trans hX4)
    clear hX1 hX2 h11 hx11 hx12 hC1 hK1 hK2 hS hHeld hX3 hX4 h13 hx13 hx14 hC2 hK3 hK4
    go_wp2
    go_roundg (n - (i+1))
    case measure=>omega
    case rel=>exact ⟨i+1,by omega,rfl,by go_num,allTo_next HX.out.1 (by rw [HR.out]; simp [hs,hs0]),HXX.out⟩
  ·obtain rfl:i=n:=by omega
   go_wp2
   go_ret
   exact ⟨ret_bool (by rw [insideB_eq,HN.out]; exact HX.out.1.symm),HX.out.2⟩
theorem costQ_sz {p:ProgV} {w:World} {v:Value} {x:List Rat} {L:Nat} (hv:Vrs w v p.vars) (hx:∀ i:Int,Sz (atQ x i) L):Sz (costQ p x) (1+p.vars.length*(L+3)) :=
 sumTo_sz (M:=L+2) (fun i hi=>((Sz.int (hv.ok i hi).co).mul (hx i)).mono (by omega))
end Go.Proofs.YtglepbhkilbbcaaGreatDoor
