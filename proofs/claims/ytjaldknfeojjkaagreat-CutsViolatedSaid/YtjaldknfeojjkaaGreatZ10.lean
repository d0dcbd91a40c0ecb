/-
  Texts of the proof, part 10. Conditions: each lemma names its own.
-/
import Derived.Test.YtjaldknfeojjkaaGreatZ4
import Derived.Test.YtjaldknfeojjkaaGreatZ5
import Derived.Test.YtjaldknfeojjkaaGreatZ6
import Derived.Test.YtjaldknfeojjkaaGreatZ9
import Derived.OpenShut
import Derived.ShutString
import Derived.ChangeOld
import Derived.Deep.Slices
import Derived.Lib.SmallJoins
import Derived.Maps.RangeWalk
set_option linter.unusedVariables false
set_option linter.unusedSimpArgs false
set_option maxRecDepth 100000
set_option maxHeartbeats 16000000
namespace Go.Proofs.YtjaldknfeojjkaaGreat
open Go.RowKit Go.MapKept
open Go.ChangeMaps (setBlock)
theorem rarr3 {w:World} {b:Nat} {n1 n2 n3:Bool} {a1 d1 a2 d2 a3 d3:Option Addr} {l1 c1 m1 e1 l2 c2 m2 e2 l3 c3 m3 e3:Nat} {q1 q2 q3:Rat} (hb:blk w b=some (.cells #[.bool n1,.slice a1 l1 c1,.slice d1 m1 e1,.bool n2,.slice a2 l2 c2,.slice d2 m2 e2,.bool n3,.slice a3 l3 c3,.slice d3 m3 e3] 64 (0,0)))
  (h1:IsRat w (.agg #[.bool n1,.slice a1 l1 c1,.slice d1 m1 e1]) q1) (h2:IsRat w (.agg #[.bool n2,.slice a2 l2 c2,.slice d2 m2 e2]) q2) (h3:IsRat w (.agg #[.bool n3,.slice a3 l3 c3,.slice d3 m3 e3]) q3):RArr w b 3 (fun i=>[q1,q2,q3].getD i 0):=by
 refine ⟨⟨_,hb,rfl⟩,fun i hi=>?_⟩
 match i,hi with
 | 0,_=>exact ⟨_,_,_,_,_,_,_,cellq hb 0 rfl,cellq hb 1 rfl,cellq hb 2 rfl,h1⟩
 | 1,_=>exact ⟨_,_,_,_,_,_,_,cellq hb 3 rfl,cellq hb 4 rfl,cellq hb 5 rfl,h2⟩
 | 2,_=>exact ⟨_,_,_,_,_,_,_,cellq hb 6 rfl,cellq hb 7 rfl,cellq hb 8 rfl,h3⟩
theorem rarr1 {w:World} {b:Nat} {n1:Bool} {a1 d1:Option Addr} {l1 c1 m1 e1:Nat} {q1:Rat} (hb:blk w b=some (.cells #[.bool n1,.slice a1 l1 c1,.slice d1 m1 e1] 64 (0,0))) (h1:IsRat w (.agg #[.bool n1,.slice a1 l1 c1,.slice d1 m1 e1]) q1):RArr w b 1 (fun i=>[q1].getD i 0):=by
 refine ⟨⟨_,hb,rfl⟩,fun i hi=>?_⟩
 match i,hi with
 | 0,_=>exact ⟨_,_,_,_,_,_,_,cellq hb 0 rfl,cellq hb 1 rfl,cellq hb 2 rfl,h1⟩
theorem tms_two {w:World} {b:Nat} {v1 c1 v2 c2:Int} (hb:blk w b=some (.cells #[.int .i64 v1,.int .i64 c1,.int .i64 v2,.int .i64 c2] 70 (0,0))) (h:∀ t ∈ [(⟨v1,c1⟩:TermV),⟨v2,c2⟩],TermOk t):Tms w (.slice (some ⟨b,0,none⟩) 2 2) [⟨v1,c1⟩,⟨v2,c2⟩]:=by
 refine ⟨⟨some ⟨b,0,none⟩,2,rfl,Nat.le_refl _,by unfold maxLen; decide,(fun e=>by cases e),fun _=>⟨b,0,rfl,blk_lt hb,fun i r hi j u hu=>?_⟩⟩,h⟩
 match i,hi with
 | 0,hi=>cases hi; match j,hu with
  | 0,hu=>cases hu; exact cellq hb 0 rfl
  | 1,hu=>cases hu; exact cellq hb 1 rfl
 | 1,hi=>cases hi; match j,hu with
  | 0,hu=>cases hu; exact cellq hb 2 rfl
  | 1,hu=>cases hu; exact cellq hb 3 rfl
theorem ex7_small {c:CutV} (h:c.vars.length<=1000):CSmall ex7 c:=⟨by decide,by decide,fun i hi=>by
 match i,hi with
 | 0,_=>decide,h⟩
theorem ex7_rats {w:World} {b:Nat} (h:RArr w b 3 (fun i=>ex7X.getD i 0)):Rats w (.slice (some ⟨b,0,none⟩) 3 3) ex7X 10:=by
 have h2:=h.rats (L:=10) (fun i hi=>by
  match i,hi with
  | 0,_=>exact (Sz.int (k:=1) ⟨by decide,by decide⟩).mono (by decide)
  | 1,_=>exact quot_sz (a:=1) (b:=2) ⟨by decide,by decide⟩ ⟨by decide,by decide⟩
  | 2,_=>exact quot_sz (a:=2) (b:=5) ⟨by decide,by decide⟩ ⟨by decide,by decide⟩) (Nat.le_refl 3) (by unfold maxLen; decide)
 exact h2
theorem ex7_mul {w:World} {b:Nat} (h:RArr w b 1 (fun i=>ex7D.mul.getD i 0)):Rats w (.slice (some ⟨b,0,none⟩) 1 1) ex7D.mul 10:=by
 have h2:=h.rats (L:=10) (fun i hi=>by
  match i,hi with
  | 0,_=>exact quot_sz (a:=-1) (b:=4) ⟨by decide,by decide⟩ ⟨by decide,by decide⟩) (Nat.le_refl 1) (by unfold maxLen; decide)
 exact h2
theorem ex7_terms:∀ i,i<ex7.rows.length->(ex7.r i).terms.length<=12:=fun i hi=>by
 match i,hi with
 | 0,_=>decide
theorem owns_le {w:World} {base:Nat} {e:TypeId} {size:Nat} {v:Value} {n:Nat} {xs:List Value} (h:w.ownsRow base e size v n xs):n<=maxLen:=by
 rcases h.2 with ⟨_,h0⟩ | ⟨_,cap,_,_,_,_,h3,h4,_⟩
 ·rw [h0]; exact Nat.zero_le _
 ·exact Nat.le_trans h3 h4
theorem ints_two {w:World} {b:Nat} {x y:Int} (hb:blk w b=some (.cells #[.int .i64 x,.int .i64 y] 3 (0,0))):Inz w (.slice (some ⟨b,0,none⟩) 2 2) [x,y]:=by
 refine ⟨some ⟨b,0,none⟩,2,rfl,Nat.le_refl _,by unfold maxLen; decide,(fun e=>by cases e),fun _=>⟨b,0,rfl,blk_lt hb,fun i r hi j u hu=>?_⟩⟩
 match i,hi with
 | 0,hi=>cases hi; match j,hu with
  | 0,hu=>cases hu; exact cellq hb 0 rfl
 | 1,hi=>cases hi; match j,hu with
  | 0,hu=>cases hu; exact cellq hb 1 rfl
theorem ex7_ok1:∀ t ∈ [(⟨0,1⟩:TermV),⟨2,1⟩],TermOk t:=fun t ht=>by
 simp at ht
 rcases ht with rfl | rfl <;> exact ⟨by unfold InR; decide,by unfold InR; decide⟩
theorem ex7_ok2:∀ t ∈ [(⟨1,-1⟩:TermV),⟨2,-1⟩],TermOk t:=fun t ht=>by
 simp at ht
 rcases ht with rfl | rfl <;> exact ⟨by unfold InR; decide,by unfold InR; decide⟩
def RowTwo (w:World) (kind bound:Int) (ts:List TermV) (r:Ending) (w':World):Prop:=∃ ta tc,r=.returned (.tuple #[.agg #[.string ⟨#[99,117,116]⟩,.int .i64 0,.int .i64 kind,.slice ta 2 tc,.int .i64 bound],.int .i64 0])/\Tms w' (.slice ta 2 tc) ts/\XF w w'
theorem awake7_any (w:World):Calls Tryz.prog 9 #[] w (BoolPost w true):=by
 have HEx:=bH (fun W=>example7_any W)
 have HF1:=bH (fun W=>Rfrac_any W 1 2 ⟨by decide,by decide⟩ ⟨by decide,by decide⟩ (by decide))
 have HF2:=bH (fun W=>Rfrac_any W 2 5 ⟨by decide,by decide⟩ ⟨by decide,by decide⟩ (by decide))
 have HF3:=bH (fun W=>Rfrac_any W (-1) 4 ⟨by decide,by decide⟩ ⟨by decide,by decide⟩ (by decide))
 have HFr:=bH (fun W=>Rrfrom_any W 1 (by decide) (by decide))
 go_enter Tryz.func9,Tryz.ntmps9
 go_wp2_with fail
 refine (HEx.out w).mono ?_
 rintro q0 w1 ⟨v0,rfl,hp1,hx1⟩
 obtain ⟨vo,vc,ro,rc,rfl⟩:∃ vo vc ro rc,v0=.agg #[.slice vo 3 vc,.slice ro 1 rc]:=by
  obtain ⟨vv,rv,rfl,h,h2⟩:=hp1
  obtain ⟨_,_,rfl,_⟩:=h.shape
  obtain ⟨_,_,rfl,_⟩:=h2.shape
  exact ⟨_,_,_,_,rfl⟩
 have hxa:=(Ext.refl (fun _=>False) w1).alloc (.cells #[.slice vo 3 vc,.slice ro 1 rc] 25)
 have HP:=bH (bI (hp1.keep hxa) (bI (blk_alloc_at w1 (.cells #[.slice vo 3 vc,.slice ro 1 rc] 25)) (hx1.trans hxa)))
 clear hp1 hx1 hxa HEx
 go_upto_region 2 with fail
 generalize w1.alloc (.cells #[.slice vo 3 vc,.slice ro 1 rc] 25)=w2 at *
 generalize w1.heap.size=pb at *
 go_wp2_with fail
 refine (HF1.out w2).mono ?_
 rintro q1 w3 ⟨v1,rfl,h1,hx1⟩
 obtain ⟨n1,a1,l1,c1,d1,m1,e1,rfl⟩:=h1.shape
 have hxa:=(Ext.refl (fun _=>False) w3).alloc (.cells #[.bool n1,.slice a1 l1 c1,.slice d1 m1 e1] 64)
 have HQ1:=bH (bI (blk_alloc_at w3 (.cells #[.bool n1,.slice a1 l1 c1,.slice d1 m1 e1] 64)) (h1.keep hxa))
 replace HP:=bH (bI (HP.out.1.keep (hx1.trans hxa)) (bI (blk_keep HP.out.2.1 (hx1.trans hxa)) (HP.out.2.2.trans (hx1.trans hxa))))
 clear h1 hx1 hxa HF1
 go_upto_region 3 with fail
 generalize w3.alloc (.cells #[.bool n1,.slice a1 l1 c1,.slice d1 m1 e1] 64)=w4 at *
 generalize w3.heap.size=hb at *
 go_wp2_with fail
 refine (HF2.out w4).mono ?_
 rintro q2 w5 ⟨v2,rfl,h2,hx2⟩
 obtain ⟨n2,a2,l2,c2,d2,m2,e2,rfl⟩:=h2.shape
 have hxa:=(Ext.refl (fun _=>False) w5).alloc (.cells #[.bool n2,.slice a2 l2 c2,.slice d2 m2 e2] 64)
 have HQ2:=bH (bI (blk_alloc_at w5 (.cells #[.bool n2,.slice a2 l2 c2,.slice d2 m2 e2] 64)) (h2.keep hxa))
 replace HP:=bH (bI (HP.out.1.keep (hx2.trans hxa)) (bI (blk_keep HP.out.2.1 (hx2.trans hxa)) (HP.out.2.2.trans (hx2.trans hxa))))
 replace HQ1:=bH (bI (blk_keep HQ1.out.1 (hx2.trans hxa)) (HQ1.out.2.keep (hx2.trans hxa)))
 clear h2 hx2 hxa HF2
 go_upto_region 4 with fail
 generalize w5.alloc (.cells #[.bool n2,.slice a2 l2 c2,.slice d2 m2 e2] 64)=w6 at *
 generalize w5.heap.size=fb at *
 go_wp2_with fail
 refine (HF3.out w6).mono ?_
 rintro q3 w7 ⟨v3,rfl,h3,hx3⟩
 obtain ⟨n3,a3,l3,c3,d3,m3,e3,rfl⟩:=h3.shape
 have hxa:=(Ext.refl (fun _=>False) w7).alloc (.cells #[.bool n3,.slice a3 l3 c3,.slice d3 m3 e3] 64)
 have HQ3:=bH (bI (blk_alloc_at w7 (.cells #[.bool n3,.slice a3 l3 c3,.slice d3 m3 e3] 64)) (h3.keep hxa))
 replace HP:=bH (bI (HP.out.1.keep (hx3.trans hxa)) (bI (blk_keep HP.out.2.1 (hx3.trans hxa)) (HP.out.2.2.trans (hx3.trans hxa))))
 replace HQ1:=bH (bI (blk_keep HQ1.out.1 (hx3.trans hxa)) (HQ1.out.2.keep (hx3.trans hxa)))
 replace HQ2:=bH (bI (blk_keep HQ2.out.1 (hx3.trans hxa)) (HQ2.out.2.keep (hx3.trans hxa)))
 clear h3 hx3 hxa HF3
 go_upto_region 5 with fail
 generalize w7.alloc (.cells #[.bool n3,.slice a3 l3 c3,.slice d3 m3 e3] 64)=w8 at *
 generalize w7.heap.size=qb at *
 have f0:=cq (cellq HQ1.out.1 0 rfl)
 have f1:=cq (cellq HQ1.out.1 1 rfl)
 have f2:=cq (cellq HQ1.out.1 2 rfl)
 have g0:=cq (cellq HQ2.out.1 0 rfl)
 have g1:=cq (cellq HQ2.out.1 1 rfl)
 have g2:=cq (cellq HQ2.out.1 2 rfl)
 refine wp_region_held_drew (S:=(XF w8)) (by kernel_rfl) ((Ext.refl _ w8).drew) (fun hHeld=>?_)
 refine ht 1 (h:=(ht 2 (h:=?_)))
 (try go_frame)
 refine hst 0 (h:=fun K hK=>?_)
 (go_simp; go_at_call 31; (with_reducible refine (HFr.out _).mono ?_); rintro q1 w9 ⟨v9,rfl,h9,hx9⟩; have hX1:=hHeld.trans hx9; obtain ⟨n4,a4,l4,c4,d4,m4,e4,rfl⟩:=h9.shape; have H9:=bH h9)
 refine hK.out _ _ (hX1) (fun hHeld=>?_)
 clear hK K
 (try go_frame)
 refine hst 3 (h:=fun K hK=>?_)
 (go_simp; have HX9:=bH (bI (blk_alloc_at w9 (.cells #[.bool n4,.slice a4 l4 c4,.slice d4 m4 e4,.bool n1,.slice a1 l1 c1,.slice d1 m1 e1,.bool n2,.slice a2 l2 c2,.slice d2 m2 e2] 64)) (H9.out.keep ((Ext.refl (fun _=>False) w9).alloc (.cells #[.bool n4,.slice a4 l4 c4,.slice d4 m4 e4,.bool n1,.slice a1 l1 c1,.slice d1 m1 e1,.bool n2,.slice a2 l2 c2,.slice d2 m2 e2] 64)))); have hX2:=hX1.alloc (.cells #[.bool n4,.slice a4 l4 c4,.slice d4 m4 e4,.bool n1,.slice a1 l1 c1,.slice d1 m1 e1,.bool n2,.slice a2 l2 c2,.slice d2 m2 e2] 64); generalize w9.alloc (.cells #[.bool n4,.slice a4 l4 c4,.slice d4 m4 e4,.bool n1,.slice a1 l1 c1,.slice d1 m1 e1,.bool n2,.slice a2 l2 c2,.slice d2 m2 e2] 64)=w10 at *; generalize w9.heap.size=xb at *)
 refine hK.out _ _ (hX2) (fun hHeld=>?_)
 clear hK K
 (try go_frame)
 refine ht 4 (h:=?_)
 (try go_frame)
 refine wpAnyH_done (by kernel_rfl) ?_ _
 have HXr:=bH (ex7_rats (rarr3 HX9.out.1 HX9.out.2 (HQ1.out.2.keep hX2) (HQ2.out.2.keep hX2)))
 replace HP:=bH (bI (HP.out.1.keep hX2) (bI (blk_keep HP.out.2.1 hX2) (HP.out.2.2.trans hX2)))
 replace HQ3:=bH (bI (blk_keep HQ3.out.1 hX2) (HQ3.out.2.keep hX2))
 clear f0 f1 f2 g0 g1 g2 hX1 hX2 hHeld HX9 H9 HFr HQ1 HQ2 h9 hx9
 have HCv:=bH (show Calls Tryz.prog 20 #[.agg #[.slice vo 3 vc,.slice ro 1 rc],.int .i64 0,.slice (some ⟨xb,0,none⟩) 3 3] w10 (fun r w'=>∃ so sc,r=.returned (.tuple #[.agg #[.int .i64 1,.slice none 0 0,.int .i64 0,.slice so 2 sc],.bool true])/\Inz w' (.slice so 2 sc) [0,2]/\XF w10 w') from
  (Cover_any w10 _ _ ex7 0 ex7X 10 HP.out.1 HXr.out (by decide) (by decide) (by decide) ex7_terms).mono (by
   rintro r w' ⟨sv,c,ok,rfl,hs,-,hc,hx⟩
   obtain ⟨rfl,rfl⟩:c=ex7C/\ok=true:=by
    rcases hc with ⟨-,hc⟩ | ⟨hc,-⟩
    ·exact hc.uniq ex7_cov
    ·exact absurd ⟨by decide,by decide,ex7_valid⟩ hc
   have hz:=IRow.inz hs
   obtain ⟨so,sc,rfl,-⟩:=hz.shape
   exact ⟨so,sc,rfl,hz,hx⟩))
 have p0:=cellq HP.out.2.1 0 rfl
 have p1:=cellq HP.out.2.1 1 rfl
 go_upto_region 7 with (go_at_call 20; (with_reducible refine HCv.out.mono ?_); rintro q6 w11 ⟨so,sc,rfl,h6,hx6⟩)
 have hxa:=(Ext.refl (fun _=>False) w11).alloc (.cells #[.int .i64 1,.slice none 0 0,.int .i64 0,.slice so 2 sc] 29)
 have HC:=bH (bI (blk_alloc_at w11 (.cells #[.int .i64 1,.slice none 0 0,.int .i64 0,.slice so 2 sc] 29)) (h6.keep hxa))
 replace HP:=bH (bI (HP.out.1.keep (hx6.trans hxa)) (bI (blk_keep HP.out.2.1 (hx6.trans hxa)) (HP.out.2.2.trans (hx6.trans hxa))))
 replace HXr:=bH (HXr.out.keep (hx6.trans hxa))
 replace HQ3:=bH (bI (blk_keep HQ3.out.1 (hx6.trans hxa)) (HQ3.out.2.keep (hx6.trans hxa)))
 clear p0 p1 h6 hx6 hxa HCv
 generalize w11.alloc (.cells #[.int .i64 1,.slice none 0 0,.int .i64 0,.slice so 2 sc] 29)=w12 at *
 generalize w11.heap.size=cb at *
 have HD1:=bH (show Calls Tryz.prog 12 #[.agg #[.slice vo 3 vc,.slice ro 1 rc],.agg #[.int .i64 1,.slice none 0 0,.int .i64 0,.slice so 2 sc]] w12 (RowTwo w12 0 1 [⟨0,1⟩,⟨2,1⟩]) from
  (Derive_any w12 _ _ ex7 ex7C HP.out.1 ⟨_,_,rfl,Rats.nil w12 10,HC.out.2⟩ (ex7_small (by decide))).mono (by
   rintro r w' ⟨tv,rfl,ht,hx,-⟩
   rw [ex7_der] at ht ⊢
   obtain ⟨ta,tc,rfl,-⟩:=Tms.shape ht
   exact ⟨ta,tc,rfl,ht,hx⟩))
 have p0:=cellq HP.out.2.1 0 rfl
 have p1:=cellq HP.out.2.1 1 rfl
 have c0:=cellq HC.out.1 0 rfl
 have c1:=cellq HC.out.1 1 rfl
 have c2:=cellq HC.out.1 2 rfl
 have c3:=cellq HC.out.1 3 rfl
 go_upto_region 8 with (go_at_call 12; (with_reducible refine HD1.out.mono ?_); rintro q7 w13 ⟨ta,tc,rfl,h7,hx7⟩)
 have hxa:=(Ext.refl (fun _=>False) w13).alloc (.cells #[.string ⟨#[99,117,116]⟩,.int .i64 0,.int .i64 0,.slice ta 2 tc,.int .i64 1] 35)
 have HR1:=bH (bI (blk_alloc_at w13 (.cells #[.string ⟨#[99,117,116]⟩,.int .i64 0,.int .i64 0,.slice ta 2 tc,.int .i64 1] 35)) (h7.keep hxa))
 replace HP:=bH (bI (HP.out.1.keep (hx7.trans hxa)) (bI (blk_keep HP.out.2.1 (hx7.trans hxa)) (HP.out.2.2.trans (hx7.trans hxa))))
 replace HXr:=bH (HXr.out.keep (hx7.trans hxa))
 replace HQ3:=bH (bI (blk_keep HQ3.out.1 (hx7.trans hxa)) (HQ3.out.2.keep (hx7.trans hxa)))
 replace HC:=bH (bI (blk_keep HC.out.1 (hx7.trans hxa)) (HC.out.2.keep (hx7.trans hxa)))
 clear p0 p1 c0 c1 c2 c3 h7 hx7 hxa HD1
 generalize w13.alloc (.cells #[.string ⟨#[99,117,116]⟩,.int .i64 0,.int .i64 0,.slice ta 2 tc,.int .i64 1] 35)=w14 at *
 generalize w13.heap.size=rb at *
 have hx15:=(Ext.refl (fun _=>False) w14).alloc (.cells #[.bool n3,.slice a3 l3 c3,.slice d3 m3 e3] 64)
 have HM:=bH (ex7_mul (rarr1 (blk_alloc_at w14 (.cells #[.bool n3,.slice a3 l3 c3,.slice d3 m3 e3] 64)) (HQ3.out.2.keep hx15)))
 have p0:=cellq HP.out.2.1 0 rfl
 have p1:=cellq HP.out.2.1 1 rfl
 have f0:=cellq HQ3.out.1 0 rfl
 have f1:=cellq HQ3.out.1 1 rfl
 have f2:=cellq HQ3.out.1 2 rfl
 have HD2:=bH (show Calls Tryz.prog 12 #[.agg #[.slice vo 3 vc,.slice ro 1 rc],.agg #[.int .i64 0,.slice (some ⟨w14.heap.size,0,none⟩) 1 1,.int .i64 0,.slice none 0 0]] (w14.alloc (.cells #[.bool n3,.slice a3 l3 c3,.slice d3 m3 e3] 64)) (RowTwo (w14.alloc (.cells #[.bool n3,.slice a3 l3 c3,.slice d3 m3 e3] 64)) 1 (-1) [⟨1,-1⟩,⟨2,-1⟩]) from
  (Derive_any _ _ _ ex7 ex7D (HP.out.1.keep hx15) ⟨_,_,rfl,HM.out,IRow.inz (IRow.nil _ 0)⟩ (ex7_small (by decide))).mono (by
   rintro r w' ⟨tv,rfl,ht,hx,-⟩
   rw [ex7_der2] at ht ⊢
   obtain ⟨ta,tc,rfl,-⟩:=Tms.shape ht
   exact ⟨ta,tc,rfl,ht,hx⟩))
 go_upto_region 9 with (go_at_call 12; (with_reducible refine HD2.out.mono ?_); rintro q8 w16 ⟨tb,td,rfl,h8,hx8⟩)
 have hxa:=(Ext.refl (fun _=>False) w16).alloc (.cells #[.string ⟨#[99,117,116]⟩,.int .i64 0,.int .i64 1,.slice tb 2 td,.int .i64 (-1)] 35)
 have HR2:=bH (bI (blk_alloc_at w16 (.cells #[.string ⟨#[99,117,116]⟩,.int .i64 0,.int .i64 1,.slice tb 2 td,.int .i64 (-1)] 35)) (h8.keep hxa))
 replace HP:=bH (bI (HP.out.1.keep ((hx15.trans hx8).trans hxa)) (bI (blk_keep HP.out.2.1 ((hx15.trans hx8).trans hxa)) (HP.out.2.2.trans ((hx15.trans hx8).trans hxa))))
 replace HXr:=bH (HXr.out.keep ((hx15.trans hx8).trans hxa))
 replace HC:=bH (bI (blk_keep HC.out.1 ((hx15.trans hx8).trans hxa)) (HC.out.2.keep ((hx15.trans hx8).trans hxa)))
 replace HR1:=bH (bI (blk_keep HR1.out.1 ((hx15.trans hx8).trans hxa)) (HR1.out.2.keep ((hx15.trans hx8).trans hxa)))
 clear p0 p1 f0 f1 f2 h8 hx8 hxa hx15 HD2 HM HQ3
 generalize w16.alloc (.cells #[.string ⟨#[99,117,116]⟩,.int .i64 0,.int .i64 1,.slice tb 2 td,.int .i64 (-1)] 35)=w17 at *
 generalize w16.heap.size=sb at *
 have HSp:=bH (show Calls Tryz.prog 23 #[.agg #[.slice vo 3 vc,.slice ro 1 rc],.slice (some ⟨xb,0,none⟩) 3 3] w17 (fun r w'=>∃ oo n oc,r=.returned (.slice oo n oc)/\0<n/\n<=maxLen/\XF w17 w') from
  (Separate_any w17 _ _ ex7 ex7X 10 HP.out.1 HXr.out (by decide) (by decide) (by decide) (by decide) ex7_terms).mono (by
   rintro r w' ⟨ov,qs,rfl,ho,-,-,h0,hx⟩
   have hne:=h0 ex7_valid (by decide) ex7C ex7_cov ex7_brk
   have hle:=owns_le ho
   obtain ⟨oo,oc,rfl⟩:=ownsRow_shape ho
   exact ⟨oo,_,oc,rfl,List.length_pos_iff.2 hne,hle,hx⟩))
 have p0:=cellq HP.out.2.1 0 rfl
 have p1:=cellq HP.out.2.1 1 rfl
 have hmax:maxLen<=9223372036854775807:=by unfold maxLen; decide
 go_upto_region 11 with (go_at_call 23; (with_reducible refine HSp.out.mono ?_); rintro q9 w18 ⟨oo,on,oc,rfl,hn0,hnm,hx9⟩; have hn1:¬ (on:Int)=0:=by omega)
 replace HP:=bH (HP.out.2.2.trans hx9)
 replace HC:=bH (bI (blk_keep HC.out.1 hx9) (HC.out.2.keep hx9))
 replace HR1:=bH (bI (blk_keep HR1.out.1 hx9) (HR1.out.2.keep hx9))
 replace HR2:=bH (bI (blk_keep HR2.out.1 hx9) (HR2.out.2.keep hx9))
 clear p0 p1 hx9 HXr HSp hn0 hn1 hnm hmax
 have c3:=cellq HC.out.1 3 rfl
 have hxi:=(Ext.refl (fun _=>False) w18).alloc (.cells #[.int .i64 0,.int .i64 2] 3)
 have HI:=bH (Ints4_any (w18.alloc (.cells #[.int .i64 0,.int .i64 2] 3)) _ _ [0,2] [0,2] (HC.out.2.keep hxi) (ints_two (blk_alloc_at w18 (.cells #[.int .i64 0,.int .i64 2] 3))))
 rw [decide_eq_true rfl] at HI
 have HS1:=bH (fun W b (h1:Tms W (.slice ta 2 tc) [⟨0,1⟩,⟨2,1⟩]) (h2:Tms W (.slice (some ⟨b,0,none⟩) 2 2) [⟨0,1⟩,⟨2,1⟩])=>show Calls Tryz.prog 27 #[.agg #[.string ⟨#[99,117,116]⟩,.int .i64 0,.int .i64 0,.slice ta 2 tc,.int .i64 1],.agg #[.string ⟨#[99,117,116]⟩,.int .i64 0,.int .i64 0,.slice (some ⟨b,0,none⟩) 2 2,.int .i64 1]] W (BoolPost W true) from SameRow_any W ⟨⟨#[99,117,116]⟩,0,0,[⟨0,1⟩,⟨2,1⟩],1⟩ ta (some ⟨b,0,none⟩) tc 2 h1 h2)
 have HS2:=bH (fun W b (h1:Tms W (.slice tb 2 td) [⟨1,-1⟩,⟨2,-1⟩]) (h2:Tms W (.slice (some ⟨b,0,none⟩) 2 2) [⟨1,-1⟩,⟨2,-1⟩])=>show Calls Tryz.prog 27 #[.agg #[.string ⟨#[99,117,116]⟩,.int .i64 0,.int .i64 1,.slice tb 2 td,.int .i64 (-1)],.agg #[.string ⟨#[99,117,116]⟩,.int .i64 0,.int .i64 1,.slice (some ⟨b,0,none⟩) 2 2,.int .i64 (-1)]] W (BoolPost W true) from SameRow_any W ⟨⟨#[99,117,116]⟩,0,1,[⟨1,-1⟩,⟨2,-1⟩],-1⟩ tb (some ⟨b,0,none⟩) td 2 h1 h2)
 go_wp2_with (first
  | (go_at_call 32; (with_reducible refine HI.out.mono ?_); rintro q10 w19 ⟨rfl,hx10⟩; have hX10:=hxi.trans hx10; have r0:=cellq (blk_keep HR1.out.1 hX10) 0 rfl; have r1:=cellq (blk_keep HR1.out.1 hX10) 1 rfl; have r2:=cellq (blk_keep HR1.out.1 hX10) 2 rfl; have r3:=cellq (blk_keep HR1.out.1 hX10) 3 rfl; have r4:=cellq (blk_keep HR1.out.1 hX10) 4 rfl)
  | (go_at_call 27; (with_reducible refine (HS1.out _ _ (HR1.out.2.keep (hX10.trans ((Ext.refl (fun _=>False) w19).alloc (.cells #[.int .i64 0,.int .i64 1,.int .i64 2,.int .i64 1] 70)))) (tms_two (blk_alloc_at w19 (.cells #[.int .i64 0,.int .i64 1,.int .i64 2,.int .i64 1] 70)) ex7_ok1)).mono ?_); rintro q11 w20 ⟨rfl,hx11⟩; have hX11:=(hX10.trans ((Ext.refl (fun _=>False) w19).alloc (.cells #[.int .i64 0,.int .i64 1,.int .i64 2,.int .i64 1] 70))).trans hx11; have s0:=cellq (blk_keep HR2.out.1 hX11) 0 rfl; have s1:=cellq (blk_keep HR2.out.1 hX11) 1 rfl; have s2:=cellq (blk_keep HR2.out.1 hX11) 2 rfl; have s3:=cellq (blk_keep HR2.out.1 hX11) 3 rfl; have s4:=cellq (blk_keep HR2.out.1 hX11) 4 rfl)
  | (go_at_call 27; (with_reducible refine (HS2.out _ _ (HR2.out.2.keep (hX11.trans ((Ext.refl (fun _=>False) w20).alloc (.cells #[.int .i64 1,.int .i64 (-1),.int .i64 2,.int .i64 (-1)] 70)))) (tms_two (blk_alloc_at w20 (.cells #[.int .i64 1,.int .i64 (-1),.int .i64 2,.int .i64 (-1)] 70)) ex7_ok2)).mono ?_); rintro q12 w21 ⟨rfl,hx12⟩))
 go_ret
 exact ⟨rfl,HP.out.trans ((hX11.trans ((Ext.refl (fun _=>False) w20).alloc (.cells #[.int .i64 1,.int .i64 (-1),.int .i64 2,.int .i64 (-1)] 70))).trans hx12)⟩
open Go.ChangeShapes Go.WideShapes Go.ChangeAt Go.RowKit Go.Deep
set_option linter.unusedVariables false
theorem own:ownKnob Tryz.prog.godebug=none:=by kernel_rfl
theorem laidOut:laidOutB Tryz.prog=true:=by kernel_rfl
section
variable {H:Type} {enc:TypeId × Value->H} {w:World} {base:Nat} {spare:Nat->Bool} {held:Bool}
theorem struct_field {P:Program} {t:TypeId} {fs:Array Field} {fuel:Nat} {cs:List Value} {x:DataW H × List MemPlace} (ht:P.underlying t=some (.struct fs)) (h:DataW.trod enc P w base spare held fuel t cs=some x)
  (i:Nat) {f:Field} (hi:fs[i]?=some f) {ty off n:Nat} (h1:f.type=ty) (h2:f.offset=off) (h3:P.cellsOf ty=n):∃ m y,DataW.trod enc P w base spare held m ty ((cs.drop off).take n)=some y:=by
 obtain ⟨xs,m,_,_,hl,hxl,hf⟩:=DataW.trod_struct ht h
 subst h1 h2 h3
 have hlt:i<xs.length:=by rw [hxl]; exact (Array.getElem?_eq_some_iff.1 hi).1
 exact ⟨m,_,(hf i f hi).trans (List.getElem?_eq_getElem hlt)⟩
theorem struct_length {P:Program} {t:TypeId} {fs:Array Field} {fuel:Nat} {cs:List Value} {x:DataW H × List MemPlace} (ht:P.underlying t=some (.struct fs)) (h:DataW.trod enc P w base spare held fuel t cs=some x) {n:Nat} (h3:P.cellsOf t=n):cs.length=n:=by
 obtain ⟨xs,m,_,_,hl,hxl,hf⟩:=DataW.trod_struct ht h
 rw [hl,h3]
theorem list_of {α:Type} {R:List Value->α->Prop}:∀ {css:List (List Value)},(∀ c ∈ css,∃ x,R c x)->∃ l:List α,l.length=css.length/\∀ (i:Nat) c x,css[i]?=some c->l[i]?=some x->R c x
 | [],_=>⟨[],rfl,fun i c x h=>by simp at h⟩
 | c :: css,h=>by
  obtain ⟨x,hx⟩:=h c (by simp)
  obtain ⟨l,h1,h2⟩:=list_of (css:=css) (fun c hc=>h c (by simp [hc]))
  refine ⟨x :: l,by simp [h1],fun i c' x' hc hx'=>?_⟩
  cases i with
  | zero=>simp at hc hx'; subst hc hx'; exact hx
  | succ i=>simp at hc hx'; exact h2 i c' x' hc hx'
theorem map_of {α:Type} {f:α->List Value} {Q:α->Prop} {css:List (List Value)} (h:∀ c ∈ css,∃ x,c=f x/\Q x):∃ l:List α,css=l.map f/\∀ x ∈ l,Q x:=by
 obtain ⟨l,h1,h2⟩:=list_of (R:=fun c x=>c=f x/\Q x) h
 refine ⟨l,List.ext_getElem? fun i=>?_,fun x hx=>?_⟩
 ·rw [List.getElem?_map]
  by_cases hi:i<l.length
  ·rw [List.getElem?_eq_getElem hi,List.getElem?_eq_getElem (by omega:i<css.length)]
   simp only [Option.map_some]
   exact congrArg some (h2 i _ _ (List.getElem?_eq_getElem (by omega)) (List.getElem?_eq_getElem hi)).1
  ·rw [List.getElem?_eq_none (by omega),List.getElem?_eq_none (by omega)]; rfl
 ·obtain ⟨i,hi,rfl⟩:=List.getElem_of_mem hx
  exact (h2 i _ _ (List.getElem?_eq_getElem (by omega)) (List.getElem?_eq_getElem hi)).2
theorem open_sl {t e:TypeId} {m:Nat} {fuel:Nat} {cs:List Value} {x:DataW H × List MemPlace} (ht:Tryz.prog.underlying t=some (.slice e)) (hc:Tryz.prog.cellsOf e=m) (hm:0<m) {R:List Value->Prop}
  (he:∀ fuel cs x,DataW.trod enc Tryz.prog w base spare held fuel e cs=some x->R cs) (h:DataW.trod enc Tryz.prog w base spare held fuel t cs=some x) :
  ∃ v css,cs=[v]/\Sl w v m css/\∀ c ∈ css,R c:=by
 rcases open_slice ht h with ⟨hcs,_⟩ | ⟨a,l,c,k,n',D,Pl,hcs,_,hlc,hcm,hk,_,hel⟩
 ·exact ⟨_,[],hcs,Sl.nil w m,by simp⟩
 ·have hlk:l<=k:=by rw [hk]; split <;> omega
  have hel':∀ i,i<l->∃ c':List Value,c'.length=m/\R c'/\∀ j u,c'[j]?=some u->w.cell? ((a.add (i*m)).add j)=some u:=fun i hi=>by
   obtain ⟨cs',h1,h2⟩:=hel i (by omega)
   rw [hc] at h1
   obtain ⟨_,hlen,hat⟩:=World.cells?_some h1
   exact ⟨cs',hlen,he _ _ _ h2,fun j u hu=>(hat j (by have:=(List.getElem?_eq_some_iff.1 hu).1; omega)).trans hu⟩
  obtain ⟨css,h1,h2⟩:∃ css:List (List Value),css.length=l/\∀ i (h:i<css.length),css[i].length=m/\R css[i]/\∀ j u,css[i][j]?=some u->w.cell? ((a.add (i*m)).add j)=some u:=by
   refine ⟨List.ofFn fun i:Fin l=>Classical.choose (hel' i i.2),by simp,fun i hi=>?_⟩
   simp at hi
   have:=Classical.choose_spec (hel' i hi)
   simpa using this
  subst h1
  refine ⟨_,css,hcs,⟨some a,c,rfl,hlc,hcm,(fun e=>by cases e),fun hp=>?_⟩,fun c' hc'=>?_⟩
  ·obtain ⟨b,off,spot⟩:=a
   obtain ⟨e1,_,e3⟩:=h2 0 hp
   have e4:=e3 0 _ (List.getElem?_eq_getElem (by omega))
   have hspot:spot=none:=by simpa [Addr.add] using World.cell?_spot e4
   subst hspot
   refine ⟨b,off,rfl,by have:=World.block_lt_of_cell? w _ e4; simpa [Addr.add_lit] using this,fun i r hi j u hu=>?_⟩
   obtain ⟨hi',rfl⟩:=List.getElem?_eq_some_iff.1 hi
   have:=(h2 i hi').2.2 j u hu
   simpa [Addr.add_lit,Nat.add_assoc] using this
  ·obtain ⟨i,hi,rfl⟩:=List.getElem_of_mem hc'
   exact (h2 i hi).2.1
theorem cellsInt:Tryz.prog.cellsOf 3=1:=by kernel_rfl
theorem cellsI64:Tryz.prog.cellsOf 2=1:=by kernel_rfl
theorem cellsU32:Tryz.prog.cellsOf 129=1:=by kernel_rfl
theorem cellsBool:Tryz.prog.cellsOf 4=1:=by kernel_rfl
theorem cellsStr:Tryz.prog.cellsOf 9=1:=by kernel_rfl
theorem cellsNat:Tryz.prog.cellsOf 60=1:=by kernel_rfl
theorem cellsInt2:Tryz.prog.cellsOf 62=2:=by kernel_rfl
theorem cellsRat:Tryz.prog.cellsOf 64=3:=by kernel_rfl
theorem cellsTerm:Tryz.prog.cellsOf 70=2:=by kernel_rfl
theorem cellsTerms:Tryz.prog.cellsOf 33=1:=by kernel_rfl
theorem cellsVar:Tryz.prog.cellsOf 73=5:=by kernel_rfl
theorem cellsVars:Tryz.prog.cellsOf 22=1:=by kernel_rfl
theorem cellsRow:Tryz.prog.cellsOf 35=5:=by kernel_rfl
theorem cellsRows:Tryz.prog.cellsOf 23=1:=by kernel_rfl
theorem cellsProgram:Tryz.prog.cellsOf 25=2:=by kernel_rfl
theorem cellsRats:Tryz.prog.cellsOf 26=1:=by kernel_rfl
theorem open_digit {fuel:Nat} {cs:List Value} {x:DataW H × List MemPlace} (h:DataW.trod enc Tryz.prog w base spare held fuel 129 cs=some x):∃ d:Nat,cs=[dv d]/\d<4294967296:=by
 obtain ⟨a0,h0,_,b0⟩:=DataW.trod_int Tryz.underlying129 h
 simp [Lit.wf,IntKind.min,IntKind.max,IntKind.signed,IntKind.bits] at b0
 refine ⟨a0.toNat,?_,by omega⟩
 rw [h0]
 show [Value.int .u32 a0]=[Value.int .u32 (a0.toNat:Int)]
 rw [Int.toNat_of_nonneg (by omega)]
theorem open_nat {fuel:Nat} {cs:List Value} {x:DataW H × List MemPlace} (h:DataW.trod enc Tryz.prog w base spare held fuel 60 cs=some x):∃ v l,cs=[v]/\Rds w v l:=by
 obtain ⟨v,css,rfl,hs,hc⟩:=open_sl Tryz.underlying60 cellsU32 (by decide) (fun _ _ _ h=>open_digit h) h
 obtain ⟨l,rfl,hl⟩:=map_of (f:=fun d=>[dv d]) (Q:=fun d=>d<4294967296) hc
 obtain ⟨ao,c,rfl,h1,h2,h3,h4⟩:=hs
 rw [List.length_map] at h1 h4 ⊢
 refine ⟨_,l,rfl,hl,ao,c,rfl,h1,h2,h3,fun hp=>?_⟩
 obtain ⟨b,off,e,hb,hcell⟩:=h4 hp
 refine ⟨b,off,e,hb,fun i d hi=>?_⟩
 have:=hcell i [dv d] (by rw [List.getElem?_map,hi]; rfl) 0 (dv d) rfl
 simpa using this
theorem open_rat {fuel:Nat} {cs:List Value} {x:DataW H × List MemPlace} (h:DataW.trod enc Tryz.prog w base spare held fuel 64 cs=some x):∃ r:RatV,IsRaw w (.agg cs.toArray) r:=by
 have hl:=struct_length Tryz.underlying64 h cellsRat
 obtain ⟨_,_,f0⟩:=struct_field Tryz.underlying64 h 0 rfl rfl rfl cellsInt2
 obtain ⟨_,_,f1⟩:=struct_field Tryz.underlying64 h 1 rfl rfl rfl cellsNat
 obtain ⟨_,_,g0⟩:=struct_field Tryz.underlying62 f0 0 rfl rfl rfl cellsBool
 obtain ⟨_,_,g1⟩:=struct_field Tryz.underlying62 f0 1 rfl rfl rfl cellsNat
 clear h f0
 obtain ⟨ng,hn,_⟩:=DataW.trod_bool Tryz.underlying4 g0
 obtain ⟨v1,l1,e1,k1⟩:=open_nat g1
 obtain ⟨v2,l2,e2,k2⟩:=open_nat f1
 clear g0 g1 f1
 match cs,hl with
 | [c0,c1,c2],_ =>
  simp at hn e1 e2
  subst hn e1 e2
  exact ⟨⟨ng,l1,l2⟩,_,_,rfl,k1,k2⟩
theorem open_rats {fuel:Nat} {cs:List Value} {x:DataW H × List MemPlace} (h:DataW.trod enc Tryz.prog w base spare held fuel 26 cs=some x):∃ v rs,cs=[v]/\Raws w v rs:=by
 obtain ⟨v,css,rfl,hs,hc⟩:=open_sl Tryz.underlying26 cellsRat (by decide) (fun _ _ _ h=>open_rat h) h
 obtain ⟨l,h1,h2⟩:=list_of (R:=fun c r=>IsRaw w (.agg c.toArray) r) hc
 exact ⟨v,l,rfl,css,h1.symm,hs,h2⟩
theorem inR_of {k:IntKind} {a:Int} (hk:k=.i64) (h:(Lit.int k a).wf=true):InR a:=by
 subst hk
 simp [Lit.wf,IntKind.min,IntKind.max,IntKind.signed,IntKind.bits] at h
 unfold InR
 omega
theorem open_var {fuel:Nat} {cs:List Value} {x:DataW H × List MemPlace} (h:DataW.trod enc Tryz.prog w base spare held fuel 73 cs=some x):∃ v:VarV,cs=cV v/\VarOk v:=by
 have hl:=struct_length Tryz.underlying73 h cellsVar
 obtain ⟨_,_,f0⟩:=struct_field Tryz.underlying73 h 0 rfl rfl rfl cellsI64
 obtain ⟨_,_,f1⟩:=struct_field Tryz.underlying73 h 1 rfl rfl rfl cellsI64
 obtain ⟨_,_,f2⟩:=struct_field Tryz.underlying73 h 2 rfl rfl rfl cellsBool
 obtain ⟨_,_,f3⟩:=struct_field Tryz.underlying73 h 3 rfl rfl rfl cellsBool
 obtain ⟨_,_,f4⟩:=struct_field Tryz.underlying73 h 4 rfl rfl rfl cellsI64
 clear h
 obtain ⟨a0,h0,_,b0⟩:=DataW.trod_int Tryz.underlying2 f0
 obtain ⟨a1,h1,_,b1⟩:=DataW.trod_int Tryz.underlying2 f1
 obtain ⟨a2,h2,_⟩:=DataW.trod_bool Tryz.underlying4 f2
 obtain ⟨a3,h3,_⟩:=DataW.trod_bool Tryz.underlying4 f3
 obtain ⟨a4,h4,_,b4⟩:=DataW.trod_int Tryz.underlying2 f4
 clear f0 f1 f2 f3 f4
 match cs,hl with
 | [c0,c1,c2,c3,c4],_ =>
  simp at h0 h1 h2 h3 h4
  exact ⟨⟨a0,a1,a2,a3,a4⟩,by rw [h0,h1,h2,h3,h4]; rfl,inR_of rfl b0,inR_of rfl b1,inR_of rfl b4⟩
theorem open_term {fuel:Nat} {cs:List Value} {x:DataW H × List MemPlace} (h:DataW.trod enc Tryz.prog w base spare held fuel 70 cs=some x):∃ t:TermV,cs=cT t/\TermOk t:=by
 have hl:=struct_length Tryz.underlying70 h cellsTerm
 obtain ⟨_,_,f0⟩:=struct_field Tryz.underlying70 h 0 rfl rfl rfl cellsInt
 obtain ⟨_,_,f1⟩:=struct_field Tryz.underlying70 h 1 rfl rfl rfl cellsI64
 clear h
 obtain ⟨a0,h0,_,b0⟩:=DataW.trod_int Tryz.underlying3 f0
 obtain ⟨a1,h1,_,b1⟩:=DataW.trod_int Tryz.underlying2 f1
 clear f0 f1
 match cs,hl with
 | [c0,c1],_ =>
  simp at h0 h1
  exact ⟨⟨a0,a1⟩,by rw [h0,h1]; rfl,inR_of rfl b0,inR_of rfl b1⟩
theorem open_terms {fuel:Nat} {cs:List Value} {x:DataW H × List MemPlace} (h:DataW.trod enc Tryz.prog w base spare held fuel 33 cs=some x):∃ v l,cs=[v]/\Tms w v l:=by
 obtain ⟨v,css,rfl,hs,hc⟩:=open_sl Tryz.underlying33 cellsTerm (by decide) (fun _ _ _ h=>open_term h) h
 obtain ⟨l,rfl,hl⟩:=map_of hc
 exact ⟨v,l,rfl,hs,hl⟩
theorem open_row {fuel:Nat} {cs:List Value} {x:DataW H × List MemPlace} (h:DataW.trod enc Tryz.prog w base spare held fuel 35 cs=some x):∃ y:RowV × Value,cs=cR y.1 y.2/\Tms w y.2 y.1.terms/\RowOk y.1:=by
 have hl:=struct_length Tryz.underlying35 h cellsRow
 obtain ⟨_,_,f0⟩:=struct_field Tryz.underlying35 h 0 rfl rfl rfl cellsStr
 obtain ⟨_,_,f1⟩:=struct_field Tryz.underlying35 h 1 rfl rfl rfl cellsInt
 obtain ⟨_,_,f2⟩:=struct_field Tryz.underlying35 h 2 rfl rfl rfl cellsInt
 obtain ⟨_,_,f3⟩:=struct_field Tryz.underlying35 h 3 rfl rfl rfl cellsTerms
 obtain ⟨_,_,f4⟩:=struct_field Tryz.underlying35 h 4 rfl rfl rfl cellsI64
 clear h
 obtain ⟨a0,h0,_,b0⟩:=DataW.trod_string Tryz.underlying9 f0
 obtain ⟨a1,h1,_,b1⟩:=DataW.trod_int Tryz.underlying3 f1
 obtain ⟨a2,h2,_,b2⟩:=DataW.trod_int Tryz.underlying3 f2
 obtain ⟨v3,l3,h3,b3⟩:=open_terms f3
 obtain ⟨a4,h4,_,b4⟩:=DataW.trod_int Tryz.underlying2 f4
 clear f0 f1 f2 f3 f4
 match cs,hl with
 | [c0,c1,c2,c3,c4],_ =>
  simp at h0 h1 h2 h3 h4
  exact ⟨⟨⟨a0,a1,a2,l3,a4⟩,v3⟩,by rw [h0,h1,h2,h3,h4]; rfl,b3,b0,inR_of rfl b1,inR_of rfl b2,inR_of rfl b4⟩
theorem open_prog {fuel:Nat} {cs:List Value} {x:DataW H × List MemPlace} (h:DataW.trod enc Tryz.prog w base spare held fuel 25 cs=some x):∃ p:ProgV,IsPrg w (.agg cs.toArray) p:=by
 have hl:=struct_length Tryz.underlying25 h cellsProgram
 obtain ⟨_,_,f0⟩:=struct_field Tryz.underlying25 h 0 rfl rfl rfl cellsVars
 obtain ⟨_,_,f1⟩:=struct_field Tryz.underlying25 h 1 rfl rfl rfl cellsRows
 clear h
 obtain ⟨v0,c0,e0,s0,k0⟩:=open_sl Tryz.underlying22 cellsVar (by decide) (fun _ _ _ h=>open_var h) f0
 obtain ⟨v1,c1,e1,s1,k1⟩:=open_sl Tryz.underlying23 cellsRow (by decide) (fun _ _ _ h=>open_row h) f1
 clear f0 f1
 obtain ⟨l0,rfl,g0⟩:=map_of k0
 obtain ⟨l1,n1,g1⟩:=list_of (R:=fun c (y:RowV × Value)=>c=cR y.1 y.2/\Tms w y.2 y.1.terms/\RowOk y.1) k1
 have hz:c1=List.zipWith cR (l1.map (·.1)) (l1.map (·.2)):=by
  apply List.ext_getElem?
  intro i
  rw [List.getElem?_zipWith,List.getElem?_map,List.getElem?_map]
  by_cases hi:i<l1.length
  ·rw [List.getElem?_eq_getElem hi,List.getElem?_eq_getElem (by omega:i<c1.length)]
   simp only [Option.map_some]
   exact congrArg some (g1 i _ _ (List.getElem?_eq_getElem (by omega)) (List.getElem?_eq_getElem hi)).1
  ·rw [List.getElem?_eq_none (by omega),List.getElem?_eq_none (by omega)]; rfl
 rw [hz] at s1
 match cs,hl with
 | [d0,d1],_ =>
  simp at e0 e1
  subst e0 e1
  refine ⟨⟨l0,l1.map (·.1)⟩,_,_,rfl,⟨s0,g0⟩,l1.map (·.2),by simp,s1,fun i r tv hr ht=>?_⟩
  rw [List.getElem?_map] at hr ht
  obtain ⟨y,hy,rfl⟩:=Option.map_eq_some_iff.1 hr
  rw [hy] at ht
  cases ht
  have hi:=(List.getElem?_eq_some_iff.1 hy).1
  exact (g1 i _ _ (List.getElem?_eq_getElem (by omega)) hy).2
end
open Go.Joins in
theorem open_prog_value {H:Type} {enc:TypeId × Value->H} {w:World} {base:Nat} {spare:Nat->Bool} {held:Bool} {r:Reach} {b0:Nat} {v:Value} {d:DataW H} {p:List MemPlace} (hv:Value.okWide Tryz.prog w r b0 25 v) (h:DataW.Trod enc Tryz.prog w base spare held 25 v d p) :
  ∃ y:ProgV,IsPrg w v y:=by
 obtain ⟨cs,rfl,hsz⟩:=okWide_struct Tryz.underlying25 hv
 obtain ⟨fuel,hf⟩:=h
 obtain ⟨y,hy⟩:=open_prog hf
 refine ⟨y,?_⟩
 simpa [Value.cells] using hy
theorem open_rats_value {H:Type} {enc:TypeId × Value->H} {w:World} {base:Nat} {spare:Nat->Bool} {held:Bool} {r:Reach} {b0:Nat} {v:Value} {d:DataW H} {p:List MemPlace} (hv:Value.okWide Tryz.prog w r b0 26 v) (h:DataW.Trod enc Tryz.prog w base spare held 26 v d p) :
  ∃ rs:List RatV,Raws w v rs:=by
 obtain ⟨a0,len0,cap0,rfl⟩:=okWide_slice Tryz.underlying26 hv
 obtain ⟨fuel,hf⟩:=h
 obtain ⟨v,rs,e,hr⟩:=open_rats hf
 simp [Value.cells] at e
 subst e
 exact ⟨rs,hr⟩
open Go.RowKit Go.MapKept Go.Deep
structure RawCut where
 kind:Int
 mul:List RatV
 row:Int
 vars:List Int
def RawCut.c (c:RawCut):CutV:=⟨c.kind,valL c.mul,c.row,c.vars⟩
def IsRCut (w:World) (v:Value) (c:RawCut):Prop:=∃ yv sv,v=.agg #[.int .i64 c.kind,yv,.int .i64 c.row,sv]/\Raws w yv c.mul/\Inz w sv c.vars/\InR c.kind/\InR c.row
theorem IsRCut.keep {w w':World} {v:Value} {c:RawCut} (h:IsRCut w v c) (hx:XF w w'):IsRCut w' v c:=by
 obtain ⟨yv,sv,e,h1,h2,h3⟩:=h
 exact ⟨yv,sv,e,h1.keep hx,h2.keep hx,h3⟩
def few7 (c:RawCut):Bool:=decide (c.vars.length<=10) && shortB c.mul 10
theorem IsRCut.cut {w:World} {v:Value} {c:RawCut} (h:IsRCut w v c) (hf:few7 c=true):IsCut w v c.c 4:=by
 obtain ⟨yv,sv,e,h1,h2,-⟩:=h
 unfold few7 shortB at hf
 simp only [Bool.and_eq_true] at hf
 exact ⟨yv,sv,e,h1.rats hf.2.2,h2⟩
section
open Go.ChangeShapes Go.WideShapes Go.ChangeAt
variable {H:Type} {enc:TypeId × Value->H} {w:World} {base:Nat} {spare:Nat->Bool} {held:Bool}
theorem cellsInts7:Tryz.prog.cellsOf 27=1:=by kernel_rfl
theorem cellsCut:Tryz.prog.cellsOf 29=4:=by kernel_rfl
theorem open_intz {fuel:Nat} {cs:List Value} {x:DataW H × List MemPlace} (h:DataW.trod enc Tryz.prog w base spare held fuel 27 cs=some x):∃ v l,cs=[v]/\Inz w v l:=by
 obtain ⟨v,css,rfl,hs,hc⟩:=open_sl (R:=fun c=>∃ n:Int,c=cI n) Tryz.underlying27 cellsInt (by decide) (fun _ _ _ h=>by
  obtain ⟨a,e,_,_⟩:=DataW.trod_int Tryz.underlying3 h
  exact ⟨a,e⟩) h
 obtain ⟨l,rfl⟩:∃ l:List Int,css=l.map cI:=by
  clear hs h
  induction css with
  | nil=>exact ⟨[],rfl⟩
  | cons c cs ih =>
   obtain ⟨n,hn⟩:=hc c (List.mem_cons_self ..)
   obtain ⟨l,hl⟩:=ih (fun x hx=>hc x (List.mem_cons_of_mem _ hx))
   exact ⟨n :: l,by rw [hn,hl]; rfl⟩
 exact ⟨v,l,rfl,hs⟩
theorem open_cut {fuel:Nat} {cs:List Value} {x:DataW H × List MemPlace} (h:DataW.trod enc Tryz.prog w base spare held fuel 29 cs=some x):∃ c:RawCut,IsRCut w (.agg cs.toArray) c:=by
 have hl:=struct_length Tryz.underlying29 h cellsCut
 obtain ⟨_,_,f0⟩:=struct_field Tryz.underlying29 h 0 rfl rfl rfl cellsInt
 obtain ⟨_,_,f1⟩:=struct_field Tryz.underlying29 h 1 rfl rfl rfl cellsRats
 obtain ⟨_,_,f2⟩:=struct_field Tryz.underlying29 h 2 rfl rfl rfl cellsInt
 obtain ⟨_,_,f3⟩:=struct_field Tryz.underlying29 h 3 rfl rfl rfl cellsInts7
 clear h
 obtain ⟨a0,h0,_,b0⟩:=DataW.trod_int Tryz.underlying3 f0
 obtain ⟨v1,l1,e1,k1⟩:=open_rats f1
 obtain ⟨a2,h2,_,b2⟩:=DataW.trod_int Tryz.underlying3 f2
 obtain ⟨v3,l3,e3,k3⟩:=open_intz f3
 clear f0 f1 f2 f3
 match cs,hl with
 | [c0,c1,c2,c3],_ =>
  simp at h0 e1 h2 e3
  subst h0 e1 h2 e3
  exact ⟨⟨a0,l1,a2,l3⟩,_,_,rfl,k1,k3,inR_of rfl b0,inR_of rfl b2⟩
end
open Go.Joins Go.ChangeShapes Go.WideShapes Go.ChangeAt in
theorem open_cut_value {H:Type} {enc:TypeId × Value->H} {w:World} {base:Nat} {spare:Nat->Bool} {held:Bool} {r:Reach} {b0:Nat} {v:Value} {d:DataW H} {p:List MemPlace} (hv:Value.okWide Tryz.prog w r b0 29 v) (h:DataW.Trod enc Tryz.prog w base spare held 29 v d p) :
  ∃ y:RawCut,IsRCut w v y:=by
 obtain ⟨cs,rfl,hsz⟩:=okWide_struct Tryz.underlying29 hv
 obtain ⟨fuel,hf⟩:=h
 obtain ⟨y,hy⟩:=open_cut hf
 refine ⟨y,?_⟩
 simpa [Value.cells] using hy
theorem Few7_any (w:World) (cv:Value) (c:RawCut) (h:IsRCut w cv c):Calls Tryz.prog 11 #[cv] w (BoolPost w (few7 c)):=by
 obtain ⟨yv,sv,rfl,hy,hv,-,-⟩:=h
 obtain ⟨yo,yc,rfl,-,hyn,-⟩:=hy.shape
 obtain ⟨so,sc,rfl,hsm⟩:=hv.shape
 obtain ⟨kd,hkd⟩:∃ x,c.kind=x:=⟨_,rfl⟩
 obtain ⟨crow,hcr⟩:∃ x,c.row=x:=⟨_,rfl⟩
 obtain ⟨yn,hyn'⟩:∃ x,c.mul.length=x:=⟨_,rfl⟩
 obtain ⟨sl,hsl⟩:∃ x,c.vars.length=x:=⟨_,rfl⟩
 obtain ⟨sb,hsb⟩:∃ x,shortB c.mul 10=x:=⟨_,rfl⟩
 have HF:=bH (show few7 c=(decide (sl<=10) && sb) from by unfold few7; rw [hsl,hsb])
 have hxa:=(Ext.refl (fun _=>False) w).alloc (.cells #[.int .i64 kd,.slice yo yn yc,.int .i64 crow,.slice so sl sc] 29)
 have HS:=bH (fun W (hW:XF (w.alloc (.cells #[.int .i64 kd,.slice yo yn yc,.int .i64 crow,.slice so sl sc] 29)) W)=>show Calls Tryz.prog 17 #[.slice yo c.mul.length yc,.int .i64 10] W (BoolPost W (shortB c.mul 10)) from Short_any W _ c.mul 10 (by decide) (hy.keep (hxa.trans hW)))
 rw [hyn',hsb] at HS
 have HB:=bH (bI (blk_alloc_at w (.cells #[.int .i64 kd,.slice yo yn yc,.int .i64 crow,.slice so sl sc] 29)) hxa)
 rw [hkd,hcr,hyn',hsl]
 clear hy hv hyn hsm hkd hcr hyn' hsl hsb hxa
 go_enter Tryz.func11,Tryz.ntmps11
 go_upto_region 1 with fail
 generalize w.alloc (.cells #[.int .i64 kd,.slice yo yn yc,.int .i64 crow,.slice so sl sc] 29)=w1 at *
 generalize w.heap.size=cb at *
 have e1:=cellq HB.out.1 1 rfl
 have e3:=cellq HB.out.1 3 rfl
 by_cases q:sl<=10
 ·have q':(sl:Int)<=10:=by omega
  go_wp2_with (go_at_call 17; (with_reducible refine (HS.out _ (Ext.refl _ _)).mono ?_); rintro r8 w8 ⟨rfl,hx8⟩)
  go_ret
  exact ⟨ret_bool (by rw [HF.out,decide_eq_true q]; rfl),HB.out.2.trans hx8⟩
 ·have q':¬ (sl:Int)<=10:=by omega
  go_wp2
  go_ret
  exact ⟨ret_bool (by rw [HF.out,decide_eq_false q]; rfl),HB.out.2⟩
def intJ (p:ProgV) (x:List Rat) (j:Nat):Bool:=!((p.v j).ig && decide (0<(dg (dw (atQ x j).den)).length))
def integB (p:ProgV) (x:List Rat):Bool:=allTo p.vars.length (intJ p x)
theorem den_one {q:Rat} (h:¬ 0<(dg (dw q.den)).length):∃ n:Int,q=n:=by
 have h0:dg (dw q.den)=[]:=List.length_eq_zero_iff.1 (by omega)
 have h1:dw q.den=0:=dg_eq_nil.1 h0
 have h2:q.den=1:=by
  unfold dw at h1
  split at h1
  ·assumption
  ·exact absurd h1 q.den_nz
 exact ⟨q.num,Rat.ext (by rw [Rat.num_intCast]) (by rw [h2,Rat.den_intCast])⟩
theorem integ_IntX {p:ProgV} {x:List Rat} (h:integB p x=true):IntX p x:=fun j hj hg=>by
 have h1:=allTo_iff.1 h j hj
 unfold intJ at h1
 rw [hg] at h1
 simp only [Bool.true_and,Bool.not_eq_true',decide_eq_false_iff_not] at h1
 exact den_one h1
theorem run_den (ng:Bool) (u v:Value) (w:World):(Instr.field 64 (.agg #[.bool ng,u,v]) 1).run Tryz.prog w=.ok v w:=by kernel_rfl
theorem Integral_any (w:World) (pv xv:Value) (p:ProgV) (x:List Rat) (L:Nat) (hp:IsPrg w pv p) (hy:Rats w xv x L) (h1:1<=L) (hL:L<=1000000) :
  Calls Tryz.prog 19 #[pv,xv] w (BoolPost w (integB p x)):=by
 obtain ⟨vv,rv,rfl,hr,-⟩:=hp
 obtain ⟨vo,vc,rfl,-,hn,-⟩:=hr.shape
 obtain ⟨xo,xc,rfl,-⟩:=hy.shape
 have HV:=bH hr
 have HA:=bH (fun W (hW:XF w W) (i:Nat)=>At_any W _ x L (hy.keep hW) i)
 have HC:=bH (fun W u q (hu:Rrat W u q L)=>Rrfix_any W u q L hu h1 (by omega))
 clear hr hy
 obtain ⟨xn,hxn⟩:∃ n,x.length=n:=⟨_,rfl⟩
 rw [hxn] at HA ⊢
 clear hxn
 obtain ⟨n,hn'⟩:∃ n,p.vars.length=n:=⟨_,rfl⟩
 have HN:=bH hn'
 rw [hn'] at hn ⊢ HV
 clear hn'
 have HB:=bH (bI (blk_alloc_at w (.cells #[.slice vo n vc,rv] 25)) ((Ext.refl (fun _=>False) w).alloc (.cells #[.slice vo n vc,rv] 25)))
 have hfd:=run_den
 go_enter Tryz.func19,Tryz.ntmps19
 go_upto_region 1 with fail
 generalize hw1:w.alloc (.cells #[.slice vo n vc,rv] 25)=w1 at *
 clear hw1
 obtain ⟨pb,hpb⟩:∃ pb,w.heap.size=pb:=⟨_,rfl⟩
 rw [hpb] at HB ⊢
 clear hpb
 have z0:=cellq HB.out.1 0 rfl
 go_wp2_with fail
 go_loopg [5] n (fun gg v5 wr=>∃ i:Nat,i<=n/\gg=n - i/\v5=.int .i64 i/\allTo i (intJ p x)=true/\wr.cell? ⟨pb,0,none⟩=some (.slice vo n vc)/\XF w wr)
 case atStart=>exact ⟨0,Nat.zero_le _,rfl,rfl,rfl,z0,HB.out.2⟩
 case round =>
  clear z0
  obtain ⟨i,hi,rfl,rfl,hall,z0,hx⟩:=hrel
  have HX:=bH hall
  clear hall
  by_cases hin:i<n
  ·have i0:(i:Int)<(n:Int):=by omega
   have i1:(0:Int)<=(i:Int):=by omega
   obtain ⟨b,off,rfl,-,e0,e1,e2,e3,e4,hok⟩:=(HV.out.keep hx).atp i (by rw [HN.out]; exact hin)
   have HAi:=bH (HA.out wr hx i)
   have HJ:=bH (show intJ p x i=!((p.v i).ig && decide (0<(dg (dw (atQ x i).den)).length)) from rfl)
   obtain ⟨dn,hdn⟩:∃ dn,(dg (dw (atQ x i).den)).length=dn:=⟨_,rfl⟩
   have HCi:=bH (fun W u (hu:Rrat W u (atQ x i) L)=>show Calls Tryz.prog 41 #[u] W (fun r w'=>∃ ng a m c a' c',r=.returned (.agg #[.bool ng,.slice a m c,.slice a' dn c'])/\XF W w') from (HC.out W u _ hu).mono (by
    rintro r w' ⟨v,rfl,⟨m,d,rfl,h1,h2⟩,hx⟩
    obtain ⟨a,c,rfl⟩:=h1.shape
    obtain ⟨a',c',rfl⟩:=h2.shape
    exact ⟨_,a,_,c,a',c',by rw [hdn],hx⟩))
   rw [hdn] at HJ
   clear e0 e1 e2 e4 hok hdn
   generalize (p.v i).ig=ig at *
   cases ig with
   | false =>
    go_wp2
    go_roundg (n - (i+1))
    case measure=>omega
    case rel=>exact ⟨i+1,by omega,rfl,by go_num,allTo_next HX.out (by rw [HJ.out]; rfl),z0,hx⟩
   | true =>
    by_cases hd:0<dn
    ·have HD:=bH hd
     go_wp2_with (first | (go_at_call 40; (with_reducible refine HAi.out.mono ?_); rintro q0 w10 ⟨v10,rfl,h10,hx10⟩) | (go_at_call 41; (with_reducible refine (HCi.out _ _ h10).mono ?_); rintro q1 w11 ⟨n11,a11,m11,c11,a12,c12,rfl,hx11⟩))
     go_ret
     exact ⟨ret_bool (by
      have hf:intJ p x i=false:=by rw [HJ.out]; simp [decide_eq_true HD.out]
      have:¬ integB p x=true:=fun h=>by rw [allTo_iff.1 h i (by rw [HN.out]; exact hin)] at hf; cases hf
      simpa using this),(hx.trans hx10).trans hx11⟩
    ·have HD:=bH hd
     go_wp2_with (first | (go_at_call 40; (with_reducible refine HAi.out.mono ?_); rintro q0 w10 ⟨v10,rfl,h10,hx10⟩) | (go_at_call 41; (with_reducible refine (HCi.out _ _ h10).mono ?_); rintro q1 w11 ⟨n11,a11,m11,c11,a12,c12,rfl,hx11⟩))
     go_roundg (n - (i+1))
     case measure=>omega
     case rel=>exact ⟨i+1,by omega,rfl,by go_num,allTo_next HX.out (by rw [HJ.out]; simp [decide_eq_false HD.out]),cell_keep z0 (hx10.trans hx11),(hx.trans hx10).trans hx11⟩
  ·obtain rfl:i=n:=by omega
   have i0:¬ (i:Int)<(i:Int):=by omega
   have HE:=bH hx
   clear hx
   go_wp2
   go_ret
   exact ⟨ret_bool (by unfold integB; rw [HN.out]; exact HX.out.symm),HE.out⟩
theorem few_parts7 {p:ProgV} (h:fewP p 6 8=true):(∀ i,i<p.rows.length->(p.r i).terms.length<=12)/\p.vars.length<=6/\p.rows.length<=8:=by
 unfold fewP at h
 simp only [Bool.and_eq_true,decide_eq_true_eq] at h
 refine ⟨fun i hi=>?_,h.1.2,h.2⟩
 have h1:=List.all_eq_true.1 h.1.1 (p.r i) (by unfold ProgV.r; rw [getD_lt hi]; exact List.getElem_mem _)
 unfold fewRow at h1
 simp only [Bool.and_eq_true,decide_eq_true_eq] at h1
 exact h1.1
theorem few7_vars {c:RawCut} (h:few7 c=true):c.c.vars.length<=1000:=by
 unfold few7 at h
 simp only [Bool.and_eq_true,decide_eq_true_eq] at h
 exact Nat.le_trans h.1 (by decide)
theorem IsCut.mono {w:World} {v:Value} {c:CutV} {L M:Nat} (h:IsCut w v c L) (hl:L<=M):IsCut w v c M:=by
 obtain ⟨yv,sv,e,h1,h2⟩:=h
 exact ⟨yv,sv,e,h1.mono hl,h2⟩
def DrvAs (w:World) (nm:ByteArray) (gr kr:Int) (ts:List TermV) (tn:Nat) (br er:Int) (r:Ending) (w':World):Prop:=∃ ta tc,r=.returned (.tuple #[.agg #[.string nm,.int .i64 gr,.int .i64 kr,.slice ta tn tc,.int .i64 br],.int .i64 er])/\Tms w' (.slice ta tn tc) ts/\XF w w'
theorem DrvPost.as {w:World} {re:RowV × Int} {r:Ending} {w':World} {nm:ByteArray} {gr kr:Int} {ts:List TermV} {tn:Nat} {br er:Int} (h:DrvPost w re r w') (e:re=(⟨nm,gr,kr,ts,br⟩,er)) (hn:ts.length=tn):DrvAs w nm gr kr ts tn br er r w':=by
 subst e hn
 obtain ⟨tv,rfl,h1,h2,-⟩:=h
 obtain ⟨ta,tc,rfl,-⟩:=Tms.shape h1
 exact ⟨ta,tc,rfl,h1,h2⟩
theorem derv_in {p:ProgV} {c:CutV} (hs:CSmall p c) (h:(deriveP p c).2=0):RowOk (deriveP p c).1/\(deriveP p c).1.terms.length<=1000:=by
 have hr:rowB p.vars.length (deriveP p c).1=true:=derive_row (p:=p) (c:=c) (r:=(deriveP p c).1) (by rw [<- h])
 refine ⟨?_,?_⟩
 ·unfold rowB at hr
  simp only [Bool.and_eq_true,decide_eq_true_eq] at hr
  exact ⟨Nat.le_trans hr.1.1.1.2 (by unfold maxLen; decide),⟨by omega,by omega⟩,⟨by omega,by omega⟩,limB_inR hr.1.1.2⟩
 ·have:=(derv_small hs).2
  unfold deriveP
  split
  ·exact this
  ·exact Nat.zero_le _
theorem mixed_core (w:World) (pv cv xv:Value) (p:ProgV) (c:RawCut) (x:List RatV) (hp:IsPrg w pv p) (hc:IsRCut w cv c) (hx:Raws w xv x):Calls Tryz.prog 4 #[pv,cv,xv] w (BoolPost w true):=by
 obtain ⟨vo,vn,vc,ro,rn,rc,rfl⟩:=hp.slicesP
 have HLn:=bH (show p.vars.length=vn/\p.rows.length=rn from by
  obtain ⟨vv,rv,e,h,h2⟩:=hp
  cases e
  obtain ⟨_,_,e,_⟩:=h.shape
  obtain ⟨_,_,e2,_⟩:=h2.shape
  cases e; cases e2
  exact ⟨rfl,rfl⟩)
 obtain ⟨xo,xc,rfl,-⟩:=hx.shape
 obtain ⟨yv,sv,rfl,hcy,hcv,hck⟩:=hc
 obtain ⟨yo,yc,rfl,-⟩:=hcy.shape
 obtain ⟨so,sc,rfl,-⟩:=hcv.shape
 have hc:IsRCut w _ c:=⟨_,_,rfl,hcy,hcv,hck⟩
 clear hcy hcv hck
 have hxp:=(Ext.refl (fun _=>False) w).alloc (.cells #[.slice vo vn vc,.slice ro rn rc] 25)
 obtain ⟨kd,hkd⟩:∃ x,c.kind=x:=⟨_,rfl⟩
 obtain ⟨yn,hyn⟩:∃ x,c.mul.length=x:=⟨_,rfl⟩
 obtain ⟨cw,hcw⟩:∃ x,c.row=x:=⟨_,rfl⟩
 obtain ⟨sl,hsl⟩:∃ x,c.vars.length=x:=⟨_,rfl⟩
 rw [hkd,hyn,hcw,hsl] at hc ⊢
 clear hkd hyn hcw hsl
 have hxq:=(Ext.refl (fun _=>False) (w.alloc (.cells #[.slice vo vn vc,.slice ro rn rc] 25))).alloc (.cells #[.int .i64 kd,.slice yo yn yc,.int .i64 cw,.slice so sl sc] 29)
 have hxa:=hxp.trans hxq
 have hcb:blk ((w.alloc (.cells #[.slice vo vn vc,.slice ro rn rc] 25)).alloc (.cells #[.int .i64 kd,.slice yo yn yc,.int .i64 cw,.slice so sl sc] 29)) (w.heap.size+1)=some (.cells #[.int .i64 kd,.slice yo yn yc,.int .i64 cw,.slice so sl sc] 29 (0,0)):=by
  have h:=blk_alloc_at (w.alloc (.cells #[.slice vo vn vc,.slice ro rn rc] 25)) (.cells #[.int .i64 kd,.slice yo yn yc,.int .i64 cw,.slice so sl sc] 29)
  rwa [World.size_alloc] at h
 have HB:=bH (bI (hp.keep hxa) (bI (blk_keep (blk_alloc_at w (.cells #[.slice vo vn vc,.slice ro rn rc] 25)) hxq) (bI hxa hcb)))
 have HCt:=bH (fun W (hW:XF ((w.alloc (.cells #[.slice vo vn vc,.slice ro rn rc] 25)).alloc (.cells #[.int .i64 kd,.slice yo yn yc,.int .i64 cw,.slice so sl sc] 29)) W)=>hc.keep (hxa.trans hW))
 clear hcb hxq
 have HXx:=bH (fun W (hW:XF ((w.alloc (.cells #[.slice vo vn vc,.slice ro rn rc] 25)).alloc (.cells #[.int .i64 kd,.slice yo yn yc,.int .i64 cw,.slice so sl sc] 29)) W)=>hx.keep (hxa.trans hW))
 clear hp hxa hxp hx hc
 obtain ⟨xn,hxn⟩:∃ n,x.length=n:=⟨_,rfl⟩
 rw [hxn] at HXx ⊢
 clear hxn
 go_enter Tryz.func4,Tryz.ntmps4
 go_upto_region 1 with fail
 generalize (w.alloc (.cells #[.slice vo vn vc,.slice ro rn rc] 25)).alloc (.cells #[.int .i64 kd,.slice yo yn yc,.int .i64 cw,.slice so sl sc] 29)=w1 at *
 obtain ⟨pb,hpb⟩:∃ q,w.heap.size=q:=⟨_,rfl⟩
 rw [hpb] at HB ⊢
 have HPb:=bH (Nat.le_of_eq hpb)
 clear hpb
 have p0:w1.cell? ⟨pb,0,none⟩=some (.slice vo vn vc):=cellq HB.out.2.1 0 rfl
 have p1:w1.cell? ⟨pb,1,none⟩=some (.slice ro rn rc):=cellq HB.out.2.1 1 rfl
 obtain ⟨cb,hcb⟩:∃ q,pb+1=q:=⟨_,rfl⟩
 rw [hcb] at HB ⊢
 clear hcb
 have c0:=cellq HB.out.2.2.2 0 rfl
 have c1:=cellq HB.out.2.2.2 1 rfl
 have c2:=cellq HB.out.2.2.2 2 rfl
 have c3:=cellq HB.out.2.2.2 3 rfl
 have HC0:=bH (fun W (hW:XF w1 W)=>show Calls Tryz.prog 10 #[(.agg #[.slice vo vn vc,.slice ro rn rc]),.int .i64 6,.int .i64 8] W (BoolPost W (fewP p 6 8)) from FewP_any W (.agg #[.slice vo vn vc,.slice ro rn rc]) p 6 8 (by decide) (by decide) (HB.out.1.keep hW))
 obtain ⟨b0,hb0⟩:∃ b,fewP p 6 8=b:=⟨_,rfl⟩
 rw [hb0] at HC0
 have HG0:=bH hb0
 clear hb0
 cases b0 with
 | false =>
  go_upto_region 2 with (first | (go_at_call 9; (with_reducible refine (awake7_any _).mono ?_); rintro q2 w2 ⟨rfl,hx2⟩; replace p0:=cell_keep p0 hx2; replace p1:=cell_keep p1 hx2; replace c0:=cell_keep c0 hx2; replace c1:=cell_keep c1 hx2; replace c2:=cell_keep c2 hx2; replace c3:=cell_keep c3 hx2) | (go_at_call 10; (with_reducible refine (HC0.out _ (hx2)).mono ?_); rintro q3 w3 ⟨rfl,hx3⟩; replace p0:=cell_keep p0 hx3; replace p1:=cell_keep p1 hx3; replace c0:=cell_keep c0 hx3; replace c1:=cell_keep c1 hx3; replace c2:=cell_keep c2 hx3; replace c3:=cell_keep c3 hx3))
  go_wp2_with (go_at_call 9; refine (awake7_any _).mono ?_; rintro r8 w8 ⟨rfl,hx8⟩)
  go_ret
  exact ⟨rfl,(HB.out.2.2.1.trans (hx2.trans hx3)).trans hx8⟩
 | true =>
 have HC1:=bH (fun W (hW:XF w1 W)=>show Calls Tryz.prog 11 #[(.agg #[.int .i64 kd,.slice yo yn yc,.int .i64 cw,.slice so sl sc])] W (BoolPost W (few7 c)) from Few7_any W (.agg #[.int .i64 kd,.slice yo yn yc,.int .i64 cw,.slice so sl sc]) c (HCt.out W hW))
 obtain ⟨b1,hb1⟩:∃ b,few7 c=b:=⟨_,rfl⟩
 rw [hb1] at HC1
 have HG1:=bH hb1
 clear hb1
 cases b1 with
 | false =>
  go_upto_region 2 with (first | (go_at_call 9; (with_reducible refine (awake7_any _).mono ?_); rintro q2 w2 ⟨rfl,hx2⟩; replace p0:=cell_keep p0 hx2; replace p1:=cell_keep p1 hx2; replace c0:=cell_keep c0 hx2; replace c1:=cell_keep c1 hx2; replace c2:=cell_keep c2 hx2; replace c3:=cell_keep c3 hx2) | (go_at_call 10; (with_reducible refine (HC0.out _ (hx2)).mono ?_); rintro q3 w3 ⟨rfl,hx3⟩; replace p0:=cell_keep p0 hx3; replace p1:=cell_keep p1 hx3; replace c0:=cell_keep c0 hx3; replace c1:=cell_keep c1 hx3; replace c2:=cell_keep c2 hx3; replace c3:=cell_keep c3 hx3) | (go_at_call 11; (with_reducible refine (HC1.out _ (hx2.trans hx3)).mono ?_); rintro q4 w4 ⟨rfl,hx4⟩; replace p0:=cell_keep p0 hx4; replace p1:=cell_keep p1 hx4; replace c0:=cell_keep c0 hx4; replace c1:=cell_keep c1 hx4; replace c2:=cell_keep c2 hx4; replace c3:=cell_keep c3 hx4))
  go_wp2_with (go_at_call 9; refine (awake7_any _).mono ?_; rintro r8 w8 ⟨rfl,hx8⟩)
  go_ret
  exact ⟨rfl,(HB.out.2.2.1.trans ((hx2.trans hx3).trans hx4)).trans hx8⟩
 | true =>
 have HC2:=bH (fun W (hW:XF w1 W)=>show Calls Tryz.prog 17 #[.slice xo xn xc,.int .i64 8] W (BoolPost W (shortB x 8)) from Short_any W (.slice xo xn xc) x 8 (by decide) (HXx.out W hW))
 obtain ⟨b2,hb2⟩:∃ b,shortB x 8=b:=⟨_,rfl⟩
 rw [hb2] at HC2
 have HG2:=bH hb2
 clear hb2
 cases b2 with
 | false =>
  go_upto_region 2 with (first | (go_at_call 9; (with_reducible refine (awake7_any _).mono ?_); rintro q2 w2 ⟨rfl,hx2⟩; replace p0:=cell_keep p0 hx2; replace p1:=cell_keep p1 hx2; replace c0:=cell_keep c0 hx2; replace c1:=cell_keep c1 hx2; replace c2:=cell_keep c2 hx2; replace c3:=cell_keep c3 hx2) | (go_at_call 10; (with_reducible refine (HC0.out _ (hx2)).mono ?_); rintro q3 w3 ⟨rfl,hx3⟩; replace p0:=cell_keep p0 hx3; replace p1:=cell_keep p1 hx3; replace c0:=cell_keep c0 hx3; replace c1:=cell_keep c1 hx3; replace c2:=cell_keep c2 hx3; replace c3:=cell_keep c3 hx3) | (go_at_call 11; (with_reducible refine (HC1.out _ (hx2.trans hx3)).mono ?_); rintro q4 w4 ⟨rfl,hx4⟩; replace p0:=cell_keep p0 hx4; replace p1:=cell_keep p1 hx4; replace c0:=cell_keep c0 hx4; replace c1:=cell_keep c1 hx4; replace c2:=cell_keep c2 hx4; replace c3:=cell_keep c3 hx4) | (go_at_call 17; (with_reducible refine (HC2.out _ ((hx2.trans hx3).trans hx4)).mono ?_); rintro q5 w5 ⟨rfl,hx5⟩; replace p0:=cell_keep p0 hx5; replace p1:=cell_keep p1 hx5; replace c0:=cell_keep c0 hx5; replace c1:=cell_keep c1 hx5; replace c2:=cell_keep c2 hx5; replace c3:=cell_keep c3 hx5))
  go_wp2_with (go_at_call 9; refine (awake7_any _).mono ?_; rintro r8 w8 ⟨rfl,hx8⟩)
  go_ret
  exact ⟨rfl,(HB.out.2.2.1.trans (((hx2.trans hx3).trans hx4).trans hx5)).trans hx8⟩
 | true =>
 go_upto_region 3 with (first | (go_at_call 9; (with_reducible refine (awake7_any _).mono ?_); rintro q2 w2 ⟨rfl,hx2⟩; replace p0:=cell_keep p0 hx2; replace p1:=cell_keep p1 hx2; replace c0:=cell_keep c0 hx2; replace c1:=cell_keep c1 hx2; replace c2:=cell_keep c2 hx2; replace c3:=cell_keep c3 hx2) | (go_at_call 10; (with_reducible refine (HC0.out _ (hx2)).mono ?_); rintro q3 w3 ⟨rfl,hx3⟩; replace p0:=cell_keep p0 hx3; replace p1:=cell_keep p1 hx3; replace c0:=cell_keep c0 hx3; replace c1:=cell_keep c1 hx3; replace c2:=cell_keep c2 hx3; replace c3:=cell_keep c3 hx3) | (go_at_call 11; (with_reducible refine (HC1.out _ (hx2.trans hx3)).mono ?_); rintro q4 w4 ⟨rfl,hx4⟩; replace p0:=cell_keep p0 hx4; replace p1:=cell_keep p1 hx4; replace c0:=cell_keep c0 hx4; replace c1:=cell_keep c1 hx4; replace c2:=cell_keep c2 hx4; replace c3:=cell_keep c3 hx4) | (go_at_call 17; (with_reducible refine (HC2.out _ ((hx2.trans hx3).trans hx4)).mono ?_); rintro q5 w5 ⟨rfl,hx5⟩; replace p0:=cell_keep p0 hx5; replace p1:=cell_keep p1 hx5; replace c0:=cell_keep c0 hx5; replace c1:=cell_keep c1 hx5; replace c2:=cell_keep c2 hx5; replace c3:=cell_keep c3 hx5))
 have HX:=bH (((hx2.trans hx3).trans hx4).trans hx5)
 clear hx2 hx3 hx4 hx5 HC0 HC1 HC2
 have HRx:=bH (fun W (hW:XF w1 W)=>show Rats W (.slice xo xn xc) (valL x) 4 from (HXx.out W hW).rats (by
  have:=HG2.out
  unfold shortB at this
  simp only [Bool.and_eq_true] at this
  exact this.2))
 have HCv:=bH (fun W (hW:XF w1 W)=>show IsCut W (.agg #[.int .i64 kd,.slice yo yn yc,.int .i64 cw,.slice so sl sc]) c.c 4 from (HCt.out W hW).cut HG1.out)
 obtain ⟨hT,hn6,hm6⟩:=few_parts7 HG0.out
 have hs7:CSmall p c.c:=⟨hn6,hm6,hT,few7_vars HG1.out⟩
 have HIs:=bH (fun W (hW:XF w1 W)=>Inside4_any W (.agg #[.slice vo vn vc,.slice ro rn rc]) (.slice xo xn xc) p (valL x) 4 (HB.out.1.keep hW) (HRx.out W hW) (by decide) (by decide))
 have HIg:=bH (fun W (hW:XF w1 W)=>Integral_any W (.agg #[.slice vo vn vc,.slice ro rn rc]) (.slice xo xn xc) p (valL x) 4 (HB.out.1.keep hW) (HRx.out W hW) (by decide) (by decide))
 obtain ⟨nx,hnx⟩:∃ n,(violQ p (valL x)).length=n:=⟨_,rfl⟩
 have HVi:=bH (fun W (hW:XF w1 W)=>show Calls Tryz.prog 14 #[(.agg #[.slice vo vn vc,.slice ro rn rc]),(.slice xo xn xc)] W (fun r w'=>∃ ao c,r=.returned (.slice ao nx c)/\XF W w') from (Violated4_any W (.agg #[.slice vo vn vc,.slice ro rn rc]) (.slice xo xn xc) p (valL x) 4 12 (HB.out.1.keep hW) (HRx.out W hW) (by decide) hT (by decide) (by omega) (by omega)).mono (fun r w' hh=>by obtain ⟨v,rfl,hn,hx⟩:=hh; obtain ⟨ao,c,rfl⟩:=hn.shape; exact ⟨ao,c,by rw [hnx],hx⟩))
 have HLaw:=bH (fun (he:(deriveP p c.c).2=0) (h1:insideB p (valL x)=true) (h2:integB p (valL x)=true) (h3:nx=0)=>derive_holds (p:=p) (c:=c.c) (r:=(deriveP p c.c).1) (x:=valL x) (by rw [<- he]) h1 (List.length_eq_zero_iff.1 (hnx.trans h3)) (integ_IntX h2))
 have HRo:=bH (derv_in hs7)
 clear hnx hT hm6
 obtain ⟨⟨⟨nm,gr,kr,ts,br⟩,er⟩,hre⟩:∃ re,deriveP p c.c=re:=⟨_,rfl⟩
 rw [hre] at HLaw HRo
 obtain ⟨tn,htn⟩:∃ n,ts.length=n:=⟨_,rfl⟩
 have HDv:=bH (fun W (hW:XF w1 W)=>show Calls Tryz.prog 12 #[(.agg #[.slice vo vn vc,.slice ro rn rc]),(.agg #[.int .i64 kd,.slice yo yn yc,.int .i64 cw,.slice so sl sc])] W (DrvAs W nm gr kr ts tn br er) from (Derive_any W (.agg #[.slice vo vn vc,.slice ro rn rc]) (.agg #[.int .i64 kd,.slice yo yn yc,.int .i64 cw,.slice so sl sc]) p c.c (HB.out.1.keep hW) ((HCv.out W hW).mono (by decide)) hs7).mono (fun _ _ h=>h.as hre htn))
 clear hre
 have HHo:=bH (fun (he:er=0) W (hW:XF w1 W) ta tc (ht:Tms W (.slice ta tn tc) ts)=>show Calls Tryz.prog 15 #[(.agg #[.slice vo vn vc,.slice ro rn rc]),.agg #[.string nm,.int .i64 gr,.int .i64 kr,.slice ta tn tc,.int .i64 br],(.slice xo xn xc)] W (BoolPost W (holdsB ⟨nm,gr,kr,ts,br⟩ (clipQ p (valL x)))) from by
  have h:=Holds_any W (.agg #[.slice vo vn vc,.slice ro rn rc]) (.slice xo xn xc) p ⟨nm,gr,kr,ts,br⟩ (valL x) 4 1000 ta tc (HB.out.1.keep hW) (HRo.out he).1 (by rw [htn]; exact ht) (HRx.out W hW) (by decide) (HRo.out he).2 (by decide) (by omega)
  rwa [htn] at h)
 clear htn hn6 hs7
 go_upto_region 4 with (go_at_call 12; (with_reducible refine (HDv.out _ HX.out).mono ?_); rintro q6 w6 ⟨ta,tc,rfl,h6,hx6⟩)
 have hxa:=(Ext.refl (fun _=>False) w6).alloc (.cells #[.string nm,.int .i64 gr,.int .i64 kr,.slice ta tn tc,.int .i64 br] 35)
 have HR:=bH (bI (blk_alloc_at w6 (.cells #[.string nm,.int .i64 gr,.int .i64 kr,.slice ta tn tc,.int .i64 br] 35)) (h6.keep hxa))
 replace HX:=bH ((HX.out.trans hx6).trans hxa)
 replace p0:=cell_keep p0 (hx6.trans hxa)
 replace p1:=cell_keep p1 (hx6.trans hxa)
 clear h6 hx6 hxa c0 c1 c2 c3 HDv
 generalize w6.alloc (.cells #[.string nm,.int .i64 gr,.int .i64 kr,.slice ta tn tc,.int .i64 br] 35)=w7 at *
 generalize w6.heap.size=rb at *
 by_cases he:er=0
 case neg =>
  go_wp2
  go_ret
  exact ⟨rfl,HB.out.2.2.1.trans HX.out⟩
 subst he
 replace HHo:=bH (HHo.out rfl)
 replace HLaw:=bH (HLaw.out rfl)
 clear HRo
 have r0:=cellq HR.out.1 0 rfl
 have r1:=cellq HR.out.1 1 rfl
 have r2:=cellq HR.out.1 2 rfl
 have r3:=cellq HR.out.1 3 rfl
 have r4:=cellq HR.out.1 4 rfl
 obtain ⟨b8,hb8⟩:∃ b,insideB p (valL x)=b:=⟨_,rfl⟩
 rw [hb8] at HIs HLaw
 clear hb8
 cases b8 with
 | false =>
  go_wp2_with (first | (go_at_call 18; (with_reducible refine (HIs.out _ (HX.out)).mono ?_); rintro q8 w8 ⟨rfl,hx8⟩; replace p0:=cell_keep p0 hx8; replace p1:=cell_keep p1 hx8; replace r0:=cell_keep r0 hx8; replace r1:=cell_keep r1 hx8; replace r2:=cell_keep r2 hx8; replace r3:=cell_keep r3 hx8; replace r4:=cell_keep r4 hx8))
  go_ret
  exact ⟨rfl,HB.out.2.2.1.trans ((HX.out).trans hx8)⟩
 | true =>
 replace HLaw:=bH (HLaw.out rfl)
 obtain ⟨b9,hb9⟩:∃ b,integB p (valL x)=b:=⟨_,rfl⟩
 rw [hb9] at HIg HLaw
 clear hb9
 cases b9 with
 | false =>
  go_wp2_with (first | (go_at_call 18; (with_reducible refine (HIs.out _ (HX.out)).mono ?_); rintro q8 w8 ⟨rfl,hx8⟩; replace p0:=cell_keep p0 hx8; replace p1:=cell_keep p1 hx8; replace r0:=cell_keep r0 hx8; replace r1:=cell_keep r1 hx8; replace r2:=cell_keep r2 hx8; replace r3:=cell_keep r3 hx8; replace r4:=cell_keep r4 hx8) | (go_at_call 19; (with_reducible refine (HIg.out _ ((HX.out).trans hx8)).mono ?_); rintro q9 w9 ⟨rfl,hx9⟩; replace p0:=cell_keep p0 hx9; replace p1:=cell_keep p1 hx9; replace r0:=cell_keep r0 hx9; replace r1:=cell_keep r1 hx9; replace r2:=cell_keep r2 hx9; replace r3:=cell_keep r3 hx9; replace r4:=cell_keep r4 hx9))
  go_ret
  exact ⟨rfl,HB.out.2.2.1.trans (((HX.out).trans hx8).trans hx9)⟩
 | true =>
 replace HLaw:=bH (HLaw.out rfl)
 by_cases hx0:nx=0
 case neg =>
  have i0:(0:Int)<(nx:Int):=by omega
  go_wp2_with (first | (go_at_call 18; (with_reducible refine (HIs.out _ (HX.out)).mono ?_); rintro q8 w8 ⟨rfl,hx8⟩; replace p0:=cell_keep p0 hx8; replace p1:=cell_keep p1 hx8; replace r0:=cell_keep r0 hx8; replace r1:=cell_keep r1 hx8; replace r2:=cell_keep r2 hx8; replace r3:=cell_keep r3 hx8; replace r4:=cell_keep r4 hx8) | (go_at_call 19; (with_reducible refine (HIg.out _ ((HX.out).trans hx8)).mono ?_); rintro q9 w9 ⟨rfl,hx9⟩; replace p0:=cell_keep p0 hx9; replace p1:=cell_keep p1 hx9; replace r0:=cell_keep r0 hx9; replace r1:=cell_keep r1 hx9; replace r2:=cell_keep r2 hx9; replace r3:=cell_keep r3 hx9; replace r4:=cell_keep r4 hx9) | (go_at_call 14; (with_reducible refine (HVi.out _ (((HX.out).trans hx8).trans hx9)).mono ?_); rintro q10 w10 ⟨vo,vv,rfl,hx10⟩; replace p0:=cell_keep p0 hx10; replace p1:=cell_keep p1 hx10; replace r0:=cell_keep r0 hx10; replace r1:=cell_keep r1 hx10; replace r2:=cell_keep r2 hx10; replace r3:=cell_keep r3 hx10; replace r4:=cell_keep r4 hx10))
  go_ret
  exact ⟨rfl,HB.out.2.2.1.trans ((((HX.out).trans hx8).trans hx9).trans hx10)⟩
 subst hx0
 replace HLaw:=bH (HLaw.out rfl)
 rw [HLaw.out] at HHo
 go_wp2_with (first | (go_at_call 18; (with_reducible refine (HIs.out _ (HX.out)).mono ?_); rintro q8 w8 ⟨rfl,hx8⟩; replace p0:=cell_keep p0 hx8; replace p1:=cell_keep p1 hx8; replace r0:=cell_keep r0 hx8; replace r1:=cell_keep r1 hx8; replace r2:=cell_keep r2 hx8; replace r3:=cell_keep r3 hx8; replace r4:=cell_keep r4 hx8) | (go_at_call 19; (with_reducible refine (HIg.out _ ((HX.out).trans hx8)).mono ?_); rintro q9 w9 ⟨rfl,hx9⟩; replace p0:=cell_keep p0 hx9; replace p1:=cell_keep p1 hx9; replace r0:=cell_keep r0 hx9; replace r1:=cell_keep r1 hx9; replace r2:=cell_keep r2 hx9; replace r3:=cell_keep r3 hx9; replace r4:=cell_keep r4 hx9) | (go_at_call 14; (with_reducible refine (HVi.out _ (((HX.out).trans hx8).trans hx9)).mono ?_); rintro q10 w10 ⟨vo,vv,rfl,hx10⟩; replace p0:=cell_keep p0 hx10; replace p1:=cell_keep p1 hx10; replace r0:=cell_keep r0 hx10; replace r1:=cell_keep r1 hx10; replace r2:=cell_keep r2 hx10; replace r3:=cell_keep r3 hx10; replace r4:=cell_keep r4 hx10) | (go_at_call 15; (with_reducible refine (HHo.out _ ((((HX.out).trans hx8).trans hx9).trans hx10) _ _ (HR.out.2.keep ((((Ext.refl _ _).trans hx8).trans hx9).trans hx10))).mono ?_); rintro q11 w11 ⟨rfl,hx11⟩))
 go_ret
 exact ⟨rfl,HB.out.2.2.1.trans (((((HX.out).trans hx8).trans hx9).trans hx10).trans hx11)⟩
end Go.Proofs.YtjaldknfeojjkaaGreat
