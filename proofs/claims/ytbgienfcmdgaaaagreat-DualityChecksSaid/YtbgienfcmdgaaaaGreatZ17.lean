/-
  The law's awake. Conditions: none.
-/
import Derived.Test.YtbgienfcmdgaaaaGreatZ16
import Derived.Test.YtbgienfcmdgaaaaGreatZ9
import Derived.Test.YtbgienfcmdgaaaaGreatZ10
import Derived.Test.YtbgienfcmdgaaaaGreatZ12
import Derived.OpenShut
import Derived.ShutString
import Derived.ChangeOld
import Derived.Deep.Slices
import Derived.Lib.SmallJoins
set_option linter.unusedVariables false
namespace Go.Proofs.YtbgienfcmdgaaaaGreat
open Go.RowKit Go.MapKept
open Go.ChangeMaps (setBlock)

/-- 15 cells -/
abbrev S15 (b0 b1 b2 b3 b4 b5 b6 b7 b8 b9 b10 b11 b12 b13 b14 o0 o1 o2 o3 o4 o5 o6 o7 o8 o9 o10 o11 o12 o13 o14 : Nat) (x0 x1 x2 x3 x4 x5 x6 x7 x8 x9 x10 x11 x12 x13 x14 : Value) (W : World) : Prop := W.cell? ⟨b0, o0, none⟩ = some x0 ∧ W.cell? ⟨b1, o1, none⟩ = some x1 ∧ W.cell? ⟨b2, o2, none⟩ = some x2 ∧ W.cell? ⟨b3, o3, none⟩ = some x3 ∧ W.cell? ⟨b4, o4, none⟩ = some x4 ∧ W.cell? ⟨b5, o5, none⟩ = some x5 ∧ W.cell? ⟨b6, o6, none⟩ = some x6 ∧ W.cell? ⟨b7, o7, none⟩ = some x7 ∧ W.cell? ⟨b8, o8, none⟩ = some x8 ∧ W.cell? ⟨b9, o9, none⟩ = some x9 ∧ W.cell? ⟨b10, o10, none⟩ = some x10 ∧ W.cell? ⟨b11, o11, none⟩ = some x11 ∧ W.cell? ⟨b12, o12, none⟩ = some x12 ∧ W.cell? ⟨b13, o13, none⟩ = some x13 ∧ W.cell? ⟨b14, o14, none⟩ = some x14
section
variable {b0 b1 b2 b3 b4 b5 b6 b7 b8 b9 b10 b11 b12 b13 b14 o0 o1 o2 o3 o4 o5 o6 o7 o8 o9 o10 o11 o12 o13 o14 : Nat} {x0 x1 x2 x3 x4 x5 x6 x7 x8 x9 x10 x11 x12 x13 x14 : Value} {W : World}
theorem S15.drew (h : S15 b0 b1 b2 b3 b4 b5 b6 b7 b8 b9 b10 b11 b12 b13 b14 o0 o1 o2 o3 o4 o5 o6 o7 o8 o9 o10 o11 o12 o13 o14 x0 x1 x2 x3 x4 x5 x6 x7 x8 x9 x10 x11 x12 x13 x14 W) : S15 b0 b1 b2 b3 b4 b5 b6 b7 b8 b9 b10 b11 b12 b13 b14 o0 o1 o2 o3 o4 o5 o6 o7 o8 o9 o10 o11 o12 o13 o14 x0 x1 x2 x3 x4 x5 x6 x7 x8 x9 x10 x11 x12 x13 x14 W.drew := h
theorem S15.keep {W' : World} (h : S15 b0 b1 b2 b3 b4 b5 b6 b7 b8 b9 b10 b11 b12 b13 b14 o0 o1 o2 o3 o4 o5 o6 o7 o8 o9 o10 o11 o12 o13 o14 x0 x1 x2 x3 x4 x5 x6 x7 x8 x9 x10 x11 x12 x13 x14 W) (hx : Ext (fun _ => False) W W') : S15 b0 b1 b2 b3 b4 b5 b6 b7 b8 b9 b10 b11 b12 b13 b14 o0 o1 o2 o3 o4 o5 o6 o7 o8 o9 o10 o11 o12 o13 o14 x0 x1 x2 x3 x4 x5 x6 x7 x8 x9 x10 x11 x12 x13 x14 W' := ⟨cell_keep h.1 hx, cell_keep h.2.1 hx, cell_keep h.2.2.1 hx, cell_keep h.2.2.2.1 hx, cell_keep h.2.2.2.2.1 hx, cell_keep h.2.2.2.2.2.1 hx, cell_keep h.2.2.2.2.2.2.1 hx, cell_keep h.2.2.2.2.2.2.2.1 hx, cell_keep h.2.2.2.2.2.2.2.2.1 hx, cell_keep h.2.2.2.2.2.2.2.2.2.1 hx, cell_keep h.2.2.2.2.2.2.2.2.2.2.1 hx, cell_keep h.2.2.2.2.2.2.2.2.2.2.2.1 hx, cell_keep h.2.2.2.2.2.2.2.2.2.2.2.2.1 hx, cell_keep h.2.2.2.2.2.2.2.2.2.2.2.2.2.1 hx, cell_keep h.2.2.2.2.2.2.2.2.2.2.2.2.2.2 hx⟩
theorem S15.alloc (h : S15 b0 b1 b2 b3 b4 b5 b6 b7 b8 b9 b10 b11 b12 b13 b14 o0 o1 o2 o3 o4 o5 o6 o7 o8 o9 o10 o11 o12 o13 o14 x0 x1 x2 x3 x4 x5 x6 x7 x8 x9 x10 x11 x12 x13 x14 W) (o : Obj) : S15 b0 b1 b2 b3 b4 b5 b6 b7 b8 b9 b10 b11 b12 b13 b14 o0 o1 o2 o3 o4 o5 o6 o7 o8 o9 o10 o11 o12 o13 o14 x0 x1 x2 x3 x4 x5 x6 x7 x8 x9 x10 x11 x12 x13 x14 (W.alloc o) := ⟨cell_new h.1 o, cell_new h.2.1 o, cell_new h.2.2.1 o, cell_new h.2.2.2.1 o, cell_new h.2.2.2.2.1 o, cell_new h.2.2.2.2.2.1 o, cell_new h.2.2.2.2.2.2.1 o, cell_new h.2.2.2.2.2.2.2.1 o, cell_new h.2.2.2.2.2.2.2.2.1 o, cell_new h.2.2.2.2.2.2.2.2.2.1 o, cell_new h.2.2.2.2.2.2.2.2.2.2.1 o, cell_new h.2.2.2.2.2.2.2.2.2.2.2.1 o, cell_new h.2.2.2.2.2.2.2.2.2.2.2.2.1 o, cell_new h.2.2.2.2.2.2.2.2.2.2.2.2.2.1 o, cell_new h.2.2.2.2.2.2.2.2.2.2.2.2.2.2 o⟩
theorem S15.set (h : S15 b0 b1 b2 b3 b4 b5 b6 b7 b8 b9 b10 b11 b12 b13 b14 o0 o1 o2 o3 o4 o5 o6 o7 o8 o9 o10 o11 o12 o13 o14 x0 x1 x2 x3 x4 x5 x6 x7 x8 x9 x10 x11 x12 x13 x14 W) (p : Addr) (u : Value) (k0 : ¬ b0 = p.block) (k1 : ¬ b1 = p.block) (k2 : ¬ b2 = p.block) (k3 : ¬ b3 = p.block) (k4 : ¬ b4 = p.block) (k5 : ¬ b5 = p.block) (k6 : ¬ b6 = p.block) (k7 : ¬ b7 = p.block) (k8 : ¬ b8 = p.block) (k9 : ¬ b9 = p.block) (k10 : ¬ b10 = p.block) (k11 : ¬ b11 = p.block) (k12 : ¬ b12 = p.block) (k13 : ¬ b13 = p.block) (k14 : ¬ b14 = p.block) : S15 b0 b1 b2 b3 b4 b5 b6 b7 b8 b9 b10 b11 b12 b13 b14 o0 o1 o2 o3 o4 o5 o6 o7 o8 o9 o10 o11 o12 o13 o14 x0 x1 x2 x3 x4 x5 x6 x7 x8 x9 x10 x11 x12 x13 x14 (W.setCell p u) := ⟨cell_other h.1 k0, cell_other h.2.1 k1, cell_other h.2.2.1 k2, cell_other h.2.2.2.1 k3, cell_other h.2.2.2.2.1 k4, cell_other h.2.2.2.2.2.1 k5, cell_other h.2.2.2.2.2.2.1 k6, cell_other h.2.2.2.2.2.2.2.1 k7, cell_other h.2.2.2.2.2.2.2.2.1 k8, cell_other h.2.2.2.2.2.2.2.2.2.1 k9, cell_other h.2.2.2.2.2.2.2.2.2.2.1 k10, cell_other h.2.2.2.2.2.2.2.2.2.2.2.1 k11, cell_other h.2.2.2.2.2.2.2.2.2.2.2.2.1 k12, cell_other h.2.2.2.2.2.2.2.2.2.2.2.2.2.1 k13, cell_other h.2.2.2.2.2.2.2.2.2.2.2.2.2.2 k14⟩
end

theorem ex_small (L : Nat) (h : L ≤ 4) (h1 : 1 ≤ L) : Small exP 2 L := by
  refine ⟨⟨h1, ?_⟩, fun i hi => ?_⟩
  · have : L = 1 ∨ L = 2 ∨ L = 3 ∨ L = 4 := by omega
    rcases this with rfl | rfl | rfl | rfl <;> decide
  · match i, hi with
    | 0, _ => decide
theorem exZ_eq : listTo 1 (qOf [1]) = exZ := rfl
theorem in_small {l : List Int} (h : ∀ x ∈ l, -1000 ≤ x ∧ x ≤ 1000) : ∀ x ∈ l, InR x := fun x hx => by have := h x hx; unfold InR; omega
theorem one_cell {w : World} {b : Nat} {k : Int} (h : w.cell? ⟨b, 0, none⟩ = some (.int .i64 k)) : ∀ i, i < [k].length → w.cell? ⟨b, i, none⟩ = some (.int .i64 ([k].getD i 0)) := fun i hi => by
  match i, hi with
  | 0, _ => exact h
theorem two_cell {w : World} {b : Nat} {k l : Int} (h : w.cell? ⟨b, 0, none⟩ = some (.int .i64 k)) (h' : w.cell? ⟨b, 1, none⟩ = some (.int .i64 l)) : ∀ i, i < [k, l].length → w.cell? ⟨b, i, none⟩ = some (.int .i64 ([k, l].getD i 0)) := fun i hi => by
  match i, hi with
  | 0, _ => exact h
  | 1, _ => exact h'
set_option maxRecDepth 100000 in
set_option maxHeartbeats 8000000 in
theorem awake_any (w : World) : Calls Tryz.prog 16 #[] w (BoolPost w true) := by
  have HIy := Lib.hid (fun (W : World) b c (h : W.cell? ⟨b, 0, none⟩ = some (.int .i64 (-1))) => Ints_any W b c [-1] 2 (one_cell h) (in_small (by decide)) (by decide) (by decide))
  have HI1 := Lib.hid (fun (W : World) b c (h : W.cell? ⟨b, 0, none⟩ = some (.int .i64 1)) => Ints_any W b c [1] 2 (one_cell h) (in_small (by decide)) (by decide) (by decide))
  have HIx := Lib.hid (fun (W : World) b c (h : W.cell? ⟨b, 0, none⟩ = some (.int .i64 1)) (h' : W.cell? ⟨b, 1, none⟩ = some (.int .i64 3)) => Ints_any W b c [1, 3] 2 (two_cell h h') (in_small (by decide)) (by decide) (by decide))
  have HBo := Lib.hid (fun (W : World) pv yv y (hp : IsPrg W pv exP) (hy : Rats W yv y 2) => Bound_any W pv yv exP y 2 2 hp hy (ex_small 2 (by decide) (by decide)))
  have HEx := Lib.hid (example_any w)
  go_enter Tryz.func16, Tryz.ntmps16
  go_wp2_with fail
  refine HEx.out.mono ?_
  rintro r1 w1 ⟨v1, rfl, hp1, hx1⟩
  have HP1 := Lib.hid (And.intro hp1 hx1)
  obtain ⟨vv, rv, rfl, hv, hr⟩ := hp1
  obtain ⟨vo, vc, rfl, -, -, -⟩ := hv.shape
  obtain ⟨ro, rc, rfl, -, -, -⟩ := hr.shape
  rw [show exP.vars.length = 2 from rfl, show exP.rows.length = 1 from rfl] at HP1 ⊢
  clear hv hr
  clear hx1 HEx
  go_upto_region 2 with fail
  have hxa := (Ext.refl (fun _ => False) w1).alloc (.cells #[.slice vo 2 vc, .slice ro 1 rc] 25)
  have HP2 := Lib.hid (And.intro (HP1.out.1.keep hxa) (And.intro (blk_alloc_at w1 (.cells #[.slice vo 2 vc, .slice ro 1 rc] 25)) (HP1.out.2.trans hxa)))
  generalize hw2 : w1.alloc (.cells #[.slice vo 2 vc, .slice ro 1 rc] 25) = w2 at *
  clear hw2 hxa HP1
  obtain ⟨pb, hpb⟩ : ∃ pb, w1.heap.size = pb := ⟨_, rfl⟩
  rw [hpb] at HP2 ⊢
  clear hpb
  -- the multipliers
  go_wp2_with fail
  have hxb := (Ext.refl (fun _ => False) w2).alloc (.cells #[.int .i64 (-1)] 2)
  refine (HIy.out _ w2.heap.size 1 (cellq (blk_alloc_at w2 (.cells #[.int .i64 (-1)] 2)) 0 rfl)).mono ?_
  rintro r3 w3 ⟨yv, rfl, hy3, hx3⟩
  have HP3 := Lib.hid (And.intro (HP2.out.1.keep (hxb.trans hx3)) (And.intro (blk_keep HP2.out.2.1 (hxb.trans hx3)) (HP2.out.2.2.trans (hxb.trans hx3))))
  have HY3 := Lib.hid (show Rats w3 yv exY 2 from hy3)
  obtain ⟨yo, yc, rfl, -, -, -⟩ := hy3.shape
  rw [show (listTo [(-1 : Int)].length (qOf [-1])).length = 1 from rfl] at HY3 ⊢
  clear hxb hx3 hy3 HP2 HIy
  go_upto_region 3 with fail
  go_wp2_with fail
  have hxb := (Ext.refl (fun _ => False) w3).alloc (.cells #[.int .i64 1, .int .i64 3] 2)
  refine (HIx.out _ w3.heap.size 2 (cellq (blk_alloc_at w3 (.cells #[.int .i64 1, .int .i64 3] 2)) 0 rfl) (cellq (blk_alloc_at w3 (.cells #[.int .i64 1, .int .i64 3] 2)) 1 rfl)).mono ?_
  rintro r4 w4 ⟨xv, rfl, hx4, hxx⟩
  have HP4 := Lib.hid (And.intro (HP3.out.1.keep (hxb.trans hxx)) (And.intro (blk_keep HP3.out.2.1 (hxb.trans hxx)) (HP3.out.2.2.trans (hxb.trans hxx))))
  have HY4 := Lib.hid (And.intro (HY3.out.keep (hxb.trans hxx)) (show Rats w4 xv exX 2 from hx4))
  obtain ⟨xo, xc, rfl, -, -, -⟩ := hx4.shape
  rw [show (listTo [(1 : Int), 3].length (qOf [1, 3])).length = 2 from rfl] at HY4 ⊢
  clear hxb hxx hx4 HP3 HY3 HIx
  have z0 := cellq HP4.out.2.1 0 rfl
  have z1 := cellq HP4.out.2.1 1 rfl
  go_upto_region 4 with fail
  go_wp2_with fail
  refine (HBo.out w4 _ _ exY HP4.out.1 HY4.out.1).mono ?_
  rw [ex_bound]
  intro r5 w5 hop
  obtain ⟨n4, a4, m4, c4, a4', m4', c4', rfl, h4, hx5⟩ := hop.open
  clear hop
  rw [show (some ((-7 : Int) : Rat)).isSome = true from rfl]
  have hxb := hx5.alloc (.cells #[.bool n4, .slice a4 m4 c4, .slice a4' m4' c4'] 31)
  have hxc := (Ext.refl (fun _ => False) w5).alloc (.cells #[.bool n4, .slice a4 m4 c4, .slice a4' m4' c4'] 31)
  have HP5 := Lib.hid (And.intro (HP4.out.1.keep hxb) (And.intro (blk_keep HP4.out.2.1 hxb) (And.intro (boxR_new (W := w5) rfl n4 a4 m4 c4 a4' m4' c4') (And.intro (h4.keep hxc) (HP4.out.2.2.trans hxb)))))
  have HY5 := Lib.hid (And.intro (HY4.out.1.keep hxb) (HY4.out.2.keep hxb))
  clear hxb hxc h4 hx5 HP4 HY4 z0 z1
  go_upto_region 5 with fail
  generalize hw6 : w5.alloc (.cells #[.bool n4, .slice a4 m4 c4, .slice a4' m4' c4'] 31) = w6 at *
  clear hw6
  obtain ⟨ab, hab⟩ : ∃ ab, w5.heap.size = ab := ⟨_, rfl⟩
  rw [hab] at HP5 ⊢
  clear hab
  have z0 := cellq HP5.out.2.1 0 rfl
  have z1 := cellq HP5.out.2.1 1 rfl
  go_wp2_with fail
  refine (HBo.out w6 _ _ [] HP5.out.1 (Rats.nil w6 2)).mono ?_
  rw [ex_bound0]
  intro r7 w7 hop
  obtain ⟨n5, a5, m5, c5, a5', m5', c5', rfl, h5, hx7⟩ := hop.open
  clear hop
  rw [show (some ((-9 : Int) : Rat)).isSome = true from rfl]
  have hxb := hx7.alloc (.cells #[.bool n5, .slice a5 m5 c5, .slice a5' m5' c5'] 31)
  have hxc := (Ext.refl (fun _ => False) w7).alloc (.cells #[.bool n5, .slice a5 m5 c5, .slice a5' m5' c5'] 31)
  have HP7 := Lib.hid (And.intro (HP5.out.1.keep hxb) (And.intro (blk_keep HP5.out.2.1 hxb) (And.intro (HP5.out.2.2.1.keep hxb) (And.intro (HP5.out.2.2.2.1.keep hxb) (And.intro (boxR_new (W := w7) rfl n5 a5 m5 c5 a5' m5' c5') (And.intro (h5.keep hxc) (HP5.out.2.2.2.2.trans hxb)))))))
  have HY7 := Lib.hid (And.intro (HY5.out.1.keep hxb) (HY5.out.2.keep hxb))
  clear hxb hxc h5 hx7 HP5 HY5 z0 z1
  go_upto_region 6 with fail
  generalize hw8 : w7.alloc (.cells #[.bool n5, .slice a5 m5 c5, .slice a5' m5' c5'] 31) = w6 at *
  clear hw8
  obtain ⟨bb, hbb⟩ : ∃ bb, w7.heap.size = bb := ⟨_, rfl⟩
  rw [hbb] at HP7 ⊢
  clear hbb
  have hpbl : pb < w6.heap.size := blk_lt HP7.out.2.1
  have hS : S2 pb pb 0 1 (.slice vo 2 vc) (.slice ro 1 rc) w6 := ⟨cellq HP7.out.2.1 0 rfl, cellq HP7.out.2.1 1 rfl⟩
  have HB6 := Lib.hid (fun (W : World) yv y (hW : Ext (fun _ => False) w6 W) (hy : Rats W yv y 2) (e : y = exZ) => (by rw [← ex_boundZ, ← e]; exact HBo.out W _ yv y (HP7.out.1.keep hW) hy : Calls Tryz.prog 23 #[.agg #[.slice vo 2 vc, .slice ro 1 rc], yv] W (OptPost W none)))
  go_cut [8, 9] (fun v8 v9 wx => v9 = .bool false ∧ Ext (fun _ => False) w6 wx)
  case first =>
    refine wp_region_held_drew (S := (S2 pb pb 0 1 (.slice vo 2 vc) (.slice ro 1 rc))) (by kernel_rfl) (hS.drew) (fun hHeld => ?_)
    have hxd := (Ext.refl (fun _ => False) w6).drew
    generalize w6.drew = wd at *
    refine held_take 0 (v := ?_) rfl (by kernel_rfl) (by kernel_rfl) (by kernel_rfl) (fun _ _ _ h => h) (by rfl) ?_ (by assumption) ?_
    rotate_left
    · ((intro w hSw; (try dsimp only at hSw); go_simp) <;> with_reducible rfl)
    (try simp only [Act.put, List.setIfInBounds_toArray, List.set_cons_zero, List.set_cons_succ])
    refine held_two 1 7 rfl rfl (by kernel_rfl) (fun K hK => ?_) (fun K hK => ?_)
    · go_simp
      obtain ⟨sb, hsb⟩ : ∃ sb, wd.heap.size = sb := ⟨_, rfl⟩
      have hsbs : w6.heap.size ≤ sb := by have := hxd.size; omega
      have hsl1 := cellq (blk_alloc_at wd (.cells #[.int .i64 1] 2)) 0 rfl
      have hX1 := hxd.alloc (.cells #[.int .i64 1] 2)
      rw [hsb] at hsl1 ⊢
      clear hsb
      generalize wd.alloc (.cells #[.int .i64 1] 2) = ws at *
      refine hK.out _ _ (hS.keep hX1) (fun hHeld => ?_)
      clear hK K
      (try simp only [Act.put, List.setIfInBounds_toArray, List.set_cons_zero, List.set_cons_succ])
      refine held_two 2 7 rfl rfl (by kernel_rfl) (fun K hK => ?_) (fun K hK => ?_)
      · go_simp
        go_at_call 50
        refine (HI1.out _ sb 1 hsl1).mono ?_
        rintro q2 w20 ⟨v2, rfl, hrt2, hx2⟩
        obtain ⟨so2, sc2, rfl, -, -, -⟩ := hrt2.shape
        rw [show (listTo [(1 : Int)].length (qOf [1])).length = 1 from rfl] at hrt2 ⊢
        have hX2 := hX1.trans hx2
        refine hK.out _ _ (hS.keep hX2) (fun hHeld => ?_)
        clear hK K
        (try simp only [Act.put, List.setIfInBounds_toArray, List.set_cons_zero, List.set_cons_succ])
        refine held_two 3 7 rfl rfl (by kernel_rfl) (fun K hK => ?_) (fun K hK => ?_)
        · go_simp
          go_at_call 23
          refine (HB6.out _ _ _ hX2 hrt2 exZ_eq).mono ?_
          rintro q3 w30 hopt3
          obtain ⟨n12, a12, l12, c12, a12', l12', c12', rfl, hRat3, hx3⟩ := OptPost.open hopt3
          rw [show (none : Option Rat).isSome = false from rfl]
          have hX3 := hX2.trans hx3
          refine hK.out _ _ (hS.keep hX3) (fun hHeld => ?_)
          clear hK K
          (try simp only [Act.put, List.setIfInBounds_toArray, List.set_cons_zero, List.set_cons_succ])
          refine held_take 4 (v := ?_) rfl (by kernel_rfl) (by kernel_rfl) (by kernel_rfl) (fun _ _ _ h => h) (by rfl) ?_ (by assumption) ?_
          rotate_left
          · ((intro w hSw; (try dsimp only at hSw); go_simp) <;> with_reducible rfl)
          (try simp only [Act.put, List.setIfInBounds_toArray, List.set_cons_zero, List.set_cons_succ])
          refine held_take 5 (v := ?_) rfl (by kernel_rfl) (by kernel_rfl) (by kernel_rfl) (fun _ _ _ h => h) (by rfl) ?_ (by assumption) ?_
          rotate_left
          · ((intro w hSw; (try dsimp only at hSw); go_simp) <;> with_reducible rfl)
          (try simp only [Act.put, List.setIfInBounds_toArray, List.set_cons_zero, List.set_cons_succ])
          refine held_take 6 (v := ?_) rfl (by kernel_rfl) (by kernel_rfl) (by kernel_rfl) (fun _ _ _ h => h) (by rfl) ?_ (by assumption) ?_
          rotate_left
          · ((intro w hSw; (try dsimp only at hSw); go_simp) <;> with_reducible rfl)
          (try simp only [Act.put, List.setIfInBounds_toArray, List.set_cons_zero, List.set_cons_succ])
          refine held_step 7 rfl (by kernel_rfl) (fun K hK => ?_)
          go_simp
          obtain ⟨bb, hbb⟩ : ∃ bb, w30.heap.size = bb := ⟨_, rfl⟩
          have hbbs : w6.heap.size ≤ bb := by have := hX3.size; omega
          have hbox4 := boxR_new (W := w30) rfl false none 0 0 none 0 0
          have hX4 := hX3.alloc (.cells #[.bool false, .slice none 0 0, .slice none 0 0] 31)
          have hRat4 := hRat3.keep ((Ext.refl (fun _ => False) w30).alloc (.cells #[.bool false, .slice none 0 0, .slice none 0 0] 31))
          rw [hbb] at hbox4 ⊢
          clear hbb
          generalize w30.alloc (.cells #[.bool false, .slice none 0 0, .slice none 0 0] 31) = wa at *
          refine hK.out _ _ (hS.keep hX4) (fun hHeld => ?_)
          clear hK K
          (try simp only [Act.put, List.setIfInBounds_toArray, List.set_cons_zero, List.set_cons_succ])
          refine held_step 8 rfl (by kernel_rfl) (fun K hK => ?_)
          have np : ¬ pb = bb := by omega
          obtain ⟨d0, d1, d2, d3, d4, d5⟩ := hbox4.facts
          go_simp
          refine hK.out _ _ (S2.set (S2.set (S2.set (hS.keep hX4) ⟨bb, 0, none⟩ _ np np) ⟨bb, 1, none⟩ _ np np) ⟨bb, 2, none⟩ _ np np) (fun hHeld => ?_)
          clear hK K
          (try simp only [Act.put, List.setIfInBounds_toArray, List.set_cons_zero, List.set_cons_succ])
          refine held_take 9 (v := ?_) rfl (by kernel_rfl) (by kernel_rfl) (by kernel_rfl) (fun _ _ _ h => h) (by rfl) ?_ (by assumption) ?_
          rotate_left
          · ((intro w hSw; (try dsimp only at hSw); go_simp) <;> with_reducible rfl)
          (try simp only [Act.put, List.setIfInBounds_toArray, List.set_cons_zero, List.set_cons_succ])
          refine wpAnyH_done (by kernel_rfl) ?_ _
          have hput := hbox4.put (neg := n12) (no_int a12 l12 c12) (no_int a12' l12' c12')
          have HFin := Lib.hid (hX4.own hput.ext (fun k e => by omega))
          clear hput hS hHeld hbbs
          go_wp2
          go_meet
          exact ⟨rfl, HFin.out⟩
        · go_simp
          obtain ⟨bb, hbb⟩ : ∃ bb, w20.heap.size = bb := ⟨_, rfl⟩
          have hbbs : w6.heap.size ≤ bb := by have := hX2.size; omega
          have hbox3 := boxR_new (W := w20) rfl false none 0 0 none 0 0
          have hX3 := hX2.alloc (.cells #[.bool false, .slice none 0 0, .slice none 0 0] 31)
          have hRt3 := hrt2.keep ((Ext.refl (fun _ => False) w20).alloc (.cells #[.bool false, .slice none 0 0, .slice none 0 0] 31))
          rw [hbb] at hbox3 ⊢
          clear hbb
          generalize w20.alloc (.cells #[.bool false, .slice none 0 0, .slice none 0 0] 31) = wa at *
          refine hK.out _ _ (hS.keep hX3) (fun hHeld => ?_)
          clear hK K
          (try simp only [Act.put, List.setIfInBounds_toArray, List.set_cons_zero, List.set_cons_succ])
          refine held_step 3 rfl (by kernel_rfl) (fun K hK => ?_)
          go_simp
          go_at_call 23
          refine (HB6.out _ _ _ hX3 hRt3 exZ_eq).mono ?_
          rintro q4 w40 hopt4
          obtain ⟨n12, a12, l12, c12, a12', l12', c12', rfl, hRat4, hx4⟩ := OptPost.open hopt4
          rw [show (none : Option Rat).isSome = false from rfl]
          have hX4 := hX3.trans hx4
          have hbox4 := hbox3.keep hx4
          refine hK.out _ _ (hS.keep hX4) (fun hHeld => ?_)
          clear hK K
          (try simp only [Act.put, List.setIfInBounds_toArray, List.set_cons_zero, List.set_cons_succ])
          refine held_take 4 (v := ?_) rfl (by kernel_rfl) (by kernel_rfl) (by kernel_rfl) (fun _ _ _ h => h) (by rfl) ?_ (by assumption) ?_
          rotate_left
          · ((intro w hSw; (try dsimp only at hSw); go_simp) <;> with_reducible rfl)
          (try simp only [Act.put, List.setIfInBounds_toArray, List.set_cons_zero, List.set_cons_succ])
          refine held_take 5 (v := ?_) rfl (by kernel_rfl) (by kernel_rfl) (by kernel_rfl) (fun _ _ _ h => h) (by rfl) ?_ (by assumption) ?_
          rotate_left
          · ((intro w hSw; (try dsimp only at hSw); go_simp) <;> with_reducible rfl)
          (try simp only [Act.put, List.setIfInBounds_toArray, List.set_cons_zero, List.set_cons_succ])
          refine held_take 6 (v := ?_) rfl (by kernel_rfl) (by kernel_rfl) (by kernel_rfl) (fun _ _ _ h => h) (by rfl) ?_ (by assumption) ?_
          rotate_left
          · ((intro w hSw; (try dsimp only at hSw); go_simp) <;> with_reducible rfl)
          (try simp only [Act.put, List.setIfInBounds_toArray, List.set_cons_zero, List.set_cons_succ])
          refine held_step 8 rfl (by kernel_rfl) (fun K hK => ?_)
          have np : ¬ pb = bb := by omega
          obtain ⟨d0, d1, d2, d3, d4, d5⟩ := hbox4.facts
          go_simp
          refine hK.out _ _ (S2.set (S2.set (S2.set (hS.keep hX4) ⟨bb, 0, none⟩ _ np np) ⟨bb, 1, none⟩ _ np np) ⟨bb, 2, none⟩ _ np np) (fun hHeld => ?_)
          clear hK K
          (try simp only [Act.put, List.setIfInBounds_toArray, List.set_cons_zero, List.set_cons_succ])
          refine held_take 9 (v := ?_) rfl (by kernel_rfl) (by kernel_rfl) (by kernel_rfl) (fun _ _ _ h => h) (by rfl) ?_ (by assumption) ?_
          rotate_left
          · ((intro w hSw; (try dsimp only at hSw); go_simp) <;> with_reducible rfl)
          (try simp only [Act.put, List.setIfInBounds_toArray, List.set_cons_zero, List.set_cons_succ])
          refine wpAnyH_done (by kernel_rfl) ?_ _
          have hput := hbox4.put (neg := n12) (no_int a12 l12 c12) (no_int a12' l12' c12')
          have HFin := Lib.hid (hX4.own hput.ext (fun k e => by omega))
          clear hput hS hHeld hbbs
          go_wp2
          go_meet
          exact ⟨rfl, HFin.out⟩
      · go_simp
        obtain ⟨bb, hbb⟩ : ∃ bb, ws.heap.size = bb := ⟨_, rfl⟩
        have hbbs : w6.heap.size ≤ bb := by have := hX1.size; omega
        have hbox2 := boxR_new (W := ws) rfl false none 0 0 none 0 0
        have hX2 := hX1.alloc (.cells #[.bool false, .slice none 0 0, .slice none 0 0] 31)
        have hSl2 := cell_keep hsl1 ((Ext.refl (fun _ => False) ws).alloc (.cells #[.bool false, .slice none 0 0, .slice none 0 0] 31))
        rw [hbb] at hbox2 ⊢
        clear hbb
        generalize ws.alloc (.cells #[.bool false, .slice none 0 0, .slice none 0 0] 31) = wa at *
        refine hK.out _ _ (hS.keep hX2) (fun hHeld => ?_)
        clear hK K
        (try simp only [Act.put, List.setIfInBounds_toArray, List.set_cons_zero, List.set_cons_succ])
        refine held_step 2 rfl (by kernel_rfl) (fun K hK => ?_)
        go_simp
        go_at_call 50
        refine (HI1.out _ sb 1 hSl2).mono ?_
        rintro q3 w30 ⟨v3, rfl, hrt3, hx3⟩
        obtain ⟨so3, sc3, rfl, -, -, -⟩ := hrt3.shape
        rw [show (listTo [(1 : Int)].length (qOf [1])).length = 1 from rfl] at hrt3 ⊢
        have hX3 := hX2.trans hx3
        have hbox3 := hbox2.keep hx3
        refine hK.out _ _ (hS.keep hX3) (fun hHeld => ?_)
        clear hK K
        (try simp only [Act.put, List.setIfInBounds_toArray, List.set_cons_zero, List.set_cons_succ])
        refine held_step 3 rfl (by kernel_rfl) (fun K hK => ?_)
        go_simp
        go_at_call 23
        refine (HB6.out _ _ _ hX3 hrt3 exZ_eq).mono ?_
        rintro q4 w40 hopt4
        obtain ⟨n12, a12, l12, c12, a12', l12', c12', rfl, hRat4, hx4⟩ := OptPost.open hopt4
        rw [show (none : Option Rat).isSome = false from rfl]
        have hX4 := hX3.trans hx4
        have hbox4 := hbox3.keep hx4
        refine hK.out _ _ (hS.keep hX4) (fun hHeld => ?_)
        clear hK K
        (try simp only [Act.put, List.setIfInBounds_toArray, List.set_cons_zero, List.set_cons_succ])
        refine held_take 4 (v := ?_) rfl (by kernel_rfl) (by kernel_rfl) (by kernel_rfl) (fun _ _ _ h => h) (by rfl) ?_ (by assumption) ?_
        rotate_left
        · ((intro w hSw; (try dsimp only at hSw); go_simp) <;> with_reducible rfl)
        (try simp only [Act.put, List.setIfInBounds_toArray, List.set_cons_zero, List.set_cons_succ])
        refine held_take 5 (v := ?_) rfl (by kernel_rfl) (by kernel_rfl) (by kernel_rfl) (fun _ _ _ h => h) (by rfl) ?_ (by assumption) ?_
        rotate_left
        · ((intro w hSw; (try dsimp only at hSw); go_simp) <;> with_reducible rfl)
        (try simp only [Act.put, List.setIfInBounds_toArray, List.set_cons_zero, List.set_cons_succ])
        refine held_take 6 (v := ?_) rfl (by kernel_rfl) (by kernel_rfl) (by kernel_rfl) (fun _ _ _ h => h) (by rfl) ?_ (by assumption) ?_
        rotate_left
        · ((intro w hSw; (try dsimp only at hSw); go_simp) <;> with_reducible rfl)
        (try simp only [Act.put, List.setIfInBounds_toArray, List.set_cons_zero, List.set_cons_succ])
        refine held_step 8 rfl (by kernel_rfl) (fun K hK => ?_)
        have np : ¬ pb = bb := by omega
        obtain ⟨d0, d1, d2, d3, d4, d5⟩ := hbox4.facts
        go_simp
        refine hK.out _ _ (S2.set (S2.set (S2.set (hS.keep hX4) ⟨bb, 0, none⟩ _ np np) ⟨bb, 1, none⟩ _ np np) ⟨bb, 2, none⟩ _ np np) (fun hHeld => ?_)
        clear hK K
        (try simp only [Act.put, List.setIfInBounds_toArray, List.set_cons_zero, List.set_cons_succ])
        refine held_take 9 (v := ?_) rfl (by kernel_rfl) (by kernel_rfl) (by kernel_rfl) (fun _ _ _ h => h) (by rfl) ?_ (by assumption) ?_
        rotate_left
        · ((intro w hSw; (try dsimp only at hSw); go_simp) <;> with_reducible rfl)
        (try simp only [Act.put, List.setIfInBounds_toArray, List.set_cons_zero, List.set_cons_succ])
        refine wpAnyH_done (by kernel_rfl) ?_ _
        have hput := hbox4.put (neg := n12) (no_int a12 l12 c12) (no_int a12' l12' c12')
        have HFin := Lib.hid (hX4.own hput.ext (fun k e => by omega))
        clear hput hS hHeld hbbs
        go_wp2
        go_meet
        exact ⟨rfl, HFin.out⟩
    · go_simp
      obtain ⟨bb, hbb⟩ : ∃ bb, wd.heap.size = bb := ⟨_, rfl⟩
      have hbbs : w6.heap.size ≤ bb := by have := hxd.size; omega
      have hbox1 := boxR_new (W := wd) rfl false none 0 0 none 0 0
      have hX1 := hxd.alloc (.cells #[.bool false, .slice none 0 0, .slice none 0 0] 31)
      rw [hbb] at hbox1 ⊢
      clear hbb
      generalize wd.alloc (.cells #[.bool false, .slice none 0 0, .slice none 0 0] 31) = wa at *
      refine hK.out _ _ (hS.keep hX1) (fun hHeld => ?_)
      clear hK K
      (try simp only [Act.put, List.setIfInBounds_toArray, List.set_cons_zero, List.set_cons_succ])
      refine held_step 1 rfl (by kernel_rfl) (fun K hK => ?_)
      go_simp
      obtain ⟨sb, hsb⟩ : ∃ sb, wa.heap.size = sb := ⟨_, rfl⟩
      have hsbs : w6.heap.size ≤ sb := by have := hX1.size; omega
      have hsl2 := cellq (blk_alloc_at wa (.cells #[.int .i64 1] 2)) 0 rfl
      have hX2 := hX1.alloc (.cells #[.int .i64 1] 2)
      have hBx2 := hbox1.keep ((Ext.refl (fun _ => False) wa).alloc (.cells #[.int .i64 1] 2))
      rw [hsb] at hsl2 ⊢
      clear hsb
      generalize wa.alloc (.cells #[.int .i64 1] 2) = ws at *
      refine hK.out _ _ (hS.keep hX2) (fun hHeld => ?_)
      clear hK K
      (try simp only [Act.put, List.setIfInBounds_toArray, List.set_cons_zero, List.set_cons_succ])
      refine held_step 2 rfl (by kernel_rfl) (fun K hK => ?_)
      go_simp
      go_at_call 50
      refine (HI1.out _ sb 1 hsl2).mono ?_
      rintro q3 w30 ⟨v3, rfl, hrt3, hx3⟩
      obtain ⟨so3, sc3, rfl, -, -, -⟩ := hrt3.shape
      rw [show (listTo [(1 : Int)].length (qOf [1])).length = 1 from rfl] at hrt3 ⊢
      have hX3 := hX2.trans hx3
      have hbox3 := hBx2.keep hx3
      refine hK.out _ _ (hS.keep hX3) (fun hHeld => ?_)
      clear hK K
      (try simp only [Act.put, List.setIfInBounds_toArray, List.set_cons_zero, List.set_cons_succ])
      refine held_step 3 rfl (by kernel_rfl) (fun K hK => ?_)
      go_simp
      go_at_call 23
      refine (HB6.out _ _ _ hX3 hrt3 exZ_eq).mono ?_
      rintro q4 w40 hopt4
      obtain ⟨n12, a12, l12, c12, a12', l12', c12', rfl, hRat4, hx4⟩ := OptPost.open hopt4
      rw [show (none : Option Rat).isSome = false from rfl]
      have hX4 := hX3.trans hx4
      have hbox4 := hbox3.keep hx4
      refine hK.out _ _ (hS.keep hX4) (fun hHeld => ?_)
      clear hK K
      (try simp only [Act.put, List.setIfInBounds_toArray, List.set_cons_zero, List.set_cons_succ])
      refine held_take 4 (v := ?_) rfl (by kernel_rfl) (by kernel_rfl) (by kernel_rfl) (fun _ _ _ h => h) (by rfl) ?_ (by assumption) ?_
      rotate_left
      · ((intro w hSw; (try dsimp only at hSw); go_simp) <;> with_reducible rfl)
      (try simp only [Act.put, List.setIfInBounds_toArray, List.set_cons_zero, List.set_cons_succ])
      refine held_take 5 (v := ?_) rfl (by kernel_rfl) (by kernel_rfl) (by kernel_rfl) (fun _ _ _ h => h) (by rfl) ?_ (by assumption) ?_
      rotate_left
      · ((intro w hSw; (try dsimp only at hSw); go_simp) <;> with_reducible rfl)
      (try simp only [Act.put, List.setIfInBounds_toArray, List.set_cons_zero, List.set_cons_succ])
      refine held_take 6 (v := ?_) rfl (by kernel_rfl) (by kernel_rfl) (by kernel_rfl) (fun _ _ _ h => h) (by rfl) ?_ (by assumption) ?_
      rotate_left
      · ((intro w hSw; (try dsimp only at hSw); go_simp) <;> with_reducible rfl)
      (try simp only [Act.put, List.setIfInBounds_toArray, List.set_cons_zero, List.set_cons_succ])
      refine held_step 8 rfl (by kernel_rfl) (fun K hK => ?_)
      have np : ¬ pb = bb := by omega
      obtain ⟨d0, d1, d2, d3, d4, d5⟩ := hbox4.facts
      go_simp
      refine hK.out _ _ (S2.set (S2.set (S2.set (hS.keep hX4) ⟨bb, 0, none⟩ _ np np) ⟨bb, 1, none⟩ _ np np) ⟨bb, 2, none⟩ _ np np) (fun hHeld => ?_)
      clear hK K
      (try simp only [Act.put, List.setIfInBounds_toArray, List.set_cons_zero, List.set_cons_succ])
      refine held_take 9 (v := ?_) rfl (by kernel_rfl) (by kernel_rfl) (by kernel_rfl) (fun _ _ _ h => h) (by rfl) ?_ (by assumption) ?_
      rotate_left
      · ((intro w hSw; (try dsimp only at hSw); go_simp) <;> with_reducible rfl)
      (try simp only [Act.put, List.setIfInBounds_toArray, List.set_cons_zero, List.set_cons_succ])
      refine wpAnyH_done (by kernel_rfl) ?_ _
      have hput := hbox4.put (neg := n12) (no_int a12 l12 c12) (no_int a12' l12' c12')
      have HFin := Lib.hid (hX4.own hput.ext (fun k e => by omega))
      clear hput hS hHeld hbbs
      go_wp2
      go_meet
      exact ⟨rfl, HFin.out⟩
  case rest =>
    obtain ⟨rfl, hxc⟩ := hcut
    have HP8 := Lib.hid (And.intro (HP7.out.1.keep hxc) (And.intro (blk_keep HP7.out.2.1 hxc) (And.intro (HP7.out.2.2.1.keep hxc) (And.intro (HP7.out.2.2.2.1.keep hxc) (And.intro (HP7.out.2.2.2.2.1.keep hxc) (And.intro (HP7.out.2.2.2.2.2.1.keep hxc) (HP7.out.2.2.2.2.2.2.trans hxc)))))))
    have HY8 := Lib.hid (And.intro (HY7.out.1.keep hxc) (HY7.out.2.keep hxc))
    clear hS HB6 HP7 HY7 HBo HI1 hxc hpbl
    go_wp2_with fail
    refine (Rrfrom_any wc (-7) (by decide) (by decide)).mono ?_
    rintro r9 w9 ⟨t9, rfl, h9, hx9⟩
    obtain ⟨n7, a7, m7, c7, a7', m7', c7', rfl⟩ := h9.shape
    have hxb := hx9.alloc (.cells #[.int .i64 0, .bool n7, .slice a7 m7 c7, .slice a7' m7' c7', .slice xo 2 xc, .slice yo 1 yc, .slice none 0 0] 34)
    have hxc := (Ext.refl (fun _ => False) w9).alloc (.cells #[.int .i64 0, .bool n7, .slice a7 m7 c7, .slice a7' m7' c7', .slice xo 2 xc, .slice yo 1 yc, .slice none 0 0] 34)
    have hob := blk_alloc_at w9 (.cells #[.int .i64 0, .bool n7, .slice a7 m7 c7, .slice a7' m7' c7', .slice xo 2 xc, .slice yo 1 yc, .slice none 0 0] 34)
    have HP9 := Lib.hid (And.intro (HP8.out.1.keep hxb) (And.intro (blk_keep HP8.out.2.1 hxb) (And.intro (HP8.out.2.2.1.keep hxb) (And.intro (HP8.out.2.2.2.1.keep hxb) (And.intro (HP8.out.2.2.2.2.1.keep hxb) (And.intro (HP8.out.2.2.2.2.2.1.keep hxb) (And.intro (HP8.out.2.2.2.2.2.2.trans hxb) (And.intro hob (h9.keep hxc)))))))))
    have HY9 := Lib.hid (And.intro (HY8.out.1.keep hxb) (HY8.out.2.keep hxb))
    clear hxb hxc h9 hx9 HP8 HY8 hob
    go_upto_region 8 with fail
    generalize hw10 : w9.alloc (.cells #[.int .i64 0, .bool n7, .slice a7 m7 c7, .slice a7' m7' c7', .slice xo 2 xc, .slice yo 1 yc, .slice none 0 0] 34) = w10 at *
    clear hw10
    obtain ⟨ob, hob⟩ : ∃ ob, w9.heap.size = ob := ⟨_, rfl⟩
    rw [hob] at HP9 ⊢
    clear hob
    obtain ⟨x0, x1, x2, -⟩ := HP9.out.2.2.1.facts
    obtain ⟨y0, y1, y2, -⟩ := HP9.out.2.2.2.2.1.facts
    have hS : S15 pb pb ab ab ab bb bb bb ob ob ob ob ob ob ob 0 1 0 1 2 0 1 2 0 1 2 3 4 5 6 (.slice vo 2 vc) (.slice ro 1 rc) (.bool n4) (.slice a4 m4 c4) (.slice a4' m4' c4') (.bool n5) (.slice a5 m5 c5) (.slice a5' m5' c5') (.int .i64 0) (.bool n7) (.slice a7 m7 c7) (.slice a7' m7' c7') (.slice xo 2 xc) (.slice yo 1 yc) (.slice none 0 0) w10 := ⟨cellq HP9.out.2.1 0 rfl, cellq HP9.out.2.1 1 rfl, x0, x1, x2, y0, y1, y2, cellq HP9.out.2.2.2.2.2.2.2.1 0 rfl, cellq HP9.out.2.2.2.2.2.2.2.1 1 rfl, cellq HP9.out.2.2.2.2.2.2.2.1 2 rfl, cellq HP9.out.2.2.2.2.2.2.2.1 3 rfl, cellq HP9.out.2.2.2.2.2.2.2.1 4 rfl, cellq HP9.out.2.2.2.2.2.2.2.1 5 rfl, cellq HP9.out.2.2.2.2.2.2.2.1 6 rfl⟩
    clear x0 x1 x2 y0 y1 y2
    have HF7 := Lib.hid (fun W => Rrfrom_any W (-7) (by decide) (by decide))
    have HF9 := Lib.hid (fun W => Rrfrom_any W (-9) (by decide) (by decide))
    have HF6 := Lib.hid (fun W => Rrfrom_any W (-6) (by decide) (by decide))
    have sz : ∀ k : Int, -1000 ≤ k → k ≤ 1000 → Sz (k : Rat) 2 := fun k h0 h1 => (Sz.int (by unfold InR; omega))
    have HSa := Lib.hid (fun W u (hW : Ext (fun _ => False) w10 W) (hu : IsRat W u ((-7 : Int) : Rat)) => (by rw [show true = decide (((-7 : Int) : Rat) = ((-7 : Int) : Rat)) from by simp]; exact Rrsame_any W _ u _ _ 2 (HP9.out.2.2.2.1.keep hW) hu (sz (-7) (by decide) (by decide)) (sz (-7) (by decide) (by decide)) (by decide) : Calls Tryz.prog 44 #[.agg #[.bool n4, .slice a4 m4 c4, .slice a4' m4' c4'], u] W (BoolPost W true)))
    have HSb := Lib.hid (fun W u (hW : Ext (fun _ => False) w10 W) (hu : IsRat W u ((-9 : Int) : Rat)) => (by rw [show true = decide (((-9 : Int) : Rat) = ((-9 : Int) : Rat)) from by simp]; exact Rrsame_any W _ u _ _ 2 (HP9.out.2.2.2.2.2.1.keep hW) hu (sz (-9) (by decide) (by decide)) (sz (-9) (by decide) (by decide)) (by decide) : Calls Tryz.prog 44 #[.agg #[.bool n5, .slice a5 m5 c5, .slice a5' m5' c5'], u] W (BoolPost W true)))
    have HOp := Lib.hid (fun W (hW : Ext (fun _ => False) w10 W) => (by rw [← ex_opt]; exact Optimal_any W _ _ _ exP exX exY 2 2 (HP9.out.1.keep hW) (HY9.out.2.keep hW) (HY9.out.1.keep hW) (ex_small 2 (by decide) (by decide)) : Calls Tryz.prog 33 #[.agg #[.slice vo 2 vc, .slice ro 1 rc], .slice xo 2 xc, .slice yo 1 yc] W (BoolPost W true)))
    have HC7 := Lib.hid (fun W (hW : Ext (fun _ => False) w10 W) => (by have h := Check_any W (.agg #[.slice vo 2 vc, .slice ro 1 rc]) (.agg #[.int .i64 0, .bool n7, .slice a7 m7 c7, .slice a7' m7' c7', .slice xo 2 xc, .slice yo 1 yc, .slice none 0 0]) exP ⟨0, ((-7 : Int) : Rat), exX, exY, []⟩ 2 2 (HP9.out.1.keep hW) ⟨n7, a7, m7, c7, a7', m7', c7', _, _, _, rfl, (HP9.out.2.2.2.2.2.2.2.2.keep hW).reads (sz (-7) (by decide) (by decide)), HY9.out.2.keep hW, HY9.out.1.keep hW, Rats.nil W 2, by unfold InR; decide⟩ (ex_small 2 (by decide) (by decide)); rw [ex_check] at h; exact h : Calls Tryz.prog 19 #[.agg #[.slice vo 2 vc, .slice ro 1 rc], .agg #[.int .i64 0, .bool n7, .slice a7 m7 c7, .slice a7' m7' c7', .slice xo 2 xc, .slice yo 1 yc, .slice none 0 0]] W (ErrPost W 0)))
    have HC6 := Lib.hid (fun W n a m c a' m' c' (hW : Ext (fun _ => False) w10 W) (hu : IsRat W (.agg #[.bool n, .slice a m c, .slice a' m' c']) ((-6 : Int) : Rat)) => (by have h := Check_any W (.agg #[.slice vo 2 vc, .slice ro 1 rc]) (.agg #[.int .i64 0, .bool n, .slice a m c, .slice a' m' c', .slice xo 2 xc, .slice yo 1 yc, .slice none 0 0]) exP ⟨0, ((-6 : Int) : Rat), exX, exY, []⟩ 2 2 (HP9.out.1.keep hW) ⟨n, a, m, c, a', m', c', _, _, _, rfl, hu.reads (sz (-6) (by decide) (by decide)), HY9.out.2.keep hW, HY9.out.1.keep hW, Rats.nil W 2, by unfold InR; decide⟩ (ex_small 2 (by decide) (by decide)); rw [ex_check'] at h; exact h : Calls Tryz.prog 19 #[.agg #[.slice vo 2 vc, .slice ro 1 rc], .agg #[.int .i64 0, .bool n, .slice a m c, .slice a' m' c', .slice xo 2 xc, .slice yo 1 yc, .slice none 0 0]] W (ErrPost W 13)))
    have hX0 := (Ext.refl (fun _ => False) w10).drew
    have hXw := HP9.out.2.2.2.2.2.2.1
    refine wp_region_held_drew (S := (S15 pb pb ab ab ab bb bb bb ob ob ob ob ob ob ob 0 1 0 1 2 0 1 2 0 1 2 3 4 5 6 (.slice vo 2 vc) (.slice ro 1 rc) (.bool n4) (.slice a4 m4 c4) (.slice a4' m4' c4') (.bool n5) (.slice a5 m5 c5) (.slice a5' m5' c5') (.int .i64 0) (.bool n7) (.slice a7 m7 c7) (.slice a7' m7' c7') (.slice xo 2 xc) (.slice yo 1 yc) (.slice none 0 0))) (by kernel_rfl) (hS.drew) (fun hHeld => ?_)
    refine held_take 0 (v := ?_) rfl (by kernel_rfl) (by kernel_rfl) (by kernel_rfl) (fun _ _ _ h => h) (by rfl) ?_ (by assumption) ?_
    rotate_left
    · ((intro w hSw; (try dsimp only at hSw); go_simp) <;> with_reducible rfl)
    (try simp only [Act.put, List.setIfInBounds_toArray, List.set_cons_zero, List.set_cons_succ])
    refine held_take 1 (v := ?_) rfl (by kernel_rfl) (by kernel_rfl) (by kernel_rfl) (fun _ _ _ h => h) (by rfl) ?_ (by assumption) ?_
    rotate_left
    · ((intro w hSw; (try dsimp only at hSw); go_simp) <;> with_reducible rfl)
    (try simp only [Act.put, List.setIfInBounds_toArray, List.set_cons_zero, List.set_cons_succ])
    refine held_take 2 (v := ?_) rfl (by kernel_rfl) (by kernel_rfl) (by kernel_rfl) (fun _ _ _ h => h) (by rfl) ?_ (by assumption) ?_
    rotate_left
    · ((intro w hSw; (try dsimp only at hSw); go_simp) <;> with_reducible rfl)
    (try simp only [Act.put, List.setIfInBounds_toArray, List.set_cons_zero, List.set_cons_succ])
    refine held_take 3 (v := ?_) rfl (by kernel_rfl) (by kernel_rfl) (by kernel_rfl) (fun _ _ _ h => h) (by rfl) ?_ (by assumption) ?_
    rotate_left
    · ((intro w hSw; (try dsimp only at hSw); go_simp) <;> with_reducible rfl)
    (try simp only [Act.put, List.setIfInBounds_toArray, List.set_cons_zero, List.set_cons_succ])
    refine held_take 4 (v := ?_) rfl (by kernel_rfl) (by kernel_rfl) (by kernel_rfl) (fun _ _ _ h => h) (by rfl) ?_ (by assumption) ?_
    rotate_left
    · ((intro w hSw; (try dsimp only at hSw); go_simp) <;> with_reducible rfl)
    (try simp only [Act.put, List.setIfInBounds_toArray, List.set_cons_zero, List.set_cons_succ])
    refine held_take 5 (v := ?_) rfl (by kernel_rfl) (by kernel_rfl) (by kernel_rfl) (fun _ _ _ h => h) (by rfl) ?_ (by assumption) ?_
    rotate_left
    · ((intro w hSw; (try dsimp only at hSw); go_simp) <;> with_reducible rfl)
    (try simp only [Act.put, List.setIfInBounds_toArray, List.set_cons_zero, List.set_cons_succ])
    refine held_take 6 (v := ?_) rfl (by kernel_rfl) (by kernel_rfl) (by kernel_rfl) (fun _ _ _ h => h) (by rfl) ?_ (by assumption) ?_
    rotate_left
    · ((intro w hSw; (try dsimp only at hSw); go_simp) <;> with_reducible rfl)
    (try simp only [Act.put, List.setIfInBounds_toArray, List.set_cons_zero, List.set_cons_succ])
    refine held_take 7 (v := ?_) rfl (by kernel_rfl) (by kernel_rfl) (by kernel_rfl) (fun _ _ _ h => h) (by rfl) ?_ (by assumption) ?_
    rotate_left
    · ((intro w hSw; (try dsimp only at hSw); go_simp) <;> with_reducible rfl)
    (try simp only [Act.put, List.setIfInBounds_toArray, List.set_cons_zero, List.set_cons_succ])
    refine held_take 8 (v := ?_) rfl (by kernel_rfl) (by kernel_rfl) (by kernel_rfl) (fun _ _ _ h => h) (by rfl) ?_ (by assumption) ?_
    rotate_left
    · ((intro w hSw; (try dsimp only at hSw); go_simp) <;> with_reducible rfl)
    (try simp only [Act.put, List.setIfInBounds_toArray, List.set_cons_zero, List.set_cons_succ])
    refine held_take 9 (v := ?_) rfl (by kernel_rfl) (by kernel_rfl) (by kernel_rfl) (fun _ _ _ h => h) (by rfl) ?_ (by assumption) ?_
    rotate_left
    · ((intro w hSw; (try dsimp only at hSw); go_simp) <;> with_reducible rfl)
    (try simp only [Act.put, List.setIfInBounds_toArray, List.set_cons_zero, List.set_cons_succ])
    refine held_step 10 rfl (by kernel_rfl) (fun K hK => ?_)
    (go_simp; go_at_call 32; (with_reducible refine (HF7.out _).mono ?_); rintro q1 u1 ⟨t1, rfl, ht1, hx1⟩; obtain ⟨m1, e1, l1, f1, e1', l1', f1', rfl⟩ := ht1.shape; have hX1 := hX0.trans hx1; have hK1 := hS.keep hX1)
    refine hK.out _ _ (hK1) (fun hHeld => ?_)
    clear hK K
    (try simp only [Act.put, List.setIfInBounds_toArray, List.set_cons_zero, List.set_cons_succ])
    refine held_step 11 rfl (by kernel_rfl) (fun K hK => ?_)
    (go_simp; go_at_call 44; (with_reducible refine (HSa.out _ _ hX1 ht1).mono ?_); rintro q2 u2 ⟨rfl, hx2⟩; have hX2 := hX1.trans hx2; have hK2 := hS.keep hX2)
    refine hK.out _ _ (hK2) (fun hHeld => ?_)
    clear hK K
    (try simp only [Act.put, List.setIfInBounds_toArray, List.set_cons_zero, List.set_cons_succ])
    refine held_take 12 (v := ?_) rfl (by kernel_rfl) (by kernel_rfl) (by kernel_rfl) (fun _ _ _ h => h) (by rfl) ?_ (by assumption) ?_
    rotate_left
    · ((intro w hSw; (try dsimp only at hSw); go_simp) <;> with_reducible rfl)
    (try simp only [Act.put, List.setIfInBounds_toArray, List.set_cons_zero, List.set_cons_succ])
    refine held_take 13 (v := ?_) rfl (by kernel_rfl) (by kernel_rfl) (by kernel_rfl) (fun _ _ _ h => h) (by rfl) ?_ (by assumption) ?_
    rotate_left
    · ((intro w hSw; (try dsimp only at hSw); go_simp) <;> with_reducible rfl)
    (try simp only [Act.put, List.setIfInBounds_toArray, List.set_cons_zero, List.set_cons_succ])
    refine held_take 14 (v := ?_) rfl (by kernel_rfl) (by kernel_rfl) (by kernel_rfl) (fun _ _ _ h => h) (by rfl) ?_ (by assumption) ?_
    rotate_left
    · ((intro w hSw; (try dsimp only at hSw); go_simp) <;> with_reducible rfl)
    (try simp only [Act.put, List.setIfInBounds_toArray, List.set_cons_zero, List.set_cons_succ])
    refine held_step 15 rfl (by kernel_rfl) (fun K hK => ?_)
    (go_simp; go_at_call 32; (with_reducible refine (HF9.out _).mono ?_); rintro q3 u3 ⟨t3, rfl, ht3, hx3⟩; obtain ⟨m3, e3, l3, f3, e3', l3', f3', rfl⟩ := ht3.shape; have hX3 := hX2.trans hx3; have hK3 := hS.keep hX3)
    refine hK.out _ _ (hK3) (fun hHeld => ?_)
    clear hK K
    (try simp only [Act.put, List.setIfInBounds_toArray, List.set_cons_zero, List.set_cons_succ])
    refine held_step 16 rfl (by kernel_rfl) (fun K hK => ?_)
    (go_simp; go_at_call 44; (with_reducible refine (HSb.out _ _ hX3 ht3).mono ?_); rintro q4 u4 ⟨rfl, hx4⟩; have hX4 := hX3.trans hx4; have hK4 := hS.keep hX4)
    refine hK.out _ _ (hK4) (fun hHeld => ?_)
    clear hK K
    (try simp only [Act.put, List.setIfInBounds_toArray, List.set_cons_zero, List.set_cons_succ])
    refine held_take 17 (v := ?_) rfl (by kernel_rfl) (by kernel_rfl) (by kernel_rfl) (fun _ _ _ h => h) (by rfl) ?_ (by assumption) ?_
    rotate_left
    · ((intro w hSw; (try dsimp only at hSw); go_simp) <;> with_reducible rfl)
    (try simp only [Act.put, List.setIfInBounds_toArray, List.set_cons_zero, List.set_cons_succ])
    refine held_take 18 (v := ?_) rfl (by kernel_rfl) (by kernel_rfl) (by kernel_rfl) (fun _ _ _ h => h) (by rfl) ?_ (by assumption) ?_
    rotate_left
    · ((intro w hSw; (try dsimp only at hSw); go_simp) <;> with_reducible rfl)
    (try simp only [Act.put, List.setIfInBounds_toArray, List.set_cons_zero, List.set_cons_succ])
    refine held_take 19 (v := ?_) rfl (by kernel_rfl) (by kernel_rfl) (by kernel_rfl) (fun _ _ _ h => h) (by rfl) ?_ (by assumption) ?_
    rotate_left
    · ((intro w hSw; (try dsimp only at hSw); go_simp) <;> with_reducible rfl)
    (try simp only [Act.put, List.setIfInBounds_toArray, List.set_cons_zero, List.set_cons_succ])
    refine held_take 20 (v := ?_) rfl (by kernel_rfl) (by kernel_rfl) (by kernel_rfl) (fun _ _ _ h => h) (by rfl) ?_ (by assumption) ?_
    rotate_left
    · ((intro w hSw; (try dsimp only at hSw); go_simp) <;> with_reducible rfl)
    (try simp only [Act.put, List.setIfInBounds_toArray, List.set_cons_zero, List.set_cons_succ])
    refine held_take 21 (v := ?_) rfl (by kernel_rfl) (by kernel_rfl) (by kernel_rfl) (fun _ _ _ h => h) (by rfl) ?_ (by assumption) ?_
    rotate_left
    · ((intro w hSw; (try dsimp only at hSw); go_simp) <;> with_reducible rfl)
    (try simp only [Act.put, List.setIfInBounds_toArray, List.set_cons_zero, List.set_cons_succ])
    refine held_step 22 rfl (by kernel_rfl) (fun K hK => ?_)
    (go_simp; go_at_call 33; (with_reducible refine (HOp.out _ hX4).mono ?_); rintro q5 u5 ⟨rfl, hx5⟩; have hX5 := hX4.trans hx5; have hK5 := hS.keep hX5)
    refine hK.out _ _ (hK5) (fun hHeld => ?_)
    clear hK K
    (try simp only [Act.put, List.setIfInBounds_toArray, List.set_cons_zero, List.set_cons_succ])
    refine held_take 23 (v := ?_) rfl (by kernel_rfl) (by kernel_rfl) (by kernel_rfl) (fun _ _ _ h => h) (by rfl) ?_ (by assumption) ?_
    rotate_left
    · ((intro w hSw; (try dsimp only at hSw); go_simp) <;> with_reducible rfl)
    (try simp only [Act.put, List.setIfInBounds_toArray, List.set_cons_zero, List.set_cons_succ])
    refine held_take 24 (v := ?_) rfl (by kernel_rfl) (by kernel_rfl) (by kernel_rfl) (fun _ _ _ h => h) (by rfl) ?_ (by assumption) ?_
    rotate_left
    · ((intro w hSw; (try dsimp only at hSw); go_simp) <;> with_reducible rfl)
    (try simp only [Act.put, List.setIfInBounds_toArray, List.set_cons_zero, List.set_cons_succ])
    refine held_take 25 (v := ?_) rfl (by kernel_rfl) (by kernel_rfl) (by kernel_rfl) (fun _ _ _ h => h) (by rfl) ?_ (by assumption) ?_
    rotate_left
    · ((intro w hSw; (try dsimp only at hSw); go_simp) <;> with_reducible rfl)
    (try simp only [Act.put, List.setIfInBounds_toArray, List.set_cons_zero, List.set_cons_succ])
    refine held_take 26 (v := ?_) rfl (by kernel_rfl) (by kernel_rfl) (by kernel_rfl) (fun _ _ _ h => h) (by rfl) ?_ (by assumption) ?_
    rotate_left
    · ((intro w hSw; (try dsimp only at hSw); go_simp) <;> with_reducible rfl)
    (try simp only [Act.put, List.setIfInBounds_toArray, List.set_cons_zero, List.set_cons_succ])
    refine held_step 27 rfl (by kernel_rfl) (fun K hK => ?_)
    (go_simp; go_at_call 19; (with_reducible refine (HC7.out _ hX5).mono ?_); rintro q6 u6 ⟨rfl, hx6⟩; have hX6 := hX5.trans hx6; have hK6 := hS.keep hX6)
    refine hK.out _ _ (hK6) (fun hHeld => ?_)
    clear hK K
    (try simp only [Act.put, List.setIfInBounds_toArray, List.set_cons_zero, List.set_cons_succ])
    refine held_take 28 (v := ?_) rfl (by kernel_rfl) (by kernel_rfl) (by kernel_rfl) (fun _ _ _ h => h) (by rfl) ?_ (by assumption) ?_
    rotate_left
    · ((intro w hSw; (try dsimp only at hSw); go_simp) <;> with_reducible rfl)
    (try simp only [Act.put, List.setIfInBounds_toArray, List.set_cons_zero, List.set_cons_succ])
    refine held_take 29 (v := ?_) rfl (by kernel_rfl) (by kernel_rfl) (by kernel_rfl) (fun _ _ _ h => h) (by rfl) ?_ (by assumption) ?_
    rotate_left
    · ((intro w hSw; (try dsimp only at hSw); go_simp) <;> with_reducible rfl)
    (try simp only [Act.put, List.setIfInBounds_toArray, List.set_cons_zero, List.set_cons_succ])
    refine held_take 30 (v := ?_) rfl (by kernel_rfl) (by kernel_rfl) (by kernel_rfl) (fun _ _ _ h => h) (by rfl) ?_ (by assumption) ?_
    rotate_left
    · ((intro w hSw; (try dsimp only at hSw); go_simp) <;> with_reducible rfl)
    (try simp only [Act.put, List.setIfInBounds_toArray, List.set_cons_zero, List.set_cons_succ])
    refine held_take 31 (v := ?_) rfl (by kernel_rfl) (by kernel_rfl) (by kernel_rfl) (fun _ _ _ h => h) (by rfl) ?_ (by assumption) ?_
    rotate_left
    · ((intro w hSw; (try dsimp only at hSw); go_simp) <;> with_reducible rfl)
    (try simp only [Act.put, List.setIfInBounds_toArray, List.set_cons_zero, List.set_cons_succ])
    refine held_take 33 (v := ?_) rfl (by kernel_rfl) (by kernel_rfl) (by kernel_rfl) (fun _ _ _ h => h) (by rfl) ?_ (by assumption) ?_
    rotate_left
    · ((intro w hSw; (try dsimp only at hSw); go_simp) <;> with_reducible rfl)
    (try simp only [Act.put, List.setIfInBounds_toArray, List.set_cons_zero, List.set_cons_succ])
    refine held_take 34 (v := ?_) rfl (by kernel_rfl) (by kernel_rfl) (by kernel_rfl) (fun _ _ _ h => h) (by rfl) ?_ (by assumption) ?_
    rotate_left
    · ((intro w hSw; (try dsimp only at hSw); go_simp) <;> with_reducible rfl)
    (try simp only [Act.put, List.setIfInBounds_toArray, List.set_cons_zero, List.set_cons_succ])
    refine held_step 32 rfl (by kernel_rfl) (fun K hK => ?_)
    (go_simp; go_at_call 32; (with_reducible refine (HF6.out _).mono ?_); rintro q7 u7 ⟨t7, rfl, ht7, hx7⟩; obtain ⟨m7, e7, l7, f7, e7', l7', f7', rfl⟩ := ht7.shape; have hC6 := HC6.out u7 _ _ _ _ _ _ _ ((hX6.trans hx7)) ht7; have hX7 := hX6.trans hx7; have hK7 := hS.keep hX7)
    refine hK.out _ _ (hK7) (fun hHeld => ?_)
    clear hK K
    (try simp only [Act.put, List.setIfInBounds_toArray, List.set_cons_zero, List.set_cons_succ])
    refine held_take 35 (v := ?_) rfl (by kernel_rfl) (by kernel_rfl) (by kernel_rfl) (fun _ _ _ h => h) (by rfl) ?_ (by assumption) ?_
    rotate_left
    · ((intro w hSw; (try dsimp only at hSw); go_simp) <;> with_reducible rfl)
    (try simp only [Act.put, List.setIfInBounds_toArray, List.set_cons_zero, List.set_cons_succ])
    refine held_step 36 rfl (by kernel_rfl) (fun K hK => ?_)
    (go_simp; go_at_call 19; (with_reducible refine (hC6).mono ?_); rintro q8 u8 ⟨rfl, hx8⟩; have hX8 := hX7.trans hx8; have hK8 := hS.keep hX8)
    refine hK.out _ _ (hK8) (fun hHeld => ?_)
    clear hK K
    (try simp only [Act.put, List.setIfInBounds_toArray, List.set_cons_zero, List.set_cons_succ])
    refine held_take 37 (v := ?_) rfl (by kernel_rfl) (by kernel_rfl) (by kernel_rfl) (fun _ _ _ h => h) (by rfl) ?_ (by assumption) ?_
    rotate_left
    · ((intro w hSw; (try dsimp only at hSw); go_simp) <;> with_reducible rfl)
    (try simp only [Act.put, List.setIfInBounds_toArray, List.set_cons_zero, List.set_cons_succ])
    refine held_take 38 (v := ?_) rfl (by kernel_rfl) (by kernel_rfl) (by kernel_rfl) (fun _ _ _ h => h) (by rfl) ?_ (by assumption) ?_
    rotate_left
    · ((intro w hSw; (try dsimp only at hSw); go_simp) <;> with_reducible rfl)
    (try simp only [Act.put, List.setIfInBounds_toArray, List.set_cons_zero, List.set_cons_succ])
    refine held_take 39 (v := ?_) rfl (by kernel_rfl) (by kernel_rfl) (by kernel_rfl) (fun _ _ _ h => h) (by rfl) ?_ (by assumption) ?_
    rotate_left
    · ((intro w hSw; (try dsimp only at hSw); go_simp) <;> with_reducible rfl)
    (try simp only [Act.put, List.setIfInBounds_toArray, List.set_cons_zero])
    refine wpAnyH_done (by kernel_rfl) ?_ _
    have HXX := Lib.hid (hXw.trans hX8)
    go_wp2
    go_ret
    exact ⟨rfl, HXX.out⟩
end Go.Proofs.YtbgienfcmdgaaaaGreat
/-
  DualityKinds: the walk. Conditions: the arguments read as a program and as lists of fractions.
-/
namespace Go.Proofs.YtbgienfcmdgaaaaGreat
open Go.RowKit Go.MapKept
open Go.ChangeMaps (setBlock)

theorem room_small {n m L : Nat} (hn : n ≤ 6) (hm : m ≤ 8) (h1 : 1 ≤ L) (hL : L ≤ 4) : Room n m 12 L := by
  refine ⟨h1, ?_⟩
  have e1 : m * (12 * (L + 3) + 2) ≤ 8 * 86 := Nat.mul_le_mul hm (by omega)
  have e2 : (n + 1) * (m * (12 * (L + 3) + 2) + 7) ≤ 7 * 695 := Nat.mul_le_mul (by omega) (by omega)
  have e3 : m * (L + 3) ≤ 8 * 7 := Nat.mul_le_mul hm (by omega)
  have e4 : n * (L + 3) ≤ 6 * 7 := Nat.mul_le_mul hn (by omega)
  omega
theorem small_of {p : ProgV} (h : fewP p 6 8 = true) : Small p 12 4 := by
  unfold fewP at h
  simp only [Bool.and_eq_true, decide_eq_true_eq, List.all_eq_true] at h
  refine ⟨room_small h.1.2 h.2 (by omega) (by omega), fun i hi => ?_⟩
  have hm : p.r i ∈ p.rows := by
    unfold ProgV.r
    rw [getD_lt hi]; exact List.getElem_mem hi
  have := h.1.1 _ hm
  unfold fewRow at this
  simp only [Bool.and_eq_true, decide_eq_true_eq] at this
  omega
theorem smallB_parts {p : ProgV} {ls : List (List RatV)} (h : smallB p ls = true) : Small p 12 4 ∧ ∀ rs ∈ ls, fewL 4 rs = true ∧ rs.length ≤ 10 := by
  unfold smallB at h
  simp only [Bool.and_eq_true, List.all_eq_true] at h
  refine ⟨small_of h.2, fun rs hr => ?_⟩
  have := h.1 rs hr
  unfold shortB at this
  simp only [Bool.and_eq_true, decide_eq_true_eq] at this
  exact ⟨this.2, this.1⟩
theorem IsPrg.slices {w : World} {pv : Value} {p : ProgV} (h : IsPrg w pv p) : ∃ vo vn vc ro rn rc, pv = .agg #[.slice vo vn vc, .slice ro rn rc] := by
  obtain ⟨vv, rv, rfl, hv, hr⟩ := h
  obtain ⟨vo, vc, rfl, -⟩ := hv.shape
  obtain ⟨ro, rc, rfl, -⟩ := hr.shape
  exact ⟨_, _, _, _, _, _, rfl⟩
/-- the cells of a list of values -/
theorem vs_cells {w : World} {b : Nat} {cs : Array Value} {t : TypeId} {fr : Nat × Nat} (h : blk w b = some (.cells cs t fr)) : ∀ i v, cs.toList[i]? = some v → w.cell? ⟨b, 0 + i, none⟩ = some v := fun i v hi => by
  rw [Nat.zero_add, cell_of_cells h, ← Array.getElem?_toList]; exact hi
set_option maxRecDepth 100000 in
set_option maxHeartbeats 8000000 in
theorem kinds_core (w : World) (pv xv yv zv av : Value) (p : ProgV) (x y z a : List RatV) (hp : IsPrg w pv p) (hx : Raws w xv x) (hy : Raws w yv y) (hz : Raws w zv z) (ha : Raws w av a) :
    Calls Tryz.prog 6 #[pv, xv, yv, zv, av] w (BoolPost w true) := by
  have HP := Lib.hid (And.intro hp (And.intro hx (And.intro hy (And.intro hz ha))))
  obtain ⟨vo, vn, vc, ro, rn, rc, rfl⟩ := hp.slices
  obtain ⟨xo, xc, rfl, -⟩ := hx.shape
  obtain ⟨yo, yc, rfl, -⟩ := hy.shape
  obtain ⟨zo, zc, rfl, -⟩ := hz.shape
  obtain ⟨ao, ac, rfl, -⟩ := ha.shape
  clear hp hx hy hz ha
  have hb := blk_alloc_at w (.cells #[.slice vo vn vc, .slice ro rn rc] 25)
  have HB := Lib.hid (And.intro hb ((Ext.refl (fun _ => False) w).alloc (.cells #[.slice vo vn vc, .slice ro rn rc] 25)))
  clear hb
  generalize hxl : x.length = xl at *
  generalize hyl : y.length = yl at *
  generalize hzl : z.length = zl at *
  generalize hal : a.length = al at *
  clear hxl hyl hzl hal
  go_enter Tryz.func6, Tryz.ntmps6
  go_upto_region 1 with fail
  generalize hw1 : w.alloc (.cells #[.slice vo vn vc, .slice ro rn rc] 25) = w1 at *
  clear hw1
  obtain ⟨pb, hpb⟩ : ∃ pb, w.heap.size = pb := ⟨_, rfl⟩
  rw [hpb] at HB ⊢
  clear hpb
  go_wp2_with fail
  refine (awake_any w1).mono ?_
  rintro r2 w2 ⟨rfl, hx2⟩
  have HB2 := Lib.hid (And.intro (blk_keep HB.out.1 hx2) (HB.out.2.trans hx2))
  clear hx2 HB
  have z0 := cellq HB2.out.1 0 rfl
  have z1 := cellq HB2.out.1 1 rfl
  go_wp2_with fail
  have hxa := (Ext.refl (fun _ => False) w2).alloc (.cells #[.slice xo xl xc, .slice yo yl yc, .slice zo zl zc, .slice ao al ac] 32)
  have hX := HB2.out.2.trans hxa
  refine (lsmall_any _ _ p [x, y, z, a] [.slice xo xl xc, .slice yo yl yc, .slice zo zl zc, .slice ao al ac] w2.heap.size 0 4 (HP.out.1.keep hX) rfl (by show 4 ≤ 100; decide) (vs_cells (blk_alloc_at w2 (.cells #[.slice xo xl xc, .slice yo yl yc, .slice zo zl zc, .slice ao al ac] 32))) (fun i v rs h1 h2 => by
    match i, h1, h2 with
    | 0, h1, h2 => cases h1; cases h2; exact HP.out.2.1.keep hX
    | 1, h1, h2 => cases h1; cases h2; exact HP.out.2.2.1.keep hX
    | 2, h1, h2 => cases h1; cases h2; exact HP.out.2.2.2.1.keep hX
    | 3, h1, h2 => cases h1; cases h2; exact HP.out.2.2.2.2.keep hX)).mono ?_
  rintro r3 w3 ⟨rfl, hx3⟩
  have HB3 := Lib.hid (And.intro (blk_keep HB2.out.1 (hxa.trans hx3)) (HB2.out.2.trans (hxa.trans hx3)))
  clear hx3 hX hxa HB2 z0 z1
  cases hsm : smallB p [x, y, z, a] with
  | false =>
    clear hsm
    go_wp2_with fail
    refine (awake_any w3).mono ?_
    rintro r4 w4 ⟨rfl, hx4⟩
    have HX4 := Lib.hid (HB3.out.2.trans hx4)
    clear hx4
    go_wp2
    go_ret
    exact ⟨rfl, HX4.out⟩
  | true =>
    obtain ⟨hs, hf⟩ := smallB_parts hsm
    clear hsm
    have HIn := Lib.hid (fun W (hW : Ext (fun _ => False) w3 W) => Infeasible_any W _ _ p (valL y) 4 12 (HP.out.1.keep (HB3.out.2.trans hW)) ((HP.out.2.2.1.keep (HB3.out.2.trans hW)).rats (hf y (by simp)).1) hs)
    have HOp := Lib.hid (fun W (hW : Ext (fun _ => False) w3 W) => Optimal_any W _ _ _ p (valL x) (valL z) 4 12 (HP.out.1.keep (HB3.out.2.trans hW)) ((HP.out.2.1.keep (HB3.out.2.trans hW)).rats (hf x (by simp)).1) ((HP.out.2.2.2.1.keep (HB3.out.2.trans hW)).rats (hf z (by simp)).1) hs)
    have HUn := Lib.hid (fun W (hW : Ext (fun _ => False) w3 W) => Unbounded_any W _ _ _ p (valL x) (valL a) 4 12 (HP.out.1.keep (HB3.out.2.trans hW)) ((HP.out.2.1.keep (HB3.out.2.trans hW)).rats (hf x (by simp)).1) ((HP.out.2.2.2.2.keep (HB3.out.2.trans hW)).rats (hf a (by simp)).1) hs)
    have HQ := Lib.hid (kinds_law p (valL x) (valL y) (valL z) (valL a))
    clear hs hf
    generalize infB p (valL y) = b1 at *
    generalize optB p (valL x) (valL z) = b2 at *
    generalize unbB p (valL x) (valL a) = b3 at *
    go_upto_region 3 with fail
    have hS : S2 pb pb 0 1 (.slice vo vn vc) (.slice ro rn rc) w3 := ⟨cellq HB3.out.1 0 rfl, cellq HB3.out.1 1 rfl⟩
    have hX0 := (Ext.refl (fun _ => False) w3).drew
    refine wp_region_held_drew (S := (S2 pb pb 0 1 (.slice vo vn vc) (.slice ro rn rc))) (by kernel_rfl) (hS.drew) (fun hHeld => ?_)
    refine held_take 0 (v := ?_) rfl (by kernel_rfl) (by kernel_rfl) (by kernel_rfl) (fun _ _ _ h => h) (by rfl) ?_ (by assumption) ?_
    rotate_left
    · ((intro w hSw; (try dsimp only at hSw); go_simp) <;> with_reducible rfl)
    (try simp only [Act.put, List.setIfInBounds_toArray, List.set_cons_zero, List.set_cons_succ])
    refine held_take 1 (v := ?_) rfl (by kernel_rfl) (by kernel_rfl) (by kernel_rfl) (fun _ _ _ h => h) (by rfl) ?_ (by assumption) ?_
    rotate_left
    · ((intro w hSw; (try dsimp only at hSw); go_simp) <;> with_reducible rfl)
    (try simp only [Act.put, List.setIfInBounds_toArray, List.set_cons_zero, List.set_cons_succ])
    refine held_take 3 (v := ?_) rfl (by kernel_rfl) (by kernel_rfl) (by kernel_rfl) (fun _ _ _ h => h) (by rfl) ?_ (by assumption) ?_
    rotate_left
    · ((intro w hSw; (try dsimp only at hSw); go_simp) <;> with_reducible rfl)
    (try simp only [Act.put, List.setIfInBounds_toArray, List.set_cons_zero, List.set_cons_succ])
    refine held_take 4 (v := ?_) rfl (by kernel_rfl) (by kernel_rfl) (by kernel_rfl) (fun _ _ _ h => h) (by rfl) ?_ (by assumption) ?_
    rotate_left
    · ((intro w hSw; (try dsimp only at hSw); go_simp) <;> with_reducible rfl)
    (try simp only [Act.put, List.setIfInBounds_toArray, List.set_cons_zero, List.set_cons_succ])
    refine held_take 5 (v := ?_) rfl (by kernel_rfl) (by kernel_rfl) (by kernel_rfl) (fun _ _ _ h => h) (by rfl) ?_ (by assumption) ?_
    rotate_left
    · ((intro w hSw; (try dsimp only at hSw); go_simp) <;> with_reducible rfl)
    (try simp only [Act.put, List.setIfInBounds_toArray, List.set_cons_zero, List.set_cons_succ])
    refine held_take 7 (v := ?_) rfl (by kernel_rfl) (by kernel_rfl) (by kernel_rfl) (fun _ _ _ h => h) (by rfl) ?_ (by assumption) ?_
    rotate_left
    · ((intro w hSw; (try dsimp only at hSw); go_simp) <;> with_reducible rfl)
    (try simp only [Act.put, List.setIfInBounds_toArray, List.set_cons_zero, List.set_cons_succ])
    refine held_take 8 (v := ?_) rfl (by kernel_rfl) (by kernel_rfl) (by kernel_rfl) (fun _ _ _ h => h) (by rfl) ?_ (by assumption) ?_
    rotate_left
    · ((intro w hSw; (try dsimp only at hSw); go_simp) <;> with_reducible rfl)
    (try simp only [Act.put, List.setIfInBounds_toArray, List.set_cons_zero, List.set_cons_succ])
    refine held_take 9 (v := ?_) rfl (by kernel_rfl) (by kernel_rfl) (by kernel_rfl) (fun _ _ _ h => h) (by rfl) ?_ (by assumption) ?_
    rotate_left
    · ((intro w hSw; (try dsimp only at hSw); go_simp) <;> with_reducible rfl)
    (try simp only [Act.put, List.setIfInBounds_toArray, List.set_cons_zero, List.set_cons_succ])
    refine held_step 2 rfl (by kernel_rfl) (fun K hK => ?_)
    (go_simp; go_at_call 24; (with_reducible refine (HIn.out _ hX0).mono ?_); rintro q1 u1 ⟨rfl, hx1⟩; have hX1 := hX0.trans hx1; have hK1 := hS.keep hX1)
    refine hK.out _ _ (hK1) (fun hHeld => ?_)
    clear hK K
    (try simp only [Act.put, List.setIfInBounds_toArray, List.set_cons_zero, List.set_cons_succ])
    refine held_step 6 rfl (by kernel_rfl) (fun K hK => ?_)
    (go_simp; go_at_call 33; (with_reducible refine (HOp.out _ hX1).mono ?_); rintro q2 u2 ⟨rfl, hx2⟩; have hX2 := hX1.trans hx2; have hK2 := hS.keep hX2)
    refine hK.out _ _ (hK2) (fun hHeld => ?_)
    clear hK K
    (try simp only [Act.put, List.setIfInBounds_toArray, List.set_cons_zero, List.set_cons_succ])
    refine held_step 10 rfl (by kernel_rfl) (fun K hK => ?_)
    (go_simp; go_at_call 27; (with_reducible refine (HUn.out _ hX2).mono ?_); rintro q3 u3 ⟨rfl, hx3⟩; have hX3 := hX2.trans hx3; have hK3 := hS.keep hX3)
    refine hK.out _ _ (hK3) (fun hHeld => ?_)
    clear hK K
    (try simp only [Act.put, List.setIfInBounds_toArray, List.set_cons_zero, List.set_cons_succ])
    refine held_take 11 (v := ?_) rfl (by kernel_rfl) (by kernel_rfl) (by kernel_rfl) (fun _ _ _ h => h) (by rfl) ?_ (by assumption) ?_
    rotate_left
    · ((intro w hSw; (try dsimp only at hSw); go_simp) <;> with_reducible rfl)
    (try simp only [Act.put, List.setIfInBounds_toArray, List.set_cons_zero, List.set_cons_succ])
    refine held_take 12 (v := ?_) rfl (by kernel_rfl) (by kernel_rfl) (by kernel_rfl) (fun _ _ _ h => h) (by rfl) ?_ (by assumption) ?_
    rotate_left
    · ((intro w hSw; (try dsimp only at hSw); go_simp) <;> with_reducible rfl)
    (try simp only [Act.put, List.setIfInBounds_toArray, List.set_cons_zero, List.set_cons_succ])
    refine held_take 13 (v := ?_) rfl (by kernel_rfl) (by kernel_rfl) (by kernel_rfl) (fun _ _ _ h => h) (by rfl) ?_ (by assumption) ?_
    rotate_left
    · ((intro w hSw; (try dsimp only at hSw); go_simp) <;> with_reducible rfl)
    (try simp only [Act.put, List.setIfInBounds_toArray, List.set_cons_zero, List.set_cons_succ])
    refine wpAnyH_done (by kernel_rfl) ?_ _
    have HX := Lib.hid (HB3.out.2.trans hX3)
    clear hX0 hX1 hX2 hX3 hK1 hK2 hK3 hS hHeld hx1 hx2 hx3 HIn HOp HUn HP HB3
    have hq := HQ.out
    clear HQ
    cases b1 <;> cases b2 <;> cases b3 <;> first | (exact absurd hq (by decide)) | skip
    all_goals
      clear hq
      go_wp2
      go_ret
      exact ⟨rfl, HX.out⟩
end Go.Proofs.YtbgienfcmdgaaaaGreat
/-
  How arguments read: programs, lists of fractions. Conditions: none.
-/
namespace Go.Proofs.YtbgienfcmdgaaaaGreat
open Go.ChangeShapes Go.WideShapes Go.ChangeAt Go.RowKit Go.Deep
set_option linter.unusedVariables false

theorem own : ownKnob Tryz.prog.godebug = none := by kernel_rfl
theorem laidOut : laidOutB Tryz.prog = true := by kernel_rfl
section
variable {H : Type} {enc : TypeId × Value → H} {w : World} {base : Nat} {spare : Nat → Bool} {held : Bool}
theorem struct_field {P : Program} {t : TypeId} {fs : Array Field} {fuel : Nat} {cs : List Value} {x : DataW H × List MemPlace} (ht : P.underlying t = some (.struct fs)) (h : DataW.trod enc P w base spare held fuel t cs = some x)
    (i : Nat) {f : Field} (hi : fs[i]? = some f) {ty off n : Nat} (h1 : f.type = ty) (h2 : f.offset = off) (h3 : P.cellsOf ty = n) : ∃ m y, DataW.trod enc P w base spare held m ty ((cs.drop off).take n) = some y := by
  obtain ⟨xs, m, _, _, hl, hxl, hf⟩ := DataW.trod_struct ht h
  subst h1 h2 h3
  have hlt : i < xs.length := by rw [hxl]; exact (Array.getElem?_eq_some_iff.1 hi).1
  exact ⟨m, _, (hf i f hi).trans (List.getElem?_eq_getElem hlt)⟩
theorem struct_length {P : Program} {t : TypeId} {fs : Array Field} {fuel : Nat} {cs : List Value} {x : DataW H × List MemPlace} (ht : P.underlying t = some (.struct fs)) (h : DataW.trod enc P w base spare held fuel t cs = some x) {n : Nat} (h3 : P.cellsOf t = n) : cs.length = n := by
  obtain ⟨xs, m, _, _, hl, hxl, hf⟩ := DataW.trod_struct ht h
  rw [hl, h3]
theorem list_of {α : Type} {R : List Value → α → Prop} : ∀ {css : List (List Value)}, (∀ c ∈ css, ∃ x, R c x) → ∃ l : List α, l.length = css.length ∧ ∀ (i : Nat) c x, css[i]? = some c → l[i]? = some x → R c x
  | [], _ => ⟨[], rfl, fun i c x h => by simp at h⟩
  | c :: css, h => by
    obtain ⟨x, hx⟩ := h c (by simp)
    obtain ⟨l, h1, h2⟩ := list_of (css := css) (fun c hc => h c (by simp [hc]))
    refine ⟨x :: l, by simp [h1], fun i c' x' hc hx' => ?_⟩
    cases i with
    | zero => simp at hc hx'; subst hc hx'; exact hx
    | succ i => simp at hc hx'; exact h2 i c' x' hc hx'
theorem map_of {α : Type} {f : α → List Value} {Q : α → Prop} {css : List (List Value)} (h : ∀ c ∈ css, ∃ x, c = f x ∧ Q x) : ∃ l : List α, css = l.map f ∧ ∀ x ∈ l, Q x := by
  obtain ⟨l, h1, h2⟩ := list_of (R := fun c x => c = f x ∧ Q x) h
  refine ⟨l, List.ext_getElem? fun i => ?_, fun x hx => ?_⟩
  · rw [List.getElem?_map]
    by_cases hi : i < l.length
    · rw [List.getElem?_eq_getElem hi, List.getElem?_eq_getElem (by omega : i < css.length)]
      simp only [Option.map_some]
      exact congrArg some (h2 i _ _ (List.getElem?_eq_getElem (by omega)) (List.getElem?_eq_getElem hi)).1
    · rw [List.getElem?_eq_none (by omega), List.getElem?_eq_none (by omega)]; rfl
  · obtain ⟨i, hi, rfl⟩ := List.getElem_of_mem hx
    exact (h2 i _ _ (List.getElem?_eq_getElem (by omega)) (List.getElem?_eq_getElem hi)).2
/-- a slice whose elements are of m cells -/
theorem open_sl {t e : TypeId} {m : Nat} {fuel : Nat} {cs : List Value} {x : DataW H × List MemPlace} (ht : Tryz.prog.underlying t = some (.slice e)) (hc : Tryz.prog.cellsOf e = m) (hm : 0 < m) {R : List Value → Prop}
    (he : ∀ fuel cs x, DataW.trod enc Tryz.prog w base spare held fuel e cs = some x → R cs) (h : DataW.trod enc Tryz.prog w base spare held fuel t cs = some x) :
    ∃ v css, cs = [v] ∧ Sl w v m css ∧ ∀ c ∈ css, R c := by
  rcases open_slice ht h with ⟨hcs, _⟩ | ⟨a, l, c, k, n', D, Pl, hcs, _, hlc, hcm, hk, _, hel⟩
  · exact ⟨_, [], hcs, Sl.nil w m, by simp⟩
  · have hlk : l ≤ k := by rw [hk]; split <;> omega
    have hel' : ∀ i, i < l → ∃ c' : List Value, c'.length = m ∧ R c' ∧ ∀ j u, c'[j]? = some u → w.cell? ((a.add (i * m)).add j) = some u := fun i hi => by
      obtain ⟨cs', h1, h2⟩ := hel i (by omega)
      rw [hc] at h1
      obtain ⟨_, hlen, hat⟩ := World.cells?_some h1
      exact ⟨cs', hlen, he _ _ _ h2, fun j u hu => (hat j (by have := (List.getElem?_eq_some_iff.1 hu).1; omega)).trans hu⟩
    obtain ⟨css, h1, h2⟩ : ∃ css : List (List Value), css.length = l ∧ ∀ i (h : i < css.length), css[i].length = m ∧ R css[i] ∧ ∀ j u, css[i][j]? = some u → w.cell? ((a.add (i * m)).add j) = some u := by
      refine ⟨List.ofFn fun i : Fin l => Classical.choose (hel' i i.2), by simp, fun i hi => ?_⟩
      simp at hi
      have := Classical.choose_spec (hel' i hi)
      simpa using this
    subst h1
    refine ⟨_, css, hcs, ⟨some a, c, rfl, hlc, hcm, (fun e => by cases e), fun hp => ?_⟩, fun c' hc' => ?_⟩
    · obtain ⟨b, off, spot⟩ := a
      obtain ⟨e1, _, e3⟩ := h2 0 hp
      have e4 := e3 0 _ (List.getElem?_eq_getElem (by omega))
      have hspot : spot = none := by simpa [Addr.add] using World.cell?_spot e4
      subst hspot
      refine ⟨b, off, rfl, by have := World.block_lt_of_cell? w _ e4; simpa [Addr.add_lit] using this, fun i r hi j u hu => ?_⟩
      obtain ⟨hi', rfl⟩ := List.getElem?_eq_some_iff.1 hi
      have := (h2 i hi').2.2 j u hu
      simpa [Addr.add_lit, Nat.add_assoc] using this
    · obtain ⟨i, hi, rfl⟩ := List.getElem_of_mem hc'
      exact (h2 i hi).2.1
theorem cellsInt : Tryz.prog.cellsOf 3 = 1 := by kernel_rfl
theorem cellsI64 : Tryz.prog.cellsOf 2 = 1 := by kernel_rfl
theorem cellsU32 : Tryz.prog.cellsOf 127 = 1 := by kernel_rfl
theorem cellsBool : Tryz.prog.cellsOf 4 = 1 := by kernel_rfl
theorem cellsStr : Tryz.prog.cellsOf 9 = 1 := by kernel_rfl
theorem cellsNat : Tryz.prog.cellsOf 27 = 1 := by kernel_rfl
theorem cellsInt2 : Tryz.prog.cellsOf 29 = 2 := by kernel_rfl
theorem cellsRat : Tryz.prog.cellsOf 31 = 3 := by kernel_rfl
theorem cellsTerm : Tryz.prog.cellsOf 76 = 2 := by kernel_rfl
theorem cellsTerms : Tryz.prog.cellsOf 56 = 1 := by kernel_rfl
theorem cellsVar : Tryz.prog.cellsOf 63 = 5 := by kernel_rfl
theorem cellsVars : Tryz.prog.cellsOf 22 = 1 := by kernel_rfl
theorem cellsRow : Tryz.prog.cellsOf 58 = 5 := by kernel_rfl
theorem cellsRows : Tryz.prog.cellsOf 23 = 1 := by kernel_rfl
theorem cellsProgram : Tryz.prog.cellsOf 25 = 2 := by kernel_rfl
theorem cellsRats : Tryz.prog.cellsOf 32 = 1 := by kernel_rfl
theorem open_digit {fuel : Nat} {cs : List Value} {x : DataW H × List MemPlace} (h : DataW.trod enc Tryz.prog w base spare held fuel 127 cs = some x) : ∃ d : Nat, cs = [dv d] ∧ d < 4294967296 := by
  obtain ⟨a0, h0, _, b0⟩ := DataW.trod_int Tryz.underlying127 h
  simp [Lit.wf, IntKind.min, IntKind.max, IntKind.signed, IntKind.bits] at b0
  refine ⟨a0.toNat, ?_, by omega⟩
  rw [h0]
  show [Value.int .u32 a0] = [Value.int .u32 (a0.toNat : Int)]
  rw [Int.toNat_of_nonneg (by omega)]
/-- a number's digits -/
theorem open_nat {fuel : Nat} {cs : List Value} {x : DataW H × List MemPlace} (h : DataW.trod enc Tryz.prog w base spare held fuel 27 cs = some x) : ∃ v l, cs = [v] ∧ Rds w v l := by
  obtain ⟨v, css, rfl, hs, hc⟩ := open_sl Tryz.underlying27 cellsU32 (by decide) (fun _ _ _ h => open_digit h) h
  obtain ⟨l, rfl, hl⟩ := map_of (f := fun d => [dv d]) (Q := fun d => d < 4294967296) hc
  obtain ⟨ao, c, rfl, h1, h2, h3, h4⟩ := hs
  rw [List.length_map] at h1 h4 ⊢
  refine ⟨_, l, rfl, hl, ao, c, rfl, h1, h2, h3, fun hp => ?_⟩
  obtain ⟨b, off, e, hb, hcell⟩ := h4 hp
  refine ⟨b, off, e, hb, fun i d hi => ?_⟩
  have := hcell i [dv d] (by rw [List.getElem?_map, hi]; rfl) 0 (dv d) rfl
  simpa using this
theorem open_rat {fuel : Nat} {cs : List Value} {x : DataW H × List MemPlace} (h : DataW.trod enc Tryz.prog w base spare held fuel 31 cs = some x) : ∃ r : RatV, IsRaw w (.agg cs.toArray) r := by
  have hl := struct_length Tryz.underlying31 h cellsRat
  obtain ⟨_, _, f0⟩ := struct_field Tryz.underlying31 h 0 rfl rfl rfl cellsInt2
  obtain ⟨_, _, f1⟩ := struct_field Tryz.underlying31 h 1 rfl rfl rfl cellsNat
  obtain ⟨_, _, g0⟩ := struct_field Tryz.underlying29 f0 0 rfl rfl rfl cellsBool
  obtain ⟨_, _, g1⟩ := struct_field Tryz.underlying29 f0 1 rfl rfl rfl cellsNat
  clear h f0
  obtain ⟨ng, hn, _⟩ := DataW.trod_bool Tryz.underlying4 g0
  obtain ⟨v1, l1, e1, k1⟩ := open_nat g1
  obtain ⟨v2, l2, e2, k2⟩ := open_nat f1
  clear g0 g1 f1
  match cs, hl with
  | [c0, c1, c2], _ =>
    simp at hn e1 e2
    subst hn e1 e2
    exact ⟨⟨ng, l1, l2⟩, _, _, rfl, k1, k2⟩
/-- a list of fractions -/
theorem open_rats {fuel : Nat} {cs : List Value} {x : DataW H × List MemPlace} (h : DataW.trod enc Tryz.prog w base spare held fuel 32 cs = some x) : ∃ v rs, cs = [v] ∧ Raws w v rs := by
  obtain ⟨v, css, rfl, hs, hc⟩ := open_sl Tryz.underlying32 cellsRat (by decide) (fun _ _ _ h => open_rat h) h
  obtain ⟨l, h1, h2⟩ := list_of (R := fun c r => IsRaw w (.agg c.toArray) r) hc
  exact ⟨v, l, rfl, css, h1.symm, hs, h2⟩
theorem inR_of {k : IntKind} {a : Int} (hk : k = .i64) (h : (Lit.int k a).wf = true) : InR a := by
  subst hk
  simp [Lit.wf, IntKind.min, IntKind.max, IntKind.signed, IntKind.bits] at h
  unfold InR
  omega
theorem open_var {fuel : Nat} {cs : List Value} {x : DataW H × List MemPlace} (h : DataW.trod enc Tryz.prog w base spare held fuel 63 cs = some x) : ∃ v : VarV, cs = cV v ∧ VarOk v := by
  have hl := struct_length Tryz.underlying63 h cellsVar
  obtain ⟨_, _, f0⟩ := struct_field Tryz.underlying63 h 0 rfl rfl rfl cellsI64
  obtain ⟨_, _, f1⟩ := struct_field Tryz.underlying63 h 1 rfl rfl rfl cellsI64
  obtain ⟨_, _, f2⟩ := struct_field Tryz.underlying63 h 2 rfl rfl rfl cellsBool
  obtain ⟨_, _, f3⟩ := struct_field Tryz.underlying63 h 3 rfl rfl rfl cellsBool
  obtain ⟨_, _, f4⟩ := struct_field Tryz.underlying63 h 4 rfl rfl rfl cellsI64
  clear h
  obtain ⟨a0, h0, _, b0⟩ := DataW.trod_int Tryz.underlying2 f0
  obtain ⟨a1, h1, _, b1⟩ := DataW.trod_int Tryz.underlying2 f1
  obtain ⟨a2, h2, _⟩ := DataW.trod_bool Tryz.underlying4 f2
  obtain ⟨a3, h3, _⟩ := DataW.trod_bool Tryz.underlying4 f3
  obtain ⟨a4, h4, _, b4⟩ := DataW.trod_int Tryz.underlying2 f4
  clear f0 f1 f2 f3 f4
  match cs, hl with
  | [c0, c1, c2, c3, c4], _ =>
    simp at h0 h1 h2 h3 h4
    exact ⟨⟨a0, a1, a2, a3, a4⟩, by rw [h0, h1, h2, h3, h4]; rfl, inR_of rfl b0, inR_of rfl b1, inR_of rfl b4⟩
theorem open_term {fuel : Nat} {cs : List Value} {x : DataW H × List MemPlace} (h : DataW.trod enc Tryz.prog w base spare held fuel 76 cs = some x) : ∃ t : TermV, cs = cT t ∧ TermOk t := by
  have hl := struct_length Tryz.underlying76 h cellsTerm
  obtain ⟨_, _, f0⟩ := struct_field Tryz.underlying76 h 0 rfl rfl rfl cellsInt
  obtain ⟨_, _, f1⟩ := struct_field Tryz.underlying76 h 1 rfl rfl rfl cellsI64
  clear h
  obtain ⟨a0, h0, _, b0⟩ := DataW.trod_int Tryz.underlying3 f0
  obtain ⟨a1, h1, _, b1⟩ := DataW.trod_int Tryz.underlying2 f1
  clear f0 f1
  match cs, hl with
  | [c0, c1], _ =>
    simp at h0 h1
    exact ⟨⟨a0, a1⟩, by rw [h0, h1]; rfl, inR_of rfl b0, inR_of rfl b1⟩
theorem open_terms {fuel : Nat} {cs : List Value} {x : DataW H × List MemPlace} (h : DataW.trod enc Tryz.prog w base spare held fuel 56 cs = some x) : ∃ v l, cs = [v] ∧ Tms w v l := by
  obtain ⟨v, css, rfl, hs, hc⟩ := open_sl Tryz.underlying56 cellsTerm (by decide) (fun _ _ _ h => open_term h) h
  obtain ⟨l, rfl, hl⟩ := map_of hc
  exact ⟨v, l, rfl, hs, hl⟩
theorem open_row {fuel : Nat} {cs : List Value} {x : DataW H × List MemPlace} (h : DataW.trod enc Tryz.prog w base spare held fuel 58 cs = some x) : ∃ y : RowV × Value, cs = cR y.1 y.2 ∧ Tms w y.2 y.1.terms ∧ RowOk y.1 := by
  have hl := struct_length Tryz.underlying58 h cellsRow
  obtain ⟨_, _, f0⟩ := struct_field Tryz.underlying58 h 0 rfl rfl rfl cellsStr
  obtain ⟨_, _, f1⟩ := struct_field Tryz.underlying58 h 1 rfl rfl rfl cellsInt
  obtain ⟨_, _, f2⟩ := struct_field Tryz.underlying58 h 2 rfl rfl rfl cellsInt
  obtain ⟨_, _, f3⟩ := struct_field Tryz.underlying58 h 3 rfl rfl rfl cellsTerms
  obtain ⟨_, _, f4⟩ := struct_field Tryz.underlying58 h 4 rfl rfl rfl cellsI64
  clear h
  obtain ⟨a0, h0, _, b0⟩ := DataW.trod_string Tryz.underlying9 f0
  obtain ⟨a1, h1, _, b1⟩ := DataW.trod_int Tryz.underlying3 f1
  obtain ⟨a2, h2, _, b2⟩ := DataW.trod_int Tryz.underlying3 f2
  obtain ⟨v3, l3, h3, b3⟩ := open_terms f3
  obtain ⟨a4, h4, _, b4⟩ := DataW.trod_int Tryz.underlying2 f4
  clear f0 f1 f2 f3 f4
  match cs, hl with
  | [c0, c1, c2, c3, c4], _ =>
    simp at h0 h1 h2 h3 h4
    exact ⟨⟨⟨a0, a1, a2, l3, a4⟩, v3⟩, by rw [h0, h1, h2, h3, h4]; rfl, b3, b0, inR_of rfl b1, inR_of rfl b2, inR_of rfl b4⟩
theorem open_prog {fuel : Nat} {cs : List Value} {x : DataW H × List MemPlace} (h : DataW.trod enc Tryz.prog w base spare held fuel 25 cs = some x) : ∃ p : ProgV, IsPrg w (.agg cs.toArray) p := by
  have hl := struct_length Tryz.underlying25 h cellsProgram
  obtain ⟨_, _, f0⟩ := struct_field Tryz.underlying25 h 0 rfl rfl rfl cellsVars
  obtain ⟨_, _, f1⟩ := struct_field Tryz.underlying25 h 1 rfl rfl rfl cellsRows
  clear h
  obtain ⟨v0, c0, e0, s0, k0⟩ := open_sl Tryz.underlying22 cellsVar (by decide) (fun _ _ _ h => open_var h) f0
  obtain ⟨v1, c1, e1, s1, k1⟩ := open_sl Tryz.underlying23 cellsRow (by decide) (fun _ _ _ h => open_row h) f1
  clear f0 f1
  obtain ⟨l0, rfl, g0⟩ := map_of k0
  obtain ⟨l1, n1, g1⟩ := list_of (R := fun c (y : RowV × Value) => c = cR y.1 y.2 ∧ Tms w y.2 y.1.terms ∧ RowOk y.1) k1
  have hz : c1 = List.zipWith cR (l1.map (·.1)) (l1.map (·.2)) := by
    apply List.ext_getElem?
    intro i
    rw [List.getElem?_zipWith, List.getElem?_map, List.getElem?_map]
    by_cases hi : i < l1.length
    · rw [List.getElem?_eq_getElem hi, List.getElem?_eq_getElem (by omega : i < c1.length)]
      simp only [Option.map_some]
      exact congrArg some (g1 i _ _ (List.getElem?_eq_getElem (by omega)) (List.getElem?_eq_getElem hi)).1
    · rw [List.getElem?_eq_none (by omega), List.getElem?_eq_none (by omega)]; rfl
  rw [hz] at s1
  match cs, hl with
  | [d0, d1], _ =>
    simp at e0 e1
    subst e0 e1
    refine ⟨⟨l0, l1.map (·.1)⟩, _, _, rfl, ⟨s0, g0⟩, l1.map (·.2), by simp, s1, fun i r tv hr ht => ?_⟩
    rw [List.getElem?_map] at hr ht
    obtain ⟨y, hy, rfl⟩ := Option.map_eq_some_iff.1 hr
    rw [hy] at ht
    cases ht
    have hi := (List.getElem?_eq_some_iff.1 hy).1
    exact (g1 i _ _ (List.getElem?_eq_getElem (by omega)) hy).2
end
open Go.Joins in
set_option maxRecDepth 100000 in
theorem open_prog_value {H : Type} {enc : TypeId × Value → H} {w : World} {base : Nat} {spare : Nat → Bool} {held : Bool} {r : Reach} {b0 : Nat} {v : Value} {d : DataW H} {p : List MemPlace} (hv : Value.okWide Tryz.prog w r b0 25 v) (h : DataW.Trod enc Tryz.prog w base spare held 25 v d p) :
    ∃ y : ProgV, IsPrg w v y := by
  obtain ⟨cs, rfl, hsz⟩ := okWide_struct Tryz.underlying25 hv
  obtain ⟨fuel, hf⟩ := h
  obtain ⟨y, hy⟩ := open_prog hf
  refine ⟨y, ?_⟩
  simpa [Value.cells] using hy
set_option maxRecDepth 100000 in
theorem open_rats_value {H : Type} {enc : TypeId × Value → H} {w : World} {base : Nat} {spare : Nat → Bool} {held : Bool} {r : Reach} {b0 : Nat} {v : Value} {d : DataW H} {p : List MemPlace} (hv : Value.okWide Tryz.prog w r b0 32 v) (h : DataW.Trod enc Tryz.prog w base spare held 32 v d p) :
    ∃ rs : List RatV, Raws w v rs := by
  obtain ⟨a0, len0, cap0, rfl⟩ := okWide_slice Tryz.underlying32 hv
  obtain ⟨fuel, hf⟩ := h
  obtain ⟨v, rs, e, hr⟩ := open_rats hf
  simp [Value.cells] at e
  subst e
  exact ⟨rs, hr⟩
end Go.Proofs.YtbgienfcmdgaaaaGreat
/-
  DualityChecks: how an outcome reads, the walk. Conditions: the arguments read as a program and an outcome.
-/
namespace Go.Proofs.YtbgienfcmdgaaaaGreat
open Go.RowKit Go.MapKept Go.Deep
open Go.ChangeMaps (setBlock)

structure RawOut where
  kind : Int
  val : RatV
  pt : List RatV
  mu : List RatV
  ray : List RatV
def RawOut.o (o : RawOut) : OutV := ⟨o.kind, o.val.q, valL o.pt, valL o.mu, valL o.ray⟩
def IsROut (w : World) (v : Value) (o : RawOut) : Prop := ∃ neg a1 m1 c1 a2 m2 c2 pv mv rv, v = .agg #[.int .i64 o.kind, .bool neg, .slice a1 m1 c1, .slice a2 m2 c2, pv, mv, rv] ∧ IsRaw w (.agg #[.bool neg, .slice a1 m1 c1, .slice a2 m2 c2]) o.val ∧ Raws w pv o.pt ∧ Raws w mv o.mu ∧ Raws w rv o.ray ∧ InR o.kind
theorem IsROut.keep {w w' : World} {v : Value} {o : RawOut} (h : IsROut w v o) (hx : Ext (fun _ => False) w w') : IsROut w' v o := by
  obtain ⟨neg, a1, m1, c1, a2, m2, c2, pv, mv, rv, e, h1, h2, h3, h4, h5⟩ := h
  exact ⟨neg, a1, m1, c1, a2, m2, c2, pv, mv, rv, e, h1.keep hx, h2.keep hx, h3.keep hx, h4.keep hx, h5⟩
theorem IsROut.out {w : World} {v : Value} {o : RawOut} {L : Nat} (h : IsROut w v o) (h0 : o.val.mag.length ≤ L ∧ o.val.den.length ≤ L) (h1 : fewL L o.pt = true) (h2 : fewL L o.mu = true) (h3 : fewL L o.ray = true) : IsOut w v o.o L := by
  obtain ⟨neg, a1, m1, c1, a2, m2, c2, pv, mv, rv, e, k1, k2, k3, k4, k5⟩ := h
  exact ⟨neg, a1, m1, c1, a2, m2, c2, pv, mv, rv, e, k1.reads h0.1 h0.2, k2.rats h1, k3.rats h2, k4.rats h3, k5⟩
section
open Go.ChangeShapes Go.WideShapes Go.ChangeAt
variable {H : Type} {enc : TypeId × Value → H} {w : World} {base : Nat} {spare : Nat → Bool} {held : Bool}
theorem cellsOutcome : Tryz.prog.cellsOf 34 = 7 := by kernel_rfl
theorem open_out {fuel : Nat} {cs : List Value} {x : DataW H × List MemPlace} (h : DataW.trod enc Tryz.prog w base spare held fuel 34 cs = some x) : ∃ o : RawOut, IsROut w (.agg cs.toArray) o := by
  have hl := struct_length Tryz.underlying34 h cellsOutcome
  obtain ⟨_, _, f0⟩ := struct_field Tryz.underlying34 h 0 rfl rfl rfl cellsInt
  obtain ⟨_, _, f1⟩ := struct_field Tryz.underlying34 h 1 rfl rfl rfl cellsRat
  obtain ⟨_, _, f2⟩ := struct_field Tryz.underlying34 h 2 rfl rfl rfl cellsRats
  obtain ⟨_, _, f3⟩ := struct_field Tryz.underlying34 h 3 rfl rfl rfl cellsRats
  obtain ⟨_, _, f4⟩ := struct_field Tryz.underlying34 h 4 rfl rfl rfl cellsRats
  clear h
  obtain ⟨a0, h0, _, b0⟩ := DataW.trod_int Tryz.underlying3 f0
  obtain ⟨r1, k1⟩ := open_rat f1
  obtain ⟨v2, l2, e2, k2⟩ := open_rats f2
  obtain ⟨v3, l3, e3, k3⟩ := open_rats f3
  obtain ⟨v4, l4, e4, k4⟩ := open_rats f4
  clear f0 f1 f2 f3 f4
  match cs, hl with
  | [c0, c1, c2, c3, c4, c5, c6], _ =>
    simp at h0 k1 e2 e3 e4
    subst h0 e2 e3 e4
    obtain ⟨mv, dv', e, k5, k6⟩ := k1
    simp at e
    obtain ⟨e1, e2, e3⟩ := e
    subst e1 e2 e3
    have k5' := k5
    have k6' := k6
    obtain ⟨_, a1, d1, rfl, -⟩ := k5'
    obtain ⟨_, a2, d2, rfl, -⟩ := k6'
    exact ⟨⟨a0, r1, l2, l3, l4⟩, _, _, _, _, _, _, _, _, _, _, rfl, ⟨_, _, rfl, k5, k6⟩, k2, k3, k4, inR_of rfl b0⟩
end
open Go.Joins Go.ChangeShapes Go.WideShapes Go.ChangeAt in
set_option maxRecDepth 100000 in
theorem open_out_value {H : Type} {enc : TypeId × Value → H} {w : World} {base : Nat} {spare : Nat → Bool} {held : Bool} {r : Reach} {b0 : Nat} {v : Value} {d : DataW H} {p : List MemPlace} (hv : Value.okWide Tryz.prog w r b0 34 v) (h : DataW.Trod enc Tryz.prog w base spare held 34 v d p) :
    ∃ y : RawOut, IsROut w v y := by
  obtain ⟨cs, rfl, hsz⟩ := okWide_struct Tryz.underlying34 hv
  obtain ⟨fuel, hf⟩ := h
  obtain ⟨y, hy⟩ := open_out hf
  refine ⟨y, ?_⟩
  simpa [Value.cells] using hy
theorem raws_one {w : World} {g : Nat} {x : RatC} {r : RatV} (hb : blk w g = some (.cells x.cells.toArray 31 (0, 0))) (h : IsRaw w x.v r) : Raws w (.slice (some ⟨g, 0, none⟩) 1 1) [r] := by
  refine ⟨[x.cells], rfl, ⟨some ⟨g, 0, none⟩, 1, rfl, Nat.le_refl _, by unfold maxLen; decide, (fun e => by cases e), fun _ => ⟨g, 0, rfl, blk_lt hb, fun i c hi j u hu => ?_⟩⟩, fun i c q hc hq => ?_⟩
  · match i, hi with
    | 0, hi =>
      cases hi
      rw [cell_of_cells hb]
      simpa using hu
  · match i, hc, hq with
    | 0, hc, hq =>
      cases hc; cases hq
      exact h
set_option maxRecDepth 100000 in
set_option maxHeartbeats 8000000 in
theorem checks_core (w : World) (pv ov : Value) (p : ProgV) (o : RawOut) (hp : IsPrg w pv p) (ho : IsROut w ov o) : Calls Tryz.prog 3 #[pv, ov] w (BoolPost w true) := by
  have HP := Lib.hid (And.intro hp ho)
  obtain ⟨vo, vn, vc, ro, rn, rc, rfl⟩ := hp.slices
  obtain ⟨neg, a1, m1, c1, a2, m2, c2, ptv, muv, rav, rfl, hval, hpt, hmu, hra, hkr⟩ := ho
  obtain ⟨po, pc, rfl, -, hpn, -⟩ := hpt.shape
  obtain ⟨mo, mc, rfl, -, hmn, -⟩ := hmu.shape
  obtain ⟨zo, zc, rfl, -, hzn, -⟩ := hra.shape
  have HV := Lib.hid (And.intro hval (And.intro hpt (And.intro hmu hra)))
  clear hp hval hpt hmu hra hkr
  obtain ⟨pn, hpl⟩ : ∃ pn, o.pt.length = pn := ⟨_, rfl⟩
  obtain ⟨mn, hml⟩ : ∃ mn, o.mu.length = mn := ⟨_, rfl⟩
  obtain ⟨zn, hzl⟩ : ∃ zn, o.ray.length = zn := ⟨_, rfl⟩
  rw [hpl] at hpn HP HV ⊢
  rw [hml] at hmn HP HV ⊢
  rw [hzl] at hzn HP HV ⊢
  clear hpl hml hzl
  obtain ⟨kd, hkd⟩ : ∃ kd, o.kind = kd := ⟨_, rfl⟩
  rw [hkd] at HP ⊢
  clear hkd
  go_enter Tryz.func3, Tryz.ntmps3
  have b0 : blk ((w.alloc (.cells #[.slice vo vn vc, .slice ro rn rc] 25)).alloc (.cells #[.int .i64 kd, .bool neg, .slice a1 m1 c1, .slice a2 m2 c2, .slice po pn pc, .slice mo mn mc, .slice zo zn zc] 34)) w.heap.size = some (.cells #[.slice vo vn vc, .slice ro rn rc] 25 (0, 0)) := (blk_alloc_past _ _ _ (by simp)).trans (blk_alloc_at _ _)
  have b1 := blk_alloc_at (w.alloc (.cells #[.slice vo vn vc, .slice ro rn rc] 25)) (.cells #[.int .i64 kd, .bool neg, .slice a1 m1 c1, .slice a2 m2 c2, .slice po pn pc, .slice mo mn mc, .slice zo zn zc] 34)
  rw [World.size_alloc] at b1
  have hx1 := ((Ext.refl (fun _ => False) w).alloc (.cells #[.slice vo vn vc, .slice ro rn rc] 25)).alloc (.cells #[.int .i64 kd, .bool neg, .slice a1 m1 c1, .slice a2 m2 c2, .slice po pn pc, .slice mo mn mc, .slice zo zn zc] 34)
  have HB := Lib.hid (And.intro b0 (And.intro b1 hx1))
  clear b0 b1 hx1
  go_upto_region 1 with fail
  generalize hw1 : (w.alloc (.cells #[.slice vo vn vc, .slice ro rn rc] 25)).alloc (.cells #[.int .i64 kd, .bool neg, .slice a1 m1 c1, .slice a2 m2 c2, .slice po pn pc, .slice mo mn mc, .slice zo zn zc] 34) = w1 at *
  clear hw1
  obtain ⟨ob, hob⟩ : ∃ ob, w.heap.size + 1 = ob := ⟨_, rfl⟩
  rw [hob] at HB ⊢
  clear hob
  obtain ⟨pb, hpb⟩ : ∃ pb, w.heap.size = pb := ⟨_, rfl⟩
  rw [hpb] at HB ⊢
  clear hpb
  go_wp2_with fail
  refine (awake_any w1).mono ?_
  rintro r2 w2 ⟨rfl, hx2⟩
  have HB2 := Lib.hid (And.intro (blk_keep HB.out.1 hx2) (And.intro (blk_keep HB.out.2.1 hx2) (HB.out.2.2.trans hx2)))
  clear hx2 HB
  have z0 := cellq HB2.out.1 0 rfl
  have z1 := cellq HB2.out.1 1 rfl
  have e4 := cellq HB2.out.2.1 4 rfl
  have e5 := cellq HB2.out.2.1 5 rfl
  have e6 := cellq HB2.out.2.1 6 rfl
  go_wp2_with fail
  have hxa := (Ext.refl (fun _ => False) w2).alloc (.cells #[.slice po pn pc, .slice mo mn mc, .slice zo zn zc] 32)
  have hX := HB2.out.2.2.trans hxa
  refine (lsmall_any _ _ p [o.pt, o.mu, o.ray] [.slice po pn pc, .slice mo mn mc, .slice zo zn zc] w2.heap.size 0 3 (HP.out.1.keep hX) rfl (by show 3 ≤ 100; decide) (vs_cells (blk_alloc_at w2 (.cells #[.slice po pn pc, .slice mo mn mc, .slice zo zn zc] 32))) (fun i v rs h1 h2 => by
    match i, h1, h2 with
    | 0, h1, h2 => cases h1; cases h2; exact HV.out.2.1.keep hX
    | 1, h1, h2 => cases h1; cases h2; exact HV.out.2.2.1.keep hX
    | 2, h1, h2 => cases h1; cases h2; exact HV.out.2.2.2.keep hX)).mono ?_
  rintro r3 w3 ⟨rfl, hx3⟩
  have hx13 := hxa.trans hx3
  have HB3 := Lib.hid (And.intro (blk_keep HB2.out.1 hx13) (And.intro (blk_keep HB2.out.2.1 hx13) (HB2.out.2.2.trans hx13)))
  clear hx3 hX hxa hx13 HB2 z0 z1 e4 e5 e6
  cases hsm : smallB p [o.pt, o.mu, o.ray] with
  | false =>
    clear hsm
    go_wp2_with fail
    refine (awake_any w3).mono ?_
    rintro r9 w9 ⟨rfl, hx9⟩
    have HX9 := Lib.hid ((HB3.out.2.2).trans hx9)
    clear hx9
    go_wp2
    go_ret
    exact ⟨rfl, HX9.out⟩
  | true =>
  obtain ⟨hs, hf⟩ := smallB_parts hsm
  clear hsm
  have e1 := cellq HB3.out.2.1 1 rfl
  have e2 := cellq HB3.out.2.1 2 rfl
  have e3 := cellq HB3.out.2.1 3 rfl
  have hxb := (Ext.refl (fun _ => False) w3).alloc (.cells #[.bool neg, .slice a1 m1 c1, .slice a2 m2 c2] 31)
  have HF := Lib.hid (Few_any _ _ [o.val] 4 (by decide) (raws_one (x := ⟨neg, a1, m1, c1, a2, m2, c2⟩) (blk_alloc_at w3 (.cells #[.bool neg, .slice a1 m1 c1, .slice a2 m2 c2] 31)) (HV.out.1.keep (HB3.out.2.2.trans hxb))))
  have HXb := Lib.hid hxb
  clear hxb
  go_wp2_with fail
  refine HF.out.mono ?_
  rintro r5 w5 ⟨rfl, hx5⟩
  have HB5 := Lib.hid (And.intro (blk_keep HB3.out.1 (HXb.out.trans hx5)) (And.intro (blk_keep HB3.out.2.1 (HXb.out.trans hx5)) (HB3.out.2.2.trans (HXb.out.trans hx5))))
  clear hx5 HXb HF HB3 e1 e2 e3
  cases hfv : fewL 4 [o.val] with
  | false =>
    clear hfv
    go_wp2_with fail
    refine (awake_any w5).mono ?_
    rintro r9 w9 ⟨rfl, hx9⟩
    have HX9 := Lib.hid ((HB5.out.2.2).trans hx9)
    clear hx9
    go_wp2
    go_ret
    exact ⟨rfl, HX9.out⟩
  | true =>
  have hv4 : o.val.mag.length ≤ 4 ∧ o.val.den.length ≤ 4 := by
    unfold fewL fewR at hfv
    simp only [List.all_cons, List.all_nil, Bool.and_true, Bool.and_eq_true, decide_eq_true_eq] at hfv
    exact hfv
  clear hfv
  have HC1 := Lib.hid (fun W (hW : Ext (fun _ => False) w5 W) => Check_any W _ _ p o.o 4 12 (HP.out.1.keep (HB5.out.2.2.trans hW)) ((HP.out.2.keep (HB5.out.2.2.trans hW)).out hv4 (hf o.pt (by simp)).1 (hf o.mu (by simp)).1 (hf o.ray (by simp)).1) hs)
  have hlen : ∀ rs : List RatV, rs ∈ [o.pt, o.mu, o.ray] → (valL rs).length ≤ 1000000 := fun rs h => by
    have := (hf rs h).2
    unfold valL
    rw [List.length_map]
    omega
  have HC2 := Lib.hid (fun W (hW : Ext (fun _ => False) w5 W) => Check6_any W _ _ p o.o 4 12 (HP.out.1.keep (HB5.out.2.2.trans hW)) ((HP.out.2.keep (HB5.out.2.2.trans hW)).out hv4 (hf o.pt (by simp)).1 (hf o.mu (by simp)).1 (hf o.ray (by simp)).1) hs (hlen o.pt (by simp)) (hlen o.mu (by simp)) (hlen o.ray (by simp)))
  clear hs hf hv4 hlen
  generalize checkE p o.o = ce at *
  go_upto_region 3 with fail
  have z0 := cq (cellq HB5.out.1 0 rfl)
  have z1 := cq (cellq HB5.out.1 1 rfl)
  have g0 := cq (cellq HB5.out.2.1 0 rfl)
  have g1 := cq (cellq HB5.out.2.1 1 rfl)
  have g2 := cq (cellq HB5.out.2.1 2 rfl)
  have g3 := cq (cellq HB5.out.2.1 3 rfl)
  have g4 := cq (cellq HB5.out.2.1 4 rfl)
  have g5 := cq (cellq HB5.out.2.1 5 rfl)
  have g6 := cq (cellq HB5.out.2.1 6 rfl)
  refine wp_region_held_drew (S := (Ext (fun _ => False) w5)) (by kernel_rfl) ((Ext.refl _ w5).drew) (fun hHeld => ?_)
  refine ht 0 (h := (ht 1 (h := (ht 3 (h := (ht 4 (h := ?_)))))))
  (try simp only [Act.put, List.setIfInBounds_toArray, List.set_cons_zero, List.set_cons_succ])
  refine hst 2 (h := fun K hK => ?_)
  (go_simp; go_at_call 19; (with_reducible refine (HC1.out _ hHeld).mono ?_); rintro q1 w11 ⟨rfl, hx11⟩; have hX1 := hHeld.trans hx11)
  refine hK.out _ _ (hX1) (fun hHeld => ?_)
  clear hK K
  (try simp only [Act.put, List.setIfInBounds_toArray, List.set_cons_zero, List.set_cons_succ])
  refine hst 5 (h := fun K hK => ?_)
  (go_simp; go_at_call 20; (with_reducible refine (HC2.out _ hX1).mono ?_); rintro q2 w12 ⟨rfl, hx12⟩; have hX2 := hX1.trans hx12)
  refine hK.out _ _ (hX2) (fun hHeld => ?_)
  clear hK K
  (try simp only [Act.put, List.setIfInBounds_toArray, List.set_cons_zero, List.set_cons_succ])
  refine ht 6 (h := (ht 7 (h := ?_)))
  (try simp only [Act.put, List.setIfInBounds_toArray, List.set_cons_zero, List.set_cons_succ])
  refine wpAnyH_done (by kernel_rfl) ?_ _
  have HX := Lib.hid (HB5.out.2.2.trans hX2)
  clear hX1 hX2 hx11 hx12 hHeld
  go_wp2
  go_ret
  exact ⟨ret_bool (by simp), HX.out⟩
end Go.Proofs.YtbgienfcmdgaaaaGreat
