/-
  The closure of DualityRays: the point on a ray. Conditions: what it has caught reads as a program and as lists of fractions.
-/
import Derived.Test.YtelnchlaaokgiaaGreatZ14
import Derived.Test.YtelnchlaaokgiaaGreatZ9
import Derived.Test.YtelnchlaaokgiaaGreatZ13
set_option linter.unusedVariables false
namespace Go.Proofs.YtelnchlaaokgiaaGreat
open Go.RowKit Go.MapKept
open Go.ChangeMaps (setBlock)

set_option maxRecDepth 100000 in
set_option maxHeartbeats 8000000 in
theorem rays1_any (w : World) (pb xb zb : Nat) (vv rv xv zv : Value) (p : ProgV) (x z : List Rat) (k : Int) (hk : InR k) (hp : IsPrg w (.agg #[vv, rv]) p) (hn0 : p.vars.length ≤ 1000000) (hpb : blk w pb = some (.cells #[vv, rv] 25 (0, 0))) (hxb : blk w xb = some (.cells #[xv] 32 (0, 0))) (hzb : blk w zb = some (.cells #[zv] 32 (0, 0))) (hx : Rats w xv x 4) (hz : Rats w zv z 4) :
    Calls Tryz.prog 21 #[.int .i64 k, .pointer (some ⟨pb, 0, none⟩), .pointer (some ⟨xb, 0, none⟩), .pointer (some ⟨zb, 0, none⟩)] w (RatsPost w (goQ p x z k) 12) := by
  obtain ⟨vv', rv', e, hv, hr⟩ := hp
  cases e
  obtain ⟨vo, vc, rfl, -, hvn, -⟩ := hv.shape
  obtain ⟨ro, rc, rfl, -, -, -⟩ := hr.shape
  have hxz := hx.sz (by decide : 1 ≤ 4)
  have hzz := hz.sz (by decide : 1 ≤ 4)
  have HAx0 := Lib.hid (fun W (hW : Ext (fun _ => False) w W) (i : Int) => At_any W _ x 4 (hx.keep hW) i)
  have HAz0 := Lib.hid (fun W (hW : Ext (fun _ => False) w W) (i : Int) => At_any W _ z 4 (hz.keep hW) i)
  have HF := Lib.hid (fun W => Rrfrom_any W k hk.1 hk.2)
  have HM0 := Lib.hid (fun W u u' (i : Int) (hu : IsRat W u (k : Rat)) (hu' : Rrat W u' (atQ z i) 4) => Rrmul_any W u u' _ _ 4 (hu.reads ((Sz.int hk).mono (by decide))) hu' (by decide) (by decide))
  have HAd0 := Lib.hid (fun W u u' (i : Int) (hu : Rrat W u (atQ x i) 4) (hu' : IsRat W u' ((k : Rat) * atQ z i)) => Rradd_any W u u' _ _ 6 (hu.mono (by decide)) (hu'.reads (((Sz.int hk).mul (hzz i)).mono (by decide))) (by decide) (by decide))
  have HR0 := Lib.hid (fun W u (i : Nat) (hu : IsRat W u (atQ x i + (k : Rat) * atQ z i)) => (hu.reads (L := 12) (((hxz i).add ((Sz.int hk).mul (hzz i))).mono (by decide)) : Rrat W u _ 12))
  obtain ⟨xo, xc, rfl, -, -, -⟩ := hx.shape
  obtain ⟨zo, zc, rfl, -, -, -⟩ := hz.shape
  have hS0 : S2 xb zb 0 0 (.slice xo x.length xc) (.slice zo z.length zc) w := ⟨cellq hxb 0 rfl, cellq hzb 0 rfl⟩
  have hxl := blk_lt hxb
  have hzl := blk_lt hzb
  have z0 := cellq hpb 0 rfl
  unfold goQ
  have HRf := Lib.hid (show ∀ i : Nat, atQ x i + (k : Rat) * atQ z i = (fun i : Nat => atQ x i + (k : Rat) * atQ z i) i from fun _ => rfl)
  clear hx hz hv hr hxb hzb hpb hxz hzz
  generalize (fun i : Nat => atQ x i + (k : Rat) * atQ z i) = f at *
  generalize x.length = xl at *
  generalize z.length = zl at *
  obtain ⟨n, hn'⟩ : ∃ n, p.vars.length = n := ⟨_, rfl⟩
  rw [hn'] at hn0 hvn z0 ⊢
  clear hn'
  have HS0 := Lib.hid (And.intro hS0 z0)
  clear hS0
  go_enter Tryz.func21, Tryz.ntmps21
  go_upto_region 2 with fail
  go_wp2_with fail
  go_loopg [11, 6] n (fun gg v11 v6 wr => ∃ (i : Nat) (v : Value), i ≤ n ∧ gg = n - i ∧ v11 = .int .i64 i ∧ v6 = v ∧ ROwn wr w.heap.size v (listTo i f) 12 ∧ S2 xb zb 0 0 (.slice xo xl xc) (.slice zo zl zc) wr ∧ Ext (fun _ => False) w wr)
  case atStart => exact ⟨0, _, Nat.zero_le _, rfl, rfl, rfl, ROwn.nil _ _ _, HS0.out.1, Ext.refl _ _⟩
  case round =>
    clear z0
    obtain ⟨i, v, hi, rfl, rfl, rfl, ho, hS, hx⟩ := hrel
    obtain ⟨ao, cap, rfl⟩ := ho.shape
    have hll : (listTo i f).length = i := listTo_length _ _
    rw [hll] at ho ⊢
    by_cases hin : i < n
    · have i0 : (i : Int) < (n : Int) := by omega
      have HX := Lib.hid hx
      have HO := Lib.hid ho
      have HLl := Lib.hid hll
      have HAx := Lib.hid (fun W (hW : Ext (fun _ => False) wr W) (j : Nat) => HAx0.out W (HX.out.trans hW) j)
      have HAz := Lib.hid (fun W (hW : Ext (fun _ => False) wr W) (j : Nat) => HAz0.out W (HX.out.trans hW) j)
      have HM := Lib.hid (fun W u u' hu hu' => HM0.out W u u' i hu hu')
      have HAd := Lib.hid (fun W u u' hu hu' => HAd0.out W u u' i hu hu')
      have HR := Lib.hid (fun W u hu => (HRf.out i ▸ HR0.out W u i hu : Rrat W u (f i) 12))
      clear ho hx hll
      go_upto_region 5 with fail
      refine wp_region_held_drew (S := (S2 xb zb 0 0 (.slice xo xl xc) (.slice zo zl zc))) (by kernel_rfl) (hS.drew) (fun hHeld => ?_)
      have hX0 := (Ext.refl (fun _ => False) wr).drew
      generalize wr.drew = wd at *
      refine held_take 0 (v := ?_) rfl (by kernel_rfl) (by kernel_rfl) (by kernel_rfl) (fun _ _ _ h => h) (by rfl) ?_ (by assumption) ?_
      rotate_left
      · ((intro w hSw; (try dsimp only at hSw); go_simp) <;> with_reducible rfl)
      (try simp only [Act.put, List.setIfInBounds_toArray, List.set_cons_zero, List.set_cons_succ])
      refine held_take 1 (v := ?_) rfl (by kernel_rfl) (by kernel_rfl) (by kernel_rfl) (fun _ _ _ h => h) (by rfl) ?_ (by assumption) ?_
      rotate_left
      · ((intro w hSw; (try dsimp only at hSw); go_simp) <;> with_reducible rfl)
      (try simp only [Act.put, List.setIfInBounds_toArray, List.set_cons_zero, List.set_cons_succ])
      refine held_take 2 (v := ?_) rfl (by kernel_rfl) (by kernel_rfl) (by kernel_rfl) (fun _ _ _ h => h) (by rfl) ?_ (by assumption) ?_
      rotate_left
      · ((intro w hSw; (try dsimp only at hSw); go_simp) <;> with_reducible rfl)
      (try simp only [Act.put, List.setIfInBounds_toArray, List.set_cons_zero, List.set_cons_succ])
      refine held_take 4 (v := ?_) rfl (by kernel_rfl) (by kernel_rfl) (by kernel_rfl) (fun _ _ _ h => h) (by rfl) ?_ (by assumption) ?_
      rotate_left
      · ((intro w hSw; (try dsimp only at hSw); go_simp) <;> with_reducible rfl)
      (try simp only [Act.put, List.setIfInBounds_toArray, List.set_cons_zero, List.set_cons_succ])
      refine held_take 6 (v := ?_) rfl (by kernel_rfl) (by kernel_rfl) (by kernel_rfl) (fun _ _ _ h => h) (by rfl) ?_ (by assumption) ?_
      rotate_left
      · ((intro w hSw; (try dsimp only at hSw); go_simp) <;> with_reducible rfl)
      (try simp only [Act.put, List.setIfInBounds_toArray, List.set_cons_zero, List.set_cons_succ])
      refine held_take 7 (v := ?_) rfl (by kernel_rfl) (by kernel_rfl) (by kernel_rfl) (fun _ _ _ h => h) (by rfl) ?_ (by assumption) ?_
      rotate_left
      · ((intro w hSw; (try dsimp only at hSw); go_simp) <;> with_reducible rfl)
      (try simp only [Act.put, List.setIfInBounds_toArray, List.set_cons_zero, List.set_cons_succ])
      refine held_step 3 rfl (by kernel_rfl) (fun K hK => ?_)
      go_simp
      go_at_call 23
      (with_reducible refine (HAx.out _ hX0 i).mono ?_)
      rintro q1 u1 ⟨t1, rfl, ht1, hx1⟩
      obtain ⟨n1, a1, l1, c1, a1', l1', c1', rfl⟩ := ht1.shape
      have hX1 := hX0.trans hx1
      refine hK.out _ _ (hS.keep hX1) (fun hHeld => ?_)
      clear hK K
      (try simp only [Act.put, List.setIfInBounds_toArray, List.set_cons_zero, List.set_cons_succ])
      refine held_step 5 rfl (by kernel_rfl) (fun K hK => ?_)
      go_simp
      go_at_call 25
      (with_reducible refine (HF.out _).mono ?_)
      rintro q2 u2 ⟨t2, rfl, ht2, hx2⟩
      obtain ⟨n2, a2, l2, c2, a2', l2', c2', rfl⟩ := ht2.shape
      have hX2 := hX1.trans hx2
      have hy1 := ht1.keep hx2
      refine hK.out _ _ (hS.keep hX2) (fun hHeld => ?_)
      clear hK K
      (try simp only [Act.put, List.setIfInBounds_toArray, List.set_cons_zero, List.set_cons_succ])
      refine held_step 8 rfl (by kernel_rfl) (fun K hK => ?_)
      go_simp
      go_at_call 23
      (with_reducible refine (HAz.out _ hX2 i).mono ?_)
      rintro q3 u3 ⟨t3, rfl, ht3, hx3⟩
      obtain ⟨n3, a3, l3, c3, a3', l3', c3', rfl⟩ := ht3.shape
      have hX3 := hX2.trans hx3
      have hM := HM.out _ _ _ (ht2.keep hx3) ht3
      have hy1 := hy1.keep hx3
      refine hK.out _ _ (hS.keep hX3) (fun hHeld => ?_)
      clear hK K
      (try simp only [Act.put, List.setIfInBounds_toArray, List.set_cons_zero, List.set_cons_succ])
      refine held_step 9 rfl (by kernel_rfl) (fun K hK => ?_)
      go_simp
      go_at_call 24
      (with_reducible refine (hM).mono ?_)
      rintro q4 u4 ⟨t4, rfl, ht4, hx4⟩
      obtain ⟨n4, a4, l4, c4, a4', l4', c4', rfl⟩ := ht4.shape
      have hX4 := hX3.trans hx4
      have hA := HAd.out _ _ _ (hy1.keep hx4) ht4
      refine hK.out _ _ (hS.keep hX4) (fun hHeld => ?_)
      clear hK K
      (try simp only [Act.put, List.setIfInBounds_toArray, List.set_cons_zero, List.set_cons_succ])
      refine held_step 10 rfl (by kernel_rfl) (fun K hK => ?_)
      go_simp
      go_at_call 22
      (with_reducible refine (hA).mono ?_)
      rintro q5 u5 ⟨t5, rfl, ht5, hx5⟩
      obtain ⟨n5, a5, l5, c5, a5', l5', c5', rfl⟩ := ht5.shape
      have hX5 := hX4.trans hx5
      refine hK.out _ _ (hS.keep hX5) (fun hHeld => ?_)
      clear hK K
      (try simp only [Act.put, List.setIfInBounds_toArray, List.set_cons_zero, List.set_cons_succ])
      refine held_step 11 rfl (by kernel_rfl) (fun K hK => ?_)
      go_simp
      have hxa := (Ext.refl (fun _ => False) u5).alloc (.cells #[.bool n5, .slice a5 l5 c5, .slice a5' l5' c5'] 31)
      have hX6 := hX5.trans hxa
      have ho6 := HO.out.keep hX6
      have hq6 := (HR.out _ _ ht5).keep hxa
      have hsz6 : w.heap.size ≤ (u5.alloc (.cells #[.bool n5, .slice a5 l5 c5, .slice a5' l5' c5'] 31)).heap.size := by have := HX.out.size; have := hX6.size; omega
      refine hK.out _ _ (hS.keep hX6) (fun hHeld => ?_)
      clear hK K
      (try simp only [Act.put, List.setIfInBounds_toArray, List.set_cons_zero, List.set_cons_succ])
      refine held_step 12 rfl (by kernel_rfl) (fun K hK => ?_)
      refine step_append_rat rfl (.tmp 14) (.tmp 25) rfl w.heap.size _ _ 12 rfl ho6 ⟨n5, a5, l5, c5, a5', l5', c5'⟩ (f i) hq6 ⟨u5.heap.size, 0, none⟩ 1 rfl (cells_new (RatC.cells ⟨n5, a5, l5, c5, a5', l5', c5'⟩) _ rfl) (by rw [HLl.out]; omega) hsz6 ?_
      intro v7 w7 hown7 hx7 hrd7
      have HN : Hid (ROwn w7 w.heap.size v7 (listTo (i + 1) f) 12) := Lib.hid (by rw [listTo_succ]; exact hown7)
      have hg := fun g e => (ho6.lt g e).1
      have HX7 : Hid (Ext (fun _ => False) w w7) := Lib.hid (ext_own (HX.out.trans hX6) hx7 hg)
      have hS7 : S2 xb zb 0 0 (.slice xo xl xc) (.slice zo zl zc) w7 := ⟨(hx7.cell (p := ⟨xb, 0, none⟩) (World.block_lt_of_cell? _ _ (hS.keep hX6).1) (fun e => absurd (hg xb e) (by omega))).trans (hS.keep hX6).1, (hx7.cell (p := ⟨zb, 0, none⟩) (World.block_lt_of_cell? _ _ (hS.keep hX6).2) (fun e => absurd (hg zb e) (by omega))).trans (hS.keep hX6).2⟩
      refine hK.out _ _ (hS7) (fun hHeld => ?_)
      clear hK K
      (try simp only [Act.put, List.setIfInBounds_toArray, List.set_cons_zero, List.set_cons_succ])
      refine held_take 13 (v := ?_) rfl (by kernel_rfl) (by kernel_rfl) (by kernel_rfl) (fun _ _ _ h => h) (by rfl) ?_ (by assumption) ?_
      rotate_left
      · ((intro w hSw; (try dsimp only at hSw); go_simp) <;> with_reducible rfl)
      (try simp only [Act.put, List.setIfInBounds_toArray, List.set_cons_zero, List.set_cons_succ])
      refine wpAnyH_done (by kernel_rfl) ?_ _
      have HS7 := Lib.hid hS7
      clear hown7 hx7 hrd7 hS7 ho6 hq6 hS hHeld hX0 hX1 hX2 hX3 hX4 hX5 hX6 hx1 hx2 hx3 hx4 hx5 hxa hM hA hy1 ht1 ht2 ht3 ht4 ht5 hg
      go_wp2
      go_roundg (n - (i + 1))
      case measure => omega
      case rel => exact ⟨i + 1, _, by omega, rfl, by go_num, rfl, HN.out, HS7.out, HX7.out⟩
    · obtain rfl : i = n := by omega
      have HO := Lib.hid (And.intro ho hx)
      clear ho hx
      go_wp2
      go_ret
      exact ⟨_, rfl, by have := HO.out.1.rats; exact this, HO.out.2⟩
end Go.Proofs.YtelnchlaaokgiaaGreat
/-
  DualityRays: the walk. Conditions: the arguments read as a program, as lists of fractions, as a number of 16 bits.
-/
namespace Go.Proofs.YtelnchlaaokgiaaGreat
open Go.RowKit Go.MapKept
open Go.ChangeMaps (setBlock)

theorem sign_less {a b : Rat} (h : a < b) : (a - b).num.sign = -1 := by
  have h1 : (a - b).num < 0 := (rnum_neg _).2 (by grind)
  exact Int.sign_eq_neg_one_of_neg h1
theorem smallB_few {p : ProgV} {ls : List (List RatV)} (h : smallB p ls = true) : p.vars.length ≤ 6 ∧ p.rows.length ≤ 8 := by
  unfold smallB fewP at h
  simp only [Bool.and_eq_true, decide_eq_true_eq] at h
  exact ⟨h.2.1.2, h.2.2⟩
theorem rays_law {p : ProgV} {x z : List Rat} (h : unbB p x z = true) (k : Int) (hk : 0 ≤ k) : (∀ y, boundQ p y = none) ∧ insideB p (goQ p x z (k + 1)) = true ∧ violQ p (goQ p x z (k + 1)) = [] ∧ (costQ p (goQ p x z (k + 1)) - costQ p (goQ p x z k)).num.sign = -1 := by
  refine ⟨fun y => ?_, (go_feas h (by omega)).1, (go_feas h (by omega)).2, sign_less (go_cost h k)⟩
  cases hb : boundQ p y with
  | none => rfl
  | some b => exact (unb_nobound h hb).elim
set_option maxRecDepth 100000 in
set_option maxHeartbeats 8000000 in
theorem rays_core (w : World) (pv xv zv yv : Value) (k : Int) (p : ProgV) (x z y : List RatV) (hp : IsPrg w pv p) (hx : Raws w xv x) (hz : Raws w zv z) (hy : Raws w yv y) (hk0 : 0 ≤ k) (hk1 : k ≤ 65535) :
    Calls Tryz.prog 5 #[pv, xv, zv, yv, .int .u16 k] w (BoolPost w true) := by
  have HP := Lib.hid (And.intro hp (And.intro hx (And.intro hz hy)))
  obtain ⟨vo, vn, vc, ro, rn, rc, rfl⟩ := hp.slices
  obtain ⟨xo, xc, rfl, -⟩ := hx.shape
  obtain ⟨zo, zc, rfl, -⟩ := hz.shape
  obtain ⟨yo, yc, rfl, -⟩ := hy.shape
  clear hp hx hy hz
  generalize hxl : x.length = xl at *
  generalize hyl : y.length = yl at *
  generalize hzl : z.length = zl at *
  clear hxl hyl hzl
  have b1 : blk (((w.alloc (.cells #[.slice vo vn vc, .slice ro rn rc] 25)).alloc (.cells #[.slice xo xl xc] 32)).alloc (.cells #[.slice zo zl zc] 32)) w.heap.size = some (.cells #[.slice vo vn vc, .slice ro rn rc] 25 (0, 0)) := (blk_alloc_past _ _ _ (by simp [World.size_alloc] <;> omega)).trans ((blk_alloc_past _ _ _ (by simp)).trans (blk_alloc_at _ _))
  have b2 : blk (((w.alloc (.cells #[.slice vo vn vc, .slice ro rn rc] 25)).alloc (.cells #[.slice xo xl xc] 32)).alloc (.cells #[.slice zo zl zc] 32)) (w.heap.size + 1) = some (.cells #[.slice xo xl xc] 32 (0, 0)) := (blk_alloc_past _ _ _ (by simp [World.size_alloc])).trans (blk_alloc_at' _ _ _ (by simp [World.size_alloc]))
  have b3 : blk (((w.alloc (.cells #[.slice vo vn vc, .slice ro rn rc] 25)).alloc (.cells #[.slice xo xl xc] 32)).alloc (.cells #[.slice zo zl zc] 32)) (w.heap.size + 1 + 1) = some (.cells #[.slice zo zl zc] 32 (0, 0)) := blk_alloc_at' _ _ _ (by simp [World.size_alloc])
  have HB := Lib.hid (And.intro b1 (And.intro b2 (And.intro b3 ((((Ext.refl (fun _ => False) w).alloc (.cells #[.slice vo vn vc, .slice ro rn rc] 25)).alloc (.cells #[.slice xo xl xc] 32)).alloc (.cells #[.slice zo zl zc] 32)))))
  clear b1 b2 b3
  go_enter Tryz.func5, Tryz.ntmps5
  go_upto_region 1 with fail
  generalize hw1 : ((w.alloc (.cells #[.slice vo vn vc, .slice ro rn rc] 25)).alloc (.cells #[.slice xo xl xc] 32)).alloc (.cells #[.slice zo zl zc] 32) = w1 at *
  clear hw1
  obtain ⟨pb, hpb⟩ : ∃ pb, w.heap.size = pb := ⟨_, rfl⟩
  obtain ⟨xb, hxb⟩ : ∃ xb, pb + 1 = xb := ⟨_, rfl⟩
  obtain ⟨zb, hzb⟩ : ∃ zb, xb + 1 = zb := ⟨_, rfl⟩
  rw [hpb, hxb, hzb] at HB ⊢
  clear hpb hxb hzb
  go_wp2_with fail
  refine (awake_any w1).mono ?_
  rintro r2 w2 ⟨rfl, hx2⟩
  have HB2 := Lib.hid (And.intro (blk_keep HB.out.1 hx2) (And.intro (blk_keep HB.out.2.1 hx2) (And.intro (blk_keep HB.out.2.2.1 hx2) (HB.out.2.2.2.trans hx2))))
  clear hx2 HB
  have z0 := cellq HB2.out.1 0 rfl
  have z1 := cellq HB2.out.1 1 rfl
  have z2 := cellq HB2.out.2.1 0 rfl
  have z3 := cellq HB2.out.2.2.1 0 rfl
  go_wp2_with fail
  have hxa := (Ext.refl (fun _ => False) w2).alloc (.cells #[.slice xo xl xc, .slice zo zl zc, .slice yo yl yc] 32)
  have hX := HB2.out.2.2.2.trans hxa
  refine (lsmall_any _ _ p [x, z, y] [.slice xo xl xc, .slice zo zl zc, .slice yo yl yc] w2.heap.size 0 3 (HP.out.1.keep hX) rfl (by show 3 ≤ 100; decide) (vs_cells (blk_alloc_at w2 (.cells #[.slice xo xl xc, .slice zo zl zc, .slice yo yl yc] 32))) (fun i v rs h1 h2 => by
    match i, h1, h2 with
    | 0, h1, h2 => cases h1; cases h2; exact HP.out.2.1.keep hX
    | 1, h1, h2 => cases h1; cases h2; exact HP.out.2.2.1.keep hX
    | 2, h1, h2 => cases h1; cases h2; exact HP.out.2.2.2.keep hX)).mono ?_
  rintro r3 w3 ⟨rfl, hx3⟩
  have hx13 := hxa.trans hx3
  have HB3 := Lib.hid (And.intro (blk_keep HB2.out.1 hx13) (And.intro (blk_keep HB2.out.2.1 hx13) (And.intro (blk_keep HB2.out.2.2.1 hx13) (HB2.out.2.2.2.trans hx13))))
  clear hx3 hX hxa hx13 HB2 z0 z1 z2 z3
  cases hsm : smallB p [x, z, y] with
  | false =>
    clear hsm
    go_wp2_with fail
    refine (awake_any w3).mono ?_
    rintro r4 w4 ⟨rfl, hx4⟩
    have HX4 := Lib.hid (HB3.out.2.2.2.trans hx4)
    clear hx4
    go_wp2
    go_ret
    exact ⟨rfl, HX4.out⟩
  | true =>
    obtain ⟨hs, hf⟩ := smallB_parts hsm
    obtain ⟨hn6, hm8⟩ := smallB_few hsm
    clear hsm
    have hn : p.vars.length ≤ 1000000 := by omega
    have hxs := fun W (hW : Ext (fun _ => False) w3 W) => (HP.out.2.1.keep (HB3.out.2.2.2.trans hW)).rats (hf x (by simp)).1
    have hzs := fun W (hW : Ext (fun _ => False) w3 W) => (HP.out.2.2.1.keep (HB3.out.2.2.2.trans hW)).rats (hf z (by simp)).1
    have hys := fun W (hW : Ext (fun _ => False) w3 W) => (HP.out.2.2.2.keep (HB3.out.2.2.2.trans hW)).rats (hf y (by simp)).1
    have hps := fun W (hW : Ext (fun _ => False) w3 W) => HP.out.1.keep (HB3.out.2.2.2.trans hW)
    have HUn := Lib.hid (fun W (hW : Ext (fun _ => False) w3 W) => Unbounded_any W _ _ _ p (valL x) (valL z) 4 12 (hps W hW) (hxs W hW) (hzs W hW) hs)
    have HBo := Lib.hid (fun W (hW : Ext (fun _ => False) w3 W) => Bound_any W _ _ p (valL y) 4 12 (hps W hW) (hys W hW) hs)
    have HAt := Lib.hid (fun W j (hj : InR j) (hW : Ext (fun _ => False) w3 W) => rays1_any W pb xb zb _ _ _ _ p (valL x) (valL z) j hj (hps W hW) hn (blk_keep HB3.out.1 hW) (blk_keep HB3.out.2.1 hW) (blk_keep HB3.out.2.2.1 hW) (hxs W hW) (hzs W hW))
    have hcz : ∀ (W : World) u q, Rats W u q 12 → Sz (costQ p q) (1 + p.vars.length * (12 + 3)) := fun W u q hq => by
      obtain ⟨_, _, e, hv, _⟩ := HP.out.1
      exact costQ_sz hv (hq.sz (by decide))
    have hrl : p.rows.length ≤ 1000000 := by omega
    have HIs0 := Lib.hid (fun W u q (hW : Ext (fun _ => False) w3 W) (hq : Rats W u q 12) => Inside4_any W _ u p q 12 (hps W hW) hq (by decide) (by decide))
    have HVi0 := Lib.hid (fun W u q (hW : Ext (fun _ => False) w3 W) (hq : Rats W u q 12) => Violated4_any W _ u p q 12 12 (hps W hW) hq (by decide) hs.terms (by decide) (by omega) hrl)
    have HCo0 := Lib.hid (fun W u q (hW : Ext (fun _ => False) w3 W) (hq : Rats W u q 12) => Cost4_any W _ u p q 12 (hps W hW) hq (by decide) (by omega))
    have HCm0 := Lib.hid (fun W q q' u u' V V' t t' (hq : Rats V t q 12) (hq' : Rats V' t' q' 12) (hu : IsRat W u (costQ p q)) (hu' : IsRat W u' (costQ p q')) => Rrcmp_any W u u' _ _ 1000000 (hu.reads ((hcz _ _ _ hq).mono (by omega))) (hu'.reads ((hcz _ _ _ hq').mono (by omega))) (by decide) (by decide))
    have HQ := Lib.hid (fun h => rays_law (p := p) (x := valL x) (z := valL z) h k hk0)
    clear hs hf hn6 hm8 hxs hzs hys hps hcz hrl hn
    generalize unbB p (valL x) (valL z) = ub at *
    generalize goQ p (valL x) (valL z) = gq at *
    have z0 := cellq HB3.out.1 0 rfl
    have z1 := cellq HB3.out.1 1 rfl
    have z2 := cellq HB3.out.2.1 0 rfl
    have z3 := cellq HB3.out.2.2.1 0 rfl
    go_upto_region 3 with fail
    go_wp2_with fail
    refine (HUn.out w3 (Ext.refl _ _)).mono ?_
    rintro r5 w5 ⟨rfl, hx5⟩
    have HX5 := Lib.hid hx5
    clear z0 z1 z2 z3 hx5 HUn
    cases ub with
    | false =>
      have HX := Lib.hid (HB3.out.2.2.2.trans HX5.out)
      go_wp2
      go_ret
      exact ⟨rfl, HX.out⟩
    | true =>
    obtain ⟨q0, q1, q2, q3⟩ := HQ.out rfl
    have HQ2 := Lib.hid (And.intro (q0 (valL y)) (And.intro q1 (And.intro q2 q3)))
    clear q0 q1 q2 q3 HQ
    go_upto_region 6 with fail
    have hk2 : InR k := by unfold InR; omega
    have hk3 : InR (k + 1) := by unfold InR; omega
    have HK := Lib.hid (And.intro hk2 hk3)
    clear hk2 hk3
    go_wp2_with fail
    refine (HAt.out w5 k HK.out.1 HX5.out).mono ?_
    rintro r6 w6 ⟨av, rfl, ha6, hx6⟩
    obtain ⟨ao, ac, rfl, -, -, -⟩ := ha6.shape
    have HA6 := Lib.hid (And.intro ha6 (HX5.out.trans hx6))
    clear ha6 hx6 HX5
    obtain ⟨al, hal⟩ : ∃ al, (gq k).length = al := ⟨_, rfl⟩
    rw [hal] at HA6 ⊢
    clear hal
    go_wp2_with fail
    refine (HAt.out w6 (k + 1) HK.out.2 HA6.out.2).mono ?_
    rintro r7 w7 ⟨bv, rfl, hb7, hx7⟩
    obtain ⟨bo, bc, rfl, -, -, -⟩ := hb7.shape
    have HA7 := Lib.hid (And.intro (HA6.out.1.keep hx7) (And.intro hb7 (HA6.out.2.trans hx7)))
    clear hb7 hx7 HA6 HAt HK
    obtain ⟨bl, hbl⟩ : ∃ bl, (gq (k + 1)).length = bl := ⟨_, rfl⟩
    rw [hbl] at HA7 ⊢
    clear hbl
    generalize gq (k + 1) = g1 at *
    generalize gq k = g0 at *
    have z0 := cell_keep (cellq HB3.out.1 0 rfl) HA7.out.2.2
    have z1 := cell_keep (cellq HB3.out.1 1 rfl) HA7.out.2.2
    go_upto_region 7 with fail
    go_wp2_with fail
    refine (HBo.out w7 HA7.out.2.2).mono ?_
    rw [HQ2.out.1]
    intro r8 w8 hop
    obtain ⟨n5, a5, m5, c5, a5', m5', c5', rfl, h5, hx8⟩ := hop.open
    clear hop h5
    rw [show (none : Option Rat).isSome = false from rfl]
    have hxb := hx8.alloc (.cells #[.bool n5, .slice a5 m5 c5, .slice a5' m5' c5'] 31)
    have HA8 := Lib.hid (And.intro (HA7.out.1.keep hxb) (And.intro (HA7.out.2.1.keep hxb) (HA7.out.2.2.trans hxb)))
    clear hxb hx8 HA7 z0 z1 HBo
    go_upto_region 8 with fail
    generalize w8.alloc (.cells #[.bool n5, .slice a5 m5 c5, .slice a5' m5' c5'] 31) = w9 at *
    have hS : S2 pb pb 0 1 (.slice vo vn vc) (.slice ro rn rc) w9 := ⟨cell_keep (cellq HB3.out.1 0 rfl) HA8.out.2.2, cell_keep (cellq HB3.out.1 1 rfl) HA8.out.2.2⟩
    have hX0 := (Ext.refl (fun _ => False) w9).drew
    have HIs := Lib.hid (fun W (hW : Ext (fun _ => False) w9 W) => (by have h := HIs0.out W _ g1 (HA8.out.2.2.trans hW) (HA8.out.2.1.keep hW); rw [HQ2.out.2.1] at h; exact h : Calls Tryz.prog 14 #[.agg #[.slice vo vn vc, .slice ro rn rc], .slice bo bl bc] W (BoolPost W true)))
    have HVi := Lib.hid (fun W (hW : Ext (fun _ => False) w9 W) => (by have h := HVi0.out W _ g1 (HA8.out.2.2.trans hW) (HA8.out.2.1.keep hW); rw [HQ2.out.2.2.1] at h; exact h : Calls Tryz.prog 15 #[.agg #[.slice vo vn vc, .slice ro rn rc], .slice bo bl bc] W (NumsPost W [])))
    have HC1 := Lib.hid (fun W (hW : Ext (fun _ => False) w9 W) => HCo0.out W _ g1 (HA8.out.2.2.trans hW) (HA8.out.2.1.keep hW))
    have HC0 := Lib.hid (fun W (hW : Ext (fun _ => False) w9 W) => HCo0.out W _ g0 (HA8.out.2.2.trans hW) (HA8.out.1.keep hW))
    have HCm := Lib.hid (fun W u u' (hu : IsRat W u (costQ p g1)) (hu' : IsRat W u' (costQ p g0)) => (by have h := HCm0.out W g1 g0 u u' w9 w9 _ _ HA8.out.2.1 HA8.out.1 hu hu'; rw [HQ2.out.2.2.2] at h; exact h : Calls Tryz.prog 18 #[u, u'] W fun r w' => r = .returned (.int .i64 (-1)) ∧ Ext (fun _ => False) W w'))
    refine wp_region_held_drew (S := (S2 pb pb 0 1 (.slice vo vn vc) (.slice ro rn rc))) (by kernel_rfl) (hS.drew) (fun hHeld => ?_)
    refine held_take 0 (v := ?_) rfl (by kernel_rfl) (by kernel_rfl) (by kernel_rfl) (fun _ _ _ h => h) (by rfl) ?_ (by assumption) ?_
    rotate_left
    · ((intro w hSw; (try dsimp only at hSw); go_simp) <;> with_reducible rfl)
    (try simp only [Act.put, List.setIfInBounds_toArray, List.set_cons_zero, List.set_cons_succ])
    refine held_take 1 (v := ?_) rfl (by kernel_rfl) (by kernel_rfl) (by kernel_rfl) (fun _ _ _ h => h) (by rfl) ?_ (by assumption) ?_
    rotate_left
    · ((intro w hSw; (try dsimp only at hSw); go_simp) <;> with_reducible rfl)
    (try simp only [Act.put, List.setIfInBounds_toArray, List.set_cons_zero, List.set_cons_succ])
    refine held_take 2 (v := ?_) rfl (by kernel_rfl) (by kernel_rfl) (by kernel_rfl) (fun _ _ _ h => h) (by rfl) ?_ (by assumption) ?_
    rotate_left
    · ((intro w hSw; (try dsimp only at hSw); go_simp) <;> with_reducible rfl)
    (try simp only [Act.put, List.setIfInBounds_toArray, List.set_cons_zero, List.set_cons_succ])
    refine held_take 3 (v := ?_) rfl (by kernel_rfl) (by kernel_rfl) (by kernel_rfl) (fun _ _ _ h => h) (by rfl) ?_ (by assumption) ?_
    rotate_left
    · ((intro w hSw; (try dsimp only at hSw); go_simp) <;> with_reducible rfl)
    (try simp only [Act.put, List.setIfInBounds_toArray, List.set_cons_zero, List.set_cons_succ])
    refine held_take 4 (v := ?_) rfl (by kernel_rfl) (by kernel_rfl) (by kernel_rfl) (fun _ _ _ h => h) (by rfl) ?_ (by assumption) ?_
    rotate_left
    · ((intro w hSw; (try dsimp only at hSw); go_simp) <;> with_reducible rfl)
    (try simp only [Act.put, List.setIfInBounds_toArray, List.set_cons_zero, List.set_cons_succ])
    refine held_step 5 rfl (by kernel_rfl) (fun K hK => ?_)
    (go_simp; go_at_call 14; (with_reducible refine (HIs.out _ hX0).mono ?_); rintro q1 u1 ⟨rfl, hx1⟩; have hX1 := hX0.trans hx1; have hK1 := hS.keep hX1)
    refine hK.out _ _ (hK1) (fun hHeld => ?_)
    clear hK K
    (try simp only [Act.put, List.setIfInBounds_toArray, List.set_cons_zero, List.set_cons_succ])
    refine held_take 6 (v := ?_) rfl (by kernel_rfl) (by kernel_rfl) (by kernel_rfl) (fun _ _ _ h => h) (by rfl) ?_ (by assumption) ?_
    rotate_left
    · ((intro w hSw; (try dsimp only at hSw); go_simp) <;> with_reducible rfl)
    (try simp only [Act.put, List.setIfInBounds_toArray, List.set_cons_zero, List.set_cons_succ])
    refine held_take 7 (v := ?_) rfl (by kernel_rfl) (by kernel_rfl) (by kernel_rfl) (fun _ _ _ h => h) (by rfl) ?_ (by assumption) ?_
    rotate_left
    · ((intro w hSw; (try dsimp only at hSw); go_simp) <;> with_reducible rfl)
    (try simp only [Act.put, List.setIfInBounds_toArray, List.set_cons_zero, List.set_cons_succ])
    refine held_take 8 (v := ?_) rfl (by kernel_rfl) (by kernel_rfl) (by kernel_rfl) (fun _ _ _ h => h) (by rfl) ?_ (by assumption) ?_
    rotate_left
    · ((intro w hSw; (try dsimp only at hSw); go_simp) <;> with_reducible rfl)
    (try simp only [Act.put, List.setIfInBounds_toArray, List.set_cons_zero, List.set_cons_succ])
    refine held_take 9 (v := ?_) rfl (by kernel_rfl) (by kernel_rfl) (by kernel_rfl) (fun _ _ _ h => h) (by rfl) ?_ (by assumption) ?_
    rotate_left
    · ((intro w hSw; (try dsimp only at hSw); go_simp) <;> with_reducible rfl)
    (try simp only [Act.put, List.setIfInBounds_toArray, List.set_cons_zero, List.set_cons_succ])
    refine held_step 10 rfl (by kernel_rfl) (fun K hK => ?_)
    (go_simp; go_at_call 15; (with_reducible refine (HVi.out _ hX1).mono ?_); rintro q2 u2 ⟨v2, rfl, ho2, hx2⟩; obtain ⟨o2, c2, rfl⟩ := ho2.shape; rw [show ([] : List Nat).length = 0 from rfl]; have hX2 := hX1.trans hx2; have hK2 := hS.keep hX2)
    refine hK.out _ _ (hK2) (fun hHeld => ?_)
    clear hK K
    (try simp only [Act.put, List.setIfInBounds_toArray, List.set_cons_zero, List.set_cons_succ])
    refine held_take 11 (v := ?_) rfl (by kernel_rfl) (by kernel_rfl) (by kernel_rfl) (fun _ _ _ h => h) (by rfl) ?_ (by assumption) ?_
    rotate_left
    · ((intro w hSw; (try dsimp only at hSw); go_simp) <;> with_reducible rfl)
    (try simp only [Act.put, List.setIfInBounds_toArray, List.set_cons_zero, List.set_cons_succ])
    refine held_take 12 (v := ?_) rfl (by kernel_rfl) (by kernel_rfl) (by kernel_rfl) (fun _ _ _ h => h) (by rfl) ?_ (by assumption) ?_
    rotate_left
    · ((intro w hSw; (try dsimp only at hSw); go_simp) <;> with_reducible rfl)
    (try simp only [Act.put, List.setIfInBounds_toArray, List.set_cons_zero, List.set_cons_succ])
    refine held_take 13 (v := ?_) rfl (by kernel_rfl) (by kernel_rfl) (by kernel_rfl) (fun _ _ _ h => h) (by rfl) ?_ (by assumption) ?_
    rotate_left
    · ((intro w hSw; (try dsimp only at hSw); go_simp) <;> with_reducible rfl)
    (try simp only [Act.put, List.setIfInBounds_toArray, List.set_cons_zero, List.set_cons_succ])
    refine held_take 14 (v := ?_) rfl (by kernel_rfl) (by kernel_rfl) (by kernel_rfl) (fun _ _ _ h => h) (by rfl) ?_ (by assumption) ?_
    rotate_left
    · ((intro w hSw; (try dsimp only at hSw); go_simp) <;> with_reducible rfl)
    (try simp only [Act.put, List.setIfInBounds_toArray, List.set_cons_zero, List.set_cons_succ])
    refine held_take 15 (v := ?_) rfl (by kernel_rfl) (by kernel_rfl) (by kernel_rfl) (fun _ _ _ h => h) (by rfl) ?_ (by assumption) ?_
    rotate_left
    · ((intro w hSw; (try dsimp only at hSw); go_simp) <;> with_reducible rfl)
    (try simp only [Act.put, List.setIfInBounds_toArray, List.set_cons_zero, List.set_cons_succ])
    refine held_take 16 (v := ?_) rfl (by kernel_rfl) (by kernel_rfl) (by kernel_rfl) (fun _ _ _ h => h) (by rfl) ?_ (by assumption) ?_
    rotate_left
    · ((intro w hSw; (try dsimp only at hSw); go_simp) <;> with_reducible rfl)
    (try simp only [Act.put, List.setIfInBounds_toArray, List.set_cons_zero, List.set_cons_succ])
    refine held_take 18 (v := ?_) rfl (by kernel_rfl) (by kernel_rfl) (by kernel_rfl) (fun _ _ _ h => h) (by rfl) ?_ (by assumption) ?_
    rotate_left
    · ((intro w hSw; (try dsimp only at hSw); go_simp) <;> with_reducible rfl)
    (try simp only [Act.put, List.setIfInBounds_toArray, List.set_cons_zero, List.set_cons_succ])
    refine held_take 19 (v := ?_) rfl (by kernel_rfl) (by kernel_rfl) (by kernel_rfl) (fun _ _ _ h => h) (by rfl) ?_ (by assumption) ?_
    rotate_left
    · ((intro w hSw; (try dsimp only at hSw); go_simp) <;> with_reducible rfl)
    (try simp only [Act.put, List.setIfInBounds_toArray, List.set_cons_zero, List.set_cons_succ])
    refine held_step 17 rfl (by kernel_rfl) (fun K hK => ?_)
    (go_simp; go_at_call 19; (with_reducible refine (HC1.out _ hX2).mono ?_); rintro q3 u3 ⟨t3, rfl, ht3, hx3⟩; obtain ⟨m3, e3, l3, f3, e3', l3', f3', rfl⟩ := ht3.shape; have hX3 := hX2.trans hx3; have hK3 := hS.keep hX3)
    refine hK.out _ _ (hK3) (fun hHeld => ?_)
    clear hK K
    (try simp only [Act.put, List.setIfInBounds_toArray, List.set_cons_zero, List.set_cons_succ])
    refine held_step 20 rfl (by kernel_rfl) (fun K hK => ?_)
    (go_simp; go_at_call 19; (with_reducible refine (HC0.out _ hX3).mono ?_); rintro q4 u4 ⟨t4, rfl, ht4, hx4⟩; obtain ⟨m4, e4, l4, f4, e4', l4', f4', rfl⟩ := ht4.shape; have hC := HCm.out u4 _ _ (ht3.keep hx4) ht4; have hX4 := hX3.trans hx4; have hK4 := hS.keep hX4)
    refine hK.out _ _ (hK4) (fun hHeld => ?_)
    clear hK K
    (try simp only [Act.put, List.setIfInBounds_toArray, List.set_cons_zero, List.set_cons_succ])
    refine held_step 21 rfl (by kernel_rfl) (fun K hK => ?_)
    (go_simp; go_at_call 18; (with_reducible refine (hC).mono ?_); rintro q5 u5 ⟨rfl, hx5⟩; have hX5 := hX4.trans hx5; have hK5 := hS.keep hX5)
    refine hK.out _ _ (hK5) (fun hHeld => ?_)
    clear hK K
    (try simp only [Act.put, List.setIfInBounds_toArray, List.set_cons_zero, List.set_cons_succ])
    refine held_take 22 (v := ?_) rfl (by kernel_rfl) (by kernel_rfl) (by kernel_rfl) (fun _ _ _ h => h) (by rfl) ?_ (by assumption) ?_
    rotate_left
    · ((intro w hSw; (try dsimp only at hSw); go_simp) <;> with_reducible rfl)
    (try simp only [Act.put, List.setIfInBounds_toArray, List.set_cons_zero, List.set_cons_succ])
    refine held_take 23 (v := ?_) rfl (by kernel_rfl) (by kernel_rfl) (by kernel_rfl) (fun _ _ _ h => h) (by rfl) ?_ (by assumption) ?_
    rotate_left
    · ((intro w hSw; (try dsimp only at hSw); go_simp) <;> with_reducible rfl)
    (try simp only [Act.put, List.setIfInBounds_toArray, List.set_cons_zero, List.set_cons_succ])
    refine held_take 24 (v := ?_) rfl (by kernel_rfl) (by kernel_rfl) (by kernel_rfl) (fun _ _ _ h => h) (by rfl) ?_ (by assumption) ?_
    rotate_left
    · ((intro w hSw; (try dsimp only at hSw); go_simp) <;> with_reducible rfl)
    (try simp only [Act.put, List.setIfInBounds_toArray, List.set_cons_zero, List.set_cons_succ])
    refine wpAnyH_done (by kernel_rfl) ?_ _
    have HX := Lib.hid ((HB3.out.2.2.2.trans HA8.out.2.2).trans hX5)
    clear hX0 hX1 hX2 hX3 hX4 hX5 hK1 hK2 hK3 hK4 hK5 hS hHeld hx1 hx2 hx3 hx4 hx5 HIs HVi HC1 HC0 HCm HIs0 HVi0 HCo0 HCm0 HA8 HB3 HP HQ2
    go_wp2
    go_ret
    exact ⟨rfl, HX.out⟩
end Go.Proofs.YtelnchlaaokgiaaGreat
