/-
  DualityBounds: the walk. Conditions: the arguments read as a program and as lists of fractions.
-/
import Derived.Test.YtbgienfcmdgaaaaGreatZ14
import Derived.Test.YtbgienfcmdgaaaaGreatZ13
import Derived.Test.YtbgienfcmdgaaaaGreatZ6
import Derived.Test.YtbgienfcmdgaaaaGreatZ9
set_option linter.unusedVariables false
namespace Go.Proofs.YtbgienfcmdgaaaaGreat
open Go.RowKit Go.MapKept
open Go.ChangeMaps (setBlock)

theorem bound_valid {p : ProgV} {y : List Rat} {b : Rat} (h : boundQ p y = some b) : validB p = true := by
  unfold boundQ at h
  split at h
  · rename_i hv
    rw [Bool.and_eq_true] at hv
    exact hv.1
  · cases h
theorem inf_valid {p : ProgV} {y : List Rat} (h : infB p y = true) : validB p = true := by
  unfold infB at h
  simp only [Bool.and_eq_true] at h
  exact h.1.1
theorem feas_of {p : ProgV} {x : List Rat} (hv : validB p = true) (hi : insideB p x = true) (hr : violQ p x = []) : feasB p x = true := by
  unfold feasB
  rw [hv, hi, hr]; rfl
theorem bound_sz {w : World} {pv yv : Value} {p : ProgV} {y : List Rat} {b : Rat} (hp : IsPrg w pv p) (hy : Rats w yv y 4) (hs : Small p 12 4) (h : boundQ p y = some b) : Sz b 8000000 := by
  obtain ⟨r1, r2, r3, r4, r5, r6, r7, r8, r9⟩ := hs.room.all
  obtain ⟨vv, rv, rfl, hv, hr⟩ := hp
  have hyz := hy.sz (by decide)
  have hA := combA_sz hr hyz hs.terms
  have hB := combB_sz hr hyz
  have hD : ∀ i, i < p.vars.length → Sz (((p.v i).co : Rat) - combA p y i) (sizeA p.rows.length 12 4 + 3) := fun i hi => ((Sz.int (hv.ok i hi).co).sub (hA i)).mono (by omega)
  have hlz := leastS_sz (c := listTo p.vars.length fun i => ((p.v i).co : Rat) - combA p y i) hv (atQ_listTo_sz hD (by omega))
  unfold boundQ at h
  split at h
  · obtain ⟨l, hl, rfl⟩ := Option.map_eq_some_iff.1 h
    obtain ⟨_, _, e⟩ := least_some hl
    rw [e]
    exact (sz_add hB hlz).mono (by omega)
  · cases h
/-- the plain law: a feasible point costs no less than a bound, and none exists beside a proof of infeasibility -/
theorem bounds_law {p : ProgV} {x y : List Rat} (hi : insideB p x = true) (hr : violQ p x = []) : infB p y = false ∧ ∀ b, boundQ p y = some b → 0 ≤ (costQ p x - b).num.sign := by
  constructor
  · cases h : infB p y with
    | false => rfl
    | true =>
      have hf := feas_parts (feas_of (inf_valid h) hi hr)
      exact (inf_none h hf.2.1 hf.2.2).elim
  · intro b hb
    have hf := feas_parts (feas_of (bound_valid hb) hi hr)
    have h1 := bound_le hb hf.2.1 hf.2.2
    have h2 : 0 ≤ costQ p x - b := by grind
    have h3 := Rat.num_nonneg.2 h2
    rcases Int.lt_or_eq_of_le h3 with h | h
    · rw [Int.sign_eq_one_of_pos h]; decide
    · rw [← h]; decide
set_option maxRecDepth 100000 in
set_option maxHeartbeats 8000000 in
theorem bounds_core (w : World) (pv xv yv : Value) (p : ProgV) (x y : List RatV) (hp : IsPrg w pv p) (hx : Raws w xv x) (hy : Raws w yv y) :
    Calls Tryz.prog 4 #[pv, xv, yv] w (BoolPost w true) := by
  have HP := Lib.hid (And.intro hp (And.intro hx hy))
  obtain ⟨vo, vn, vc, ro, rn, rc, rfl⟩ := hp.slices
  obtain ⟨xo, xc, rfl, -⟩ := hx.shape
  obtain ⟨yo, yc, rfl, -⟩ := hy.shape
  clear hp hx hy
  have hb := blk_alloc_at w (.cells #[.slice vo vn vc, .slice ro rn rc] 25)
  have HB := Lib.hid (And.intro hb ((Ext.refl (fun _ => False) w).alloc (.cells #[.slice vo vn vc, .slice ro rn rc] 25)))
  clear hb
  generalize hxl : x.length = xl at *
  generalize hyl : y.length = yl at *
  clear hxl hyl
  go_enter Tryz.func4, Tryz.ntmps4
  go_upto_region 1 with fail
  generalize hw1 : w.alloc (.cells #[.slice vo vn vc, .slice ro rn rc] 25) = w1 at *
  clear hw1
  obtain ⟨pb, hpb⟩ : ∃ pb, w.heap.size = pb := ⟨_, rfl⟩
  rw [hpb] at HB ⊢
  clear hpb
  go_wp2_with fail
  refine (awake_any w1).mono ?_
  rintro r2 w2 ⟨rfl, hx2⟩
  have HB2 := Lib.hid (And.intro (blk_keep HB.out.1 hx2) (HB.out.2.trans hx2))
  clear hx2 HB
  have z0 := cellq HB2.out.1 0 rfl
  have z1 := cellq HB2.out.1 1 rfl
  go_wp2_with fail
  have hxa := (Ext.refl (fun _ => False) w2).alloc (.cells #[.slice xo xl xc, .slice yo yl yc] 32)
  have hX := HB2.out.2.trans hxa
  refine (lsmall_any _ _ p [x, y] [.slice xo xl xc, .slice yo yl yc] w2.heap.size 0 2 (HP.out.1.keep hX) rfl (by show 2 ≤ 100; decide) (vs_cells (blk_alloc_at w2 (.cells #[.slice xo xl xc, .slice yo yl yc] 32))) (fun i v rs h1 h2 => by
    match i, h1, h2 with
    | 0, h1, h2 => cases h1; cases h2; exact HP.out.2.1.keep hX
    | 1, h1, h2 => cases h1; cases h2; exact HP.out.2.2.keep hX)).mono ?_
  rintro r3 w3 ⟨rfl, hx3⟩
  have HB3 := Lib.hid (And.intro (blk_keep HB2.out.1 (hxa.trans hx3)) (HB2.out.2.trans (hxa.trans hx3)))
  clear hx3 hX hxa HB2 z0 z1
  cases hsm : smallB p [x, y] with
  | false =>
    clear hsm
    go_wp2_with fail
    refine (awake_any w3).mono ?_
    rintro r4 w4 ⟨rfl, hx4⟩
    have HX4 := Lib.hid (HB3.out.2.trans hx4)
    clear hx4
    go_wp2
    go_ret
    exact ⟨rfl, HX4.out⟩
  | true =>
    obtain ⟨hs, hf⟩ := smallB_parts hsm
    clear hsm
    obtain ⟨r1, r2, r3, r4, r5, r6, r7, r8, r9⟩ := hs.room.all
    have hsum := hs.room.sum
    have hn6 : p.vars.length ≤ 6 ∧ p.rows.length ≤ 8 → True := fun _ => trivial
    have hxs := fun W (hW : Ext (fun _ => False) w3 W) => (HP.out.2.1.keep (HB3.out.2.trans hW)).rats (hf x (by simp)).1
    have hys := fun W (hW : Ext (fun _ => False) w3 W) => (HP.out.2.2.keep (HB3.out.2.trans hW)).rats (hf y (by simp)).1
    have HIs := Lib.hid (fun W (hW : Ext (fun _ => False) w3 W) => Inside4_any W _ _ p (valL x) 4 (HP.out.1.keep (HB3.out.2.trans hW)) (hxs W hW) (by decide) (by decide))
    have HVi := Lib.hid (fun W (hW : Ext (fun _ => False) w3 W) => Violated4_any W _ _ p (valL x) 4 12 (HP.out.1.keep (HB3.out.2.trans hW)) (hxs W hW) (by decide) hs.terms (by decide) (by omega) (by omega))
    have HBo := Lib.hid (fun W (hW : Ext (fun _ => False) w3 W) => Bound_any W _ _ p (valL y) 4 12 (HP.out.1.keep (HB3.out.2.trans hW)) (hys W hW) hs)
    have HIn := Lib.hid (fun W (hW : Ext (fun _ => False) w3 W) => Infeasible_any W _ _ p (valL y) 4 12 (HP.out.1.keep (HB3.out.2.trans hW)) (hys W hW) hs)
    have HCo := Lib.hid (fun W (hW : Ext (fun _ => False) w3 W) => Cost4_any W _ _ p (valL x) 4 (HP.out.1.keep (HB3.out.2.trans hW)) (hxs W hW) (by decide) (by omega))
    have HQ := Lib.hid (fun hi hr => bounds_law (p := p) (x := valL x) (y := valL y) hi hr)
    have hcz : Sz (costQ p (valL x)) (1 + p.vars.length * (4 + 3)) := by
      obtain ⟨_, _, e, hv, _⟩ := HP.out.1
      exact costQ_sz hv (((HP.out.2.1).rats (hf x (by simp)).1).sz (by decide))
    have hbz : ∀ b, boundQ p (valL y) = some b → Sz b 8000000 := fun b hb => bound_sz HP.out.1 (((HP.out.2.2).rats (hf y (by simp)).1)) hs hb
    have HCa := Lib.hid (fun W u u' b (hb : boundQ p (valL y) = some b) (hu : IsRat W u (costQ p (valL x))) (hu' : IsRat W u' b) => Rrcmp_any W u u' _ _ 8000000 (hu.reads (hcz.mono (by omega))) (hu'.reads (hbz b hb)) (by decide) (by decide))
    clear hs hf r1 r2 r3 r4 r5 r6 r7 r8 r9 hsum hn6 hxs hys hcz hbz
    generalize infB p (valL y) = ib at *
    generalize costQ p (valL x) = cq at *
    generalize boundQ p (valL y) = bq at *
    generalize insideB p (valL x) = ins at *
    generalize violQ p (valL x) = vq at *
    have z0 := cellq HB3.out.1 0 rfl
    have z1 := cellq HB3.out.1 1 rfl
    go_wp2_with fail
    refine (HIs.out w3 (Ext.refl _ _)).mono ?_
    rintro r5 w5 ⟨rfl, hx5⟩
    have y0 := cell_keep z0 hx5
    have y1 := cell_keep z1 hx5
    have HX5 := Lib.hid hx5
    clear z0 z1 hx5
    cases ins with
    | false =>
      have HX := Lib.hid (HB3.out.2.trans HX5.out)
      go_wp2
      go_ret
      exact ⟨rfl, HX.out⟩
    | true =>
    go_wp2_with fail
    refine (HVi.out w5 HX5.out).mono ?_
    rintro r6 w6 ⟨v6, rfl, ho, hx6⟩
    obtain ⟨ao, cap, rfl⟩ := ho.shape
    have HX6 := Lib.hid (HX5.out.trans hx6)
    clear ho hx6 y0 y1 HX5
    obtain ⟨vl, hvl⟩ : ∃ vl, vq.length = vl := ⟨_, rfl⟩
    rw [hvl]
    rcases Nat.eq_zero_or_pos vl with h0 | h0
    rotate_left
    · have h1 : (0 : Int) < (vl : Int) := by omega
      have HX := Lib.hid (HB3.out.2.trans HX6.out)
      go_wp2
      go_ret
      exact ⟨rfl, HX.out⟩
    subst h0
    obtain rfl := List.eq_nil_of_length_eq_zero hvl
    clear hvl
    obtain ⟨q1, q2⟩ := HQ.out trivial rfl
    have HQ2 := Lib.hid q2
    subst q1
    clear q2 HQ
    have z0 := cell_keep (cellq HB3.out.1 0 rfl) HX6.out
    have z1 := cell_keep (cellq HB3.out.1 1 rfl) HX6.out
    go_upto_region 5 with fail
    go_wp2_with fail
    refine (HBo.out w6 HX6.out).mono ?_
    intro r7 w7 hop
    obtain ⟨n5, a5, m5, c5, a5', m5', c5', rfl, h5, hx7⟩ := hop.open
    clear hop
    have hxb := hx7.alloc (.cells #[.bool n5, .slice a5 m5 c5, .slice a5' m5' c5'] 31)
    have hxc := (Ext.refl (fun _ => False) w7).alloc (.cells #[.bool n5, .slice a5 m5 c5, .slice a5' m5' c5'] 31)
    have HP7 := Lib.hid (And.intro (blk_keep HB3.out.1 (HX6.out.trans hxb)) (And.intro (boxR_new (W := w7) rfl n5 a5 m5 c5 a5' m5' c5') (And.intro (h5.keep hxc) (HX6.out.trans hxb))))
    clear hxb hxc h5 hx7 HX6 z0 z1 HVi HIs HBo
    go_upto_region 6 with fail
    generalize hw8 : w7.alloc (.cells #[.bool n5, .slice a5 m5 c5, .slice a5' m5' c5'] 31) = w8 at *
    clear hw8
    obtain ⟨bb, hbb⟩ : ∃ bb, w7.heap.size = bb := ⟨_, rfl⟩
    rw [hbb] at HP7 ⊢
    clear hbb
    obtain ⟨x0, x1, x2, -⟩ := HP7.out.2.1.facts
    have hS : S5 pb pb bb bb bb 0 1 0 1 2 (.slice vo vn vc) (.slice ro rn rc) (.bool n5) (.slice a5 m5 c5) (.slice a5' m5' c5') w8 := ⟨cellq HP7.out.1 0 rfl, cellq HP7.out.1 1 rfl, x0, x1, x2⟩
    have hX0 := HP7.out.2.2.2.drew
    have hY0 := (Ext.refl (fun _ => False) w8).drew
    clear x0 x1 x2
    cases bq with
    | none =>
      rw [show (none : Option Rat).isSome = false from rfl]
      refine wp_region_held_drew (S := (S5 pb pb bb bb bb 0 1 0 1 2 (.slice vo vn vc) (.slice ro rn rc) (.bool n5) (.slice a5 m5 c5) (.slice a5' m5' c5'))) (by kernel_rfl) (hS.drew) (fun hHeld => ?_)
      refine held_take 0 (v := ?_) rfl (by kernel_rfl) (by kernel_rfl) (by kernel_rfl) (fun _ _ _ h => h) (by rfl) ?_ (by assumption) ?_
      rotate_left
      · ((intro w hSw; (try dsimp only at hSw); go_simp) <;> with_reducible rfl)
      (try simp only [Act.put, List.setIfInBounds_toArray, List.set_cons_zero, List.set_cons_succ])
      refine held_take 1 (v := ?_) rfl (by kernel_rfl) (by kernel_rfl) (by kernel_rfl) (fun _ _ _ h => h) (by rfl) ?_ (by assumption) ?_
      rotate_left
      · ((intro w hSw; (try dsimp only at hSw); go_simp) <;> with_reducible rfl)
      (try simp only [Act.put, List.setIfInBounds_toArray, List.set_cons_zero, List.set_cons_succ])
      refine held_step 2 rfl (by kernel_rfl) (fun K hK => ?_)
      (go_simp; go_at_call 24; (with_reducible refine (HIn.out _ hX0).mono ?_); rintro q1 u1 ⟨rfl, hx1⟩; have hX1 := hX0.trans hx1; have hY1 := hY0.trans hx1; have hK1 := hS.keep hY1)
      refine hK.out _ _ (hK1) (fun hHeld => ?_)
      clear hK K
      (try simp only [Act.put, List.setIfInBounds_toArray, List.set_cons_zero, List.set_cons_succ])
      refine held_take 3 (v := ?_) rfl (by kernel_rfl) (by kernel_rfl) (by kernel_rfl) (fun _ _ _ h => h) (by rfl) ?_ (by assumption) ?_
      rotate_left
      · ((intro w hSw; (try dsimp only at hSw); go_simp) <;> with_reducible rfl)
      (try simp only [Act.put, List.setIfInBounds_toArray, List.set_cons_zero, List.set_cons_succ])
      refine held_take 4 (v := ?_) rfl (by kernel_rfl) (by kernel_rfl) (by kernel_rfl) (fun _ _ _ h => h) (by rfl) ?_ (by assumption) ?_
      rotate_left
      · ((intro w hSw; (try dsimp only at hSw); go_simp) <;> with_reducible rfl)
      (try simp only [Act.put, List.setIfInBounds_toArray, List.set_cons_zero, List.set_cons_succ])
      refine held_take 5 (v := ?_) rfl (by kernel_rfl) (by kernel_rfl) (by kernel_rfl) (fun _ _ _ h => h) (by rfl) ?_ (by assumption) ?_
      rotate_left
      · ((intro w hSw; (try dsimp only at hSw); go_simp) <;> with_reducible rfl)
      (try simp only [Act.put, List.setIfInBounds_toArray, List.set_cons_zero, List.set_cons_succ])
      refine held_take 6 (v := ?_) rfl (by kernel_rfl) (by kernel_rfl) (by kernel_rfl) (fun _ _ _ h => h) (by rfl) ?_ (by assumption) ?_
      rotate_left
      · ((intro w hSw; (try dsimp only at hSw); go_simp) <;> with_reducible rfl)
      (try simp only [Act.put, List.setIfInBounds_toArray, List.set_cons_zero, List.set_cons_succ])
      refine held_take 7 (v := ?_) rfl (by kernel_rfl) (by kernel_rfl) (by kernel_rfl) (fun _ _ _ h => h) (by rfl) ?_ (by assumption) ?_
      rotate_left
      · ((intro w hSw; (try dsimp only at hSw); go_simp) <;> with_reducible rfl)
      (try simp only [Act.put, List.setIfInBounds_toArray, List.set_cons_zero, List.set_cons_succ])
      refine held_skip 8 rfl (by kernel_rfl) (by kernel_rfl) (by kernel_rfl) (fun _ _ _ h => h) (by rfl) (by assumption) ?_
      (try simp only [Act.put, List.setIfInBounds_toArray, List.set_cons_zero, List.set_cons_succ])
      refine held_skip 9 rfl (by kernel_rfl) (by kernel_rfl) (by kernel_rfl) (fun _ _ _ h => h) (by rfl) (by assumption) ?_
      (try simp only [Act.put, List.setIfInBounds_toArray, List.set_cons_zero, List.set_cons_succ])
      refine held_skip 10 rfl (by kernel_rfl) (by kernel_rfl) (by kernel_rfl) (fun _ _ _ h => h) (by rfl) (by assumption) ?_
      (try simp only [Act.put, List.setIfInBounds_toArray, List.set_cons_zero, List.set_cons_succ])
      refine held_skip 11 rfl (by kernel_rfl) (by kernel_rfl) (by kernel_rfl) (fun _ _ _ h => h) (by rfl) (by assumption) ?_
      (try simp only [Act.put, List.setIfInBounds_toArray, List.set_cons_zero, List.set_cons_succ])
      refine held_skip 12 rfl (by kernel_rfl) (by kernel_rfl) (by kernel_rfl) (fun _ _ _ h => h) (by rfl) (by assumption) ?_
      (try simp only [Act.put, List.setIfInBounds_toArray, List.set_cons_zero, List.set_cons_succ])
      refine held_skip 13 rfl (by kernel_rfl) (by kernel_rfl) (by kernel_rfl) (fun _ _ _ h => h) (by rfl) (by assumption) ?_
      (try simp only [Act.put, List.setIfInBounds_toArray, List.set_cons_zero, List.set_cons_succ])
      refine held_take 14 (v := ?_) rfl (by kernel_rfl) (by kernel_rfl) (by kernel_rfl) (fun _ _ _ h => h) (by rfl) ?_ (by assumption) ?_
      rotate_left
      · ((intro w hSw; (try dsimp only at hSw); go_simp) <;> with_reducible rfl)
      (try simp only [Act.put, List.setIfInBounds_toArray, List.set_cons_zero, List.set_cons_succ])
      refine held_take 15 (v := ?_) rfl (by kernel_rfl) (by kernel_rfl) (by kernel_rfl) (fun _ _ _ h => h) (by rfl) ?_ (by assumption) ?_
      rotate_left
      · ((intro w hSw; (try dsimp only at hSw); go_simp) <;> with_reducible rfl)
      (try simp only [Act.put, List.setIfInBounds_toArray, List.set_cons_zero, List.set_cons_succ])
      refine held_take 16 (v := ?_) rfl (by kernel_rfl) (by kernel_rfl) (by kernel_rfl) (fun _ _ _ h => h) (by rfl) ?_ (by assumption) ?_
      rotate_left
      · ((intro w hSw; (try dsimp only at hSw); go_simp) <;> with_reducible rfl)
      (try simp only [Act.put, List.setIfInBounds_toArray, List.set_cons_zero, List.set_cons_succ])
      refine wpAnyH_done (by kernel_rfl) ?_ _
      have HX := Lib.hid (HB3.out.2.trans hX1)
      clear hX0 hX1 hK1 hS hY0 hY1 hHeld hx1 HQ2 HCo HCa HIn HP HP7
      go_wp2
      go_ret
      exact ⟨rfl, HX.out⟩
    | some b =>
      rw [show (some b : Option Rat).isSome = true from rfl]
      have HCm := Lib.hid (fun W u (hW : Ext (fun _ => False) w3 W) (hW8 : Ext (fun _ => False) w8 W) (hu : IsRat W u cq) => HCa.out W u _ b rfl hu (HP7.out.2.2.1.keep hW8))
      have hq := HQ2.out b rfl
      generalize (cq - b).num.sign = sg at *
      refine wp_region_held_drew (S := (S5 pb pb bb bb bb 0 1 0 1 2 (.slice vo vn vc) (.slice ro rn rc) (.bool n5) (.slice a5 m5 c5) (.slice a5' m5' c5'))) (by kernel_rfl) (hS.drew) (fun hHeld => ?_)
      refine held_take 0 (v := ?_) rfl (by kernel_rfl) (by kernel_rfl) (by kernel_rfl) (fun _ _ _ h => h) (by rfl) ?_ (by assumption) ?_
      rotate_left
      · ((intro w hSw; (try dsimp only at hSw); go_simp) <;> with_reducible rfl)
      (try simp only [Act.put, List.setIfInBounds_toArray, List.set_cons_zero, List.set_cons_succ])
      refine held_take 1 (v := ?_) rfl (by kernel_rfl) (by kernel_rfl) (by kernel_rfl) (fun _ _ _ h => h) (by rfl) ?_ (by assumption) ?_
      rotate_left
      · ((intro w hSw; (try dsimp only at hSw); go_simp) <;> with_reducible rfl)
      (try simp only [Act.put, List.setIfInBounds_toArray, List.set_cons_zero, List.set_cons_succ])
      refine held_step 2 rfl (by kernel_rfl) (fun K hK => ?_)
      (go_simp; go_at_call 24; (with_reducible refine (HIn.out _ hX0).mono ?_); rintro q1 u1 ⟨rfl, hx1⟩; have hX1 := hX0.trans hx1; have hY1 := hY0.trans hx1; have hK1 := hS.keep hY1)
      refine hK.out _ _ (hK1) (fun hHeld => ?_)
      clear hK K
      (try simp only [Act.put, List.setIfInBounds_toArray, List.set_cons_zero, List.set_cons_succ])
      refine held_take 3 (v := ?_) rfl (by kernel_rfl) (by kernel_rfl) (by kernel_rfl) (fun _ _ _ h => h) (by rfl) ?_ (by assumption) ?_
      rotate_left
      · ((intro w hSw; (try dsimp only at hSw); go_simp) <;> with_reducible rfl)
      (try simp only [Act.put, List.setIfInBounds_toArray, List.set_cons_zero, List.set_cons_succ])
      refine held_take 4 (v := ?_) rfl (by kernel_rfl) (by kernel_rfl) (by kernel_rfl) (fun _ _ _ h => h) (by rfl) ?_ (by assumption) ?_
      rotate_left
      · ((intro w hSw; (try dsimp only at hSw); go_simp) <;> with_reducible rfl)
      (try simp only [Act.put, List.setIfInBounds_toArray, List.set_cons_zero, List.set_cons_succ])
      refine held_take 5 (v := ?_) rfl (by kernel_rfl) (by kernel_rfl) (by kernel_rfl) (fun _ _ _ h => h) (by rfl) ?_ (by assumption) ?_
      rotate_left
      · ((intro w hSw; (try dsimp only at hSw); go_simp) <;> with_reducible rfl)
      (try simp only [Act.put, List.setIfInBounds_toArray, List.set_cons_zero, List.set_cons_succ])
      refine held_take 6 (v := ?_) rfl (by kernel_rfl) (by kernel_rfl) (by kernel_rfl) (fun _ _ _ h => h) (by rfl) ?_ (by assumption) ?_
      rotate_left
      · ((intro w hSw; (try dsimp only at hSw); go_simp) <;> with_reducible rfl)
      (try simp only [Act.put, List.setIfInBounds_toArray, List.set_cons_zero, List.set_cons_succ])
      refine held_take 7 (v := ?_) rfl (by kernel_rfl) (by kernel_rfl) (by kernel_rfl) (fun _ _ _ h => h) (by rfl) ?_ (by assumption) ?_
      rotate_left
      · ((intro w hSw; (try dsimp only at hSw); go_simp) <;> with_reducible rfl)
      (try simp only [Act.put, List.setIfInBounds_toArray, List.set_cons_zero, List.set_cons_succ])
      refine held_take 8 (v := ?_) rfl (by kernel_rfl) (by kernel_rfl) (by kernel_rfl) (fun _ _ _ h => h) (by rfl) ?_ (by assumption) ?_
      rotate_left
      · ((intro w hSw; (try dsimp only at hSw); go_simp) <;> with_reducible rfl)
      (try simp only [Act.put, List.setIfInBounds_toArray, List.set_cons_zero, List.set_cons_succ])
      refine held_take 9 (v := ?_) rfl (by kernel_rfl) (by kernel_rfl) (by kernel_rfl) (fun _ _ _ h => h) (by rfl) ?_ (by assumption) ?_
      rotate_left
      · ((intro w hSw; (try dsimp only at hSw); go_simp) <;> with_reducible rfl)
      (try simp only [Act.put, List.setIfInBounds_toArray, List.set_cons_zero, List.set_cons_succ])
      refine held_take 11 (v := ?_) rfl (by kernel_rfl) (by kernel_rfl) (by kernel_rfl) (fun _ _ _ h => h) (by rfl) ?_ (by assumption) ?_
      rotate_left
      · ((intro w hSw; (try dsimp only at hSw); go_simp) <;> with_reducible rfl)
      (try simp only [Act.put, List.setIfInBounds_toArray, List.set_cons_zero, List.set_cons_succ])
      refine held_step 10 rfl (by kernel_rfl) (fun K hK => ?_)
      (go_simp; go_at_call 26; (with_reducible refine (HCo.out _ hX1).mono ?_); rintro q2 u2 ⟨t2, rfl, ht2, hx2⟩; obtain ⟨m2, e2, l2, f2, e2', l2', f2', rfl⟩ := ht2.shape; have hC := HCm.out u2 _ (hX1.trans hx2) (hY1.trans hx2) ht2; have hX2 := hX1.trans hx2; have hY2 := hY1.trans hx2; have hK2 := hS.keep hY2)
      refine hK.out _ _ (hK2) (fun hHeld => ?_)
      clear hK K
      (try simp only [Act.put, List.setIfInBounds_toArray, List.set_cons_zero, List.set_cons_succ])
      refine held_step 12 rfl (by kernel_rfl) (fun K hK => ?_)
      (go_simp; go_at_call 25; (with_reducible refine (hC).mono ?_); rintro q3 u3 ⟨rfl, hx3⟩; have hX3 := hX2.trans hx3; have hY3 := hY2.trans hx3; have hK3 := hS.keep hY3)
      refine hK.out _ _ (hK3) (fun hHeld => ?_)
      clear hK K
      (try simp only [Act.put, List.setIfInBounds_toArray, List.set_cons_zero, List.set_cons_succ])
      refine held_take 13 (v := ?_) rfl (by kernel_rfl) (by kernel_rfl) (by kernel_rfl) (fun _ _ _ h => h) (by rfl) ?_ (by assumption) ?_
      rotate_left
      · ((intro w hSw; (try dsimp only at hSw); go_simp) <;> with_reducible rfl)
      (try simp only [Act.put, List.setIfInBounds_toArray, List.set_cons_zero, List.set_cons_succ])
      refine held_take 14 (v := ?_) rfl (by kernel_rfl) (by kernel_rfl) (by kernel_rfl) (fun _ _ _ h => h) (by rfl) ?_ (by assumption) ?_
      rotate_left
      · ((intro w hSw; (try dsimp only at hSw); go_simp) <;> with_reducible rfl)
      (try simp only [Act.put, List.setIfInBounds_toArray, List.set_cons_zero, List.set_cons_succ])
      refine held_take 15 (v := ?_) rfl (by kernel_rfl) (by kernel_rfl) (by kernel_rfl) (fun _ _ _ h => h) (by rfl) ?_ (by assumption) ?_
      rotate_left
      · ((intro w hSw; (try dsimp only at hSw); go_simp) <;> with_reducible rfl)
      (try simp only [Act.put, List.setIfInBounds_toArray, List.set_cons_zero, List.set_cons_succ])
      refine held_take 16 (v := ?_) rfl (by kernel_rfl) (by kernel_rfl) (by kernel_rfl) (fun _ _ _ h => h) (by rfl) ?_ (by assumption) ?_
      rotate_left
      · ((intro w hSw; (try dsimp only at hSw); go_simp) <;> with_reducible rfl)
      (try simp only [Act.put, List.setIfInBounds_toArray, List.set_cons_zero, List.set_cons_succ])
      refine wpAnyH_done (by kernel_rfl) ?_ _
      have HX := Lib.hid (HB3.out.2.trans hX3)
      clear hX0 hX1 hX2 hX3 hY2 hY3 hK1 hK2 hK3 hS hY0 hY1 hHeld hx1 hx2 hx3 HQ2 HCo HCa HCm HIn HP HP7
      go_wp2
      go_ret
      exact ⟨rfl, HX.out⟩
end Go.Proofs.YtbgienfcmdgaaaaGreat
/-
  A proof of infeasibility stays one: rows without a multiplier do not count, and narrower bounds keep it. Conditions: none beyond each lemma's own.
-/
namespace Go.Proofs.YtbgienfcmdgaaaaGreat
theorem sumTo_extend {f : Nat → Rat} {m : Nat} : ∀ {n : Nat}, m ≤ n → (∀ i, m ≤ i → i < n → f i = 0) → sumTo n f = sumTo m f
  | 0, h, _ => by obtain rfl : m = 0 := by omega
                  rfl
  | n + 1, h, hz => by
    by_cases e : m = n + 1
    · subst e; rfl
    · show sumTo n f + f n = _
      rw [sumTo_extend (n := n) (by omega) (fun i h1 h2 => hz i h1 (by omega)), hz n (by omega) (by omega)]
      grind
theorem sign_of_zero (k : Int) : signB k 0 = true := by
  unfold signB
  rw [decide_eq_false (p := ((0 : Rat) < 0)) (by grind)]
  simp
/-- what may change in a program -/
structure Stays (p q : ProgV) (y : List Rat) : Prop where
  valid : validB q = true
  vars : q.vars.length = p.vars.length
  rows : p.rows.length ≤ q.rows.length
  same : ∀ i, i < p.rows.length → atQ y i = 0 ∨ q.r i = p.r i
  more : ∀ i : Nat, p.rows.length ≤ i → i < q.rows.length → atQ y i = 0
  op : ∀ i, i < p.vars.length → (q.v i).op = (p.v i).op
  up : ∀ i, i < p.vars.length → (q.v i).up = (p.v i).up
  lo : ∀ i, i < p.vars.length → (p.v i).lo ≤ (q.v i).lo
theorem Stays.combA {p q : ProgV} {y : List Rat} (h : Stays p q y) (j : Nat) : combA q y j = combA p y j := by
  unfold Proofs.YtbgienfcmdgaaaaGreat.combA
  rw [sumTo_extend h.rows (fun i h1 h2 => sumTo_zero' (fun k _ => by rw [h.more i h1 h2]; split <;> grind))]
  refine sumTo_congr fun i hi => ?_
  rcases h.same i hi with e | e
  · rw [sumTo_zero' (fun k _ => by rw [e]; split <;> grind), sumTo_zero' (fun k _ => by rw [e]; split <;> grind)]
  · rw [e]
theorem Stays.combB {p q : ProgV} {y : List Rat} (h : Stays p q y) : combB q y = combB p y := by
  unfold Proofs.YtbgienfcmdgaaaaGreat.combB
  rw [sumTo_extend h.rows (fun i h1 h2 => by rw [h.more i h1 h2]; grind)]
  refine sumTo_congr fun i hi => ?_
  rcases h.same i hi with e | e
  · rw [e]; grind
  · rw [e]
theorem Stays.signed {p q : ProgV} {y : List Rat} (h : Stays p q y) (hs : signedB p y = true) : signedB q y = true := by
  refine allTo_iff.2 fun i hi => ?_
  by_cases h1 : i < p.rows.length
  · rcases h.same i h1 with e | e
    · rw [e]; exact sign_of_zero _
    · rw [e]; exact allTo_iff.1 hs i h1
  · rw [h.more i (by omega) hi]; exact sign_of_zero _
theorem Stays.empty {p q : ProgV} {y : List Rat} (h : Stays p q y) (he : emptyB p = true) : emptyB q = true := by
  cases hq : emptyB q with
  | true => rfl
  | false =>
    unfold emptyB at he hq
    have h1 : allTo q.vars.length (fun i => (q.v i).op || decide ((q.v i).lo ≤ (q.v i).up)) = true := by simpa using hq
    have h2 : allTo p.vars.length (fun i => (p.v i).op || decide ((p.v i).lo ≤ (p.v i).up)) = true := allTo_iff.2 fun i hi => by
      have := allTo_iff.1 h1 i (by rw [h.vars]; exact hi)
      rw [h.op i hi, h.up i hi] at this
      have hl := h.lo i hi
      simp only [Bool.or_eq_true, decide_eq_true_eq] at this ⊢
      rcases this with e | e
      · exact .inl e
      · exact .inr (by omega)
    rw [h2] at he
    cases he
theorem Stays.least {p q : ProgV} {y c : List Rat} (h : Stays p q y) {l : Rat} (hl : leastQ p c = some l) (he : emptyB q = false) : ∃ l', leastQ q c = some l' ∧ l ≤ l' := by
  obtain ⟨h1, h2, rfl⟩ := least_some hl
  refine ⟨leastS q c, ?_, ?_⟩
  · unfold leastQ
    have h3 : lowB q c = true := allTo_iff.2 fun i hi => by
      rw [h.vars] at hi
      rw [h.op i hi]
      exact allTo_iff.1 h2 i hi
    rw [he, h3]; rfl
  · unfold leastS
    rw [h.vars]
    refine sumTo_le fun i hi => ?_
    unfold pickQ
    by_cases hc : atQ c i < 0
    · rw [if_pos hc, if_pos hc, h.up i hi]; exact Rat.le_refl
    · rw [if_neg hc, if_neg hc]
      have h4 : ((p.v i).lo : Rat) ≤ ((q.v i).lo : Rat) := by exact_mod_cast h.lo i hi
      have h5 : 0 ≤ atQ c i := Rat.not_lt.1 hc
      have := mul_le_pos h4 h5
      grind
theorem Stays.inf {p q : ProgV} {y : List Rat} (h : Stays p q y) (hi : infB p y = true) : infB q y = true := by
  unfold infB at hi ⊢
  simp only [Bool.and_eq_true] at hi ⊢
  obtain ⟨⟨hv, hs⟩, h0⟩ := hi
  refine ⟨⟨h.valid, h.signed hs⟩, ?_⟩
  cases he : emptyB q with
  | true => rfl
  | false =>
    have hp : emptyB p = false := by
      cases hp : emptyB p with
      | false => rfl
      | true => rw [h.empty hp] at he; cases he
    rw [hp, Bool.false_or] at h0
    rw [Bool.false_or]
    have hc : (listTo q.vars.length fun i => -Proofs.YtbgienfcmdgaaaaGreat.combA q y i) = listTo p.vars.length fun i => -Proofs.YtbgienfcmdgaaaaGreat.combA p y i := by
      rw [h.vars]; congr 1; funext i; rw [h.combA]
    rw [hc, h.combB]
    split at h0
    · rename_i l hl
      obtain ⟨l', hl', hle⟩ := h.least hl he
      rw [hl']
      simp only [decide_eq_true_eq] at h0 ⊢
      grind
    · cases h0
end Go.Proofs.YtbgienfcmdgaaaaGreat
/-
  Rows of structs of five cells that a call owns: append from any slice, stores. Conditions: none beyond each lemma's own.
-/
namespace Go.Proofs.YtbgienfcmdgaaaaGreat
open Go.RowKit Go.MapKept
open Go.ChangeMaps (setBlock)

section
variable {β : Type} {f : β → List Value} {T : TypeId}
/-- a row of the call's own, whose elements have five cells -/
def SOwn (f : β → List Value) (T : TypeId) (w : World) (base : Nat) (v : Value) (l : List β) : Prop := w.ownsRow base T 5 v l.length (l.flatMap f)
theorem SOwn.keep {w w' : World} {base : Nat} {v : Value} {l : List β} (h : SOwn f T w base v l) (hx : Ext (fun _ => False) w w') : SOwn f T w' base v l := ownsRow_ext h hx (fun _ _ h => h)
theorem SOwn.lt {w : World} {base : Nat} {v : Value} {l : List β} (h : SOwn f T w base v l) : ∀ g, v.ownBlock = some g → base ≤ g ∧ g < w.heap.size := World.ownsRow.lt h
theorem SOwn.shape {w : World} {base : Nat} {v : Value} {l : List β} (h : SOwn f T w base v l) : ∃ ao cap, v = .slice ao l.length cap := ownsRow_shape h
theorem SOwn.empty {w : World} {g base : Nat} (h : blk w g = some (.cells #[] T (0, 0))) (hb : base ≤ g) : SOwn f T w base (.slice (some ⟨g, 0, none⟩) 0 0) [] := ownsRow_empty 5 hb h
/-- the elements of a block -/
def SArr (f : β → List Value) (T : TypeId) (w : World) (g : Nat) (l : List β) : Prop := ∃ cur, blk w g = some (.cells cur T (0, 0)) ∧ ∀ k x, l[k]? = some x → ∀ j, j < 5 → cur[k * 5 + j]? = (f x)[j]?
theorem SArr.keep {w w' : World} {g : Nat} {l : List β} (h : SArr f T w g l) (hx : Ext (fun _ => False) w w') : SArr f T w' g l := by
  obtain ⟨cur, h1, h2⟩ := h
  exact ⟨cur, blk_keep h1 hx, h2⟩
theorem SArr.past {S : Nat → Prop} {w w' : World} {g : Nat} {l : List β} (h : SArr f T w g l) (hx : Ext S w w') (hn : ¬ S g) : SArr f T w' g l := by
  obtain ⟨cur, h1, h2⟩ := h
  exact ⟨cur, (hx.blk (blk_lt h1) hn).trans h1, h2⟩
theorem SArr.cell {w : World} {g : Nat} {l : List β} (hf : ∀ x, (f x).length = 5) (h : SArr f T w g l) {k : Nat} {x : β} (hk : l[k]? = some x) {j : Nat} {u : Value} (hu : (f x)[j]? = some u) : w.cell? ⟨g, k * 5 + j, none⟩ = some u ∧ w.frozen? ⟨g, k * 5 + j, none⟩ = false := by
  obtain ⟨cur, h1, h2⟩ := h
  have hj : j < 5 := by rw [← hf x]; exact (List.getElem?_eq_some_iff.1 hu).1
  exact ⟨by rw [cell_of_cells h1, h2 k x hk j hj]; exact hu, free_of_cells h1 _⟩
theorem SArr.sl {w : World} {g : Nat} {l : List β} {c : Nat} (hf : ∀ x, (f x).length = 5) (h : SArr f T w g l) (hc : l.length ≤ c) (hm : c ≤ maxLen) : Sl w (.slice (some ⟨g, 0, none⟩) l.length c) 5 (l.map f) := by
  refine ⟨some ⟨g, 0, none⟩, c, by rw [List.length_map], by rw [List.length_map]; exact hc, hm, (fun e => by cases e), fun _ => ⟨g, 0, rfl, ?_, fun i r hi j u hu => ?_⟩⟩
  · obtain ⟨cur, h1, _⟩ := h; exact blk_lt h1
  · rw [List.getElem?_map] at hi
    obtain ⟨x, hx, rfl⟩ := Option.map_eq_some_iff.1 hi
    rw [Nat.zero_add]
    exact (h.cell hf hx hu).1
theorem SOwn.arr {w : World} {base : Nat} {ao : Option Addr} {n c : Nat} {l : List β} (hf : ∀ x, (f x).length = 5) (h : SOwn f T w base (.slice ao n c) l) : (n = 0 ∧ l = [] ∧ (ao = none → c = 0) ∧ c ≤ maxLen) ∨ ∃ g, ao = some ⟨g, 0, none⟩ ∧ base ≤ g ∧ n = l.length ∧ n ≤ c ∧ c ≤ maxLen ∧ SArr f T w g l := by
  rcases h.2 with ⟨e, h0⟩ | ⟨g, cap, cur, e, hb, hg, hnc, hcm, hcs, htake⟩
  · cases e
    exact .inl ⟨rfl, List.eq_nil_of_length_eq_zero h0, fun _ => rfl, Nat.zero_le _⟩
  · cases e
    refine .inr ⟨g, rfl, hb, rfl, hnc, hcm, cur, hg, fun k x hk j hj => ?_⟩
    have hkl : k < l.length := (List.getElem?_eq_some_iff.1 hk).1
    have hget := fm_get (f := f) (m := 5) hf l k hk j hj
    rw [← htake, List.getElem?_take, if_pos (by omega), Array.getElem?_toList] at hget
    exact hget
theorem SOwn.sl {w : World} {base : Nat} {v : Value} {l : List β} (hf : ∀ x, (f x).length = 5) (h : SOwn f T w base v l) : Sl w v 5 (l.map f) := by
  obtain ⟨ao, cap, rfl⟩ := h.shape
  rcases h.arr hf with ⟨h0, rfl, hc, hm⟩ | ⟨g, rfl, _, _, h1, h2, h3⟩
  · exact ⟨ao, cap, rfl, Nat.zero_le _, hm, hc, fun h => absurd h (Nat.lt_irrefl 0)⟩
  · exact h3.sl hf h1 h2
theorem SArr.set1 {w : World} {g : Nat} {l : List β} {k j : Nat} {x y : β} {u : Value} (h : SArr f T w g l) (hk : l[k]? = some x) (hj : j < 5) (hin : k * 5 + j < (match blk w g with | some (.cells cur _ _) => cur.size | _ => 0)) (hy : ∀ i, (f y)[i]? = if i = j then some u else (f x)[i]?) : SArr f T (w.setCell ⟨g, k * 5 + j, none⟩ u) g (l.set k y) := by
  obtain ⟨cur, h1, h2⟩ := h
  rw [h1] at hin
  refine ⟨_, blk_setCell_same h1 (k * 5 + j) u, fun k' x' hk' j' hj' => ?_⟩
  rw [Array.getElem?_setIfInBounds]
  by_cases e : k' = k
  · subst e
    rw [List.getElem?_set_self (List.getElem?_eq_some_iff.1 hk).1] at hk'
    cases hk'
    rw [hy j']
    by_cases e2 : j' = j
    · subst e2; rw [if_pos rfl, if_pos rfl, if_pos hin]
    · rw [if_neg (by omega), if_neg e2]; exact h2 k' x hk j' hj'
  · rw [List.getElem?_set_ne (Ne.symm e)] at hk'
    rw [if_neg (by omega)]
    exact h2 k' x' hk' j' hj'
end
end Go.Proofs.YtbgienfcmdgaaaaGreat
/-
  A program that is put together in any order: what stands in between. Conditions: none beyond each lemma's own.
-/
namespace Go.Proofs.YtbgienfcmdgaaaaGreat
open Go.RowKit Go.MapKept
open Go.ChangeMaps (setBlock)

/-- a row and the slice of its terms -/
abbrev RT := RowV × Value
def cRT (y : RT) : List Value := cR y.1 y.2
theorem cV_len (x : VarV) : (cV x).length = 5 := rfl
theorem cRT_len (x : RT) : (cRT x).length = 5 := rfl
/-- the block that a slice or a pointer names -/
def blOf : Value → Option Nat
  | .slice (some a) _ _ => some a.block
  | .pointer (some a) => some a.block
  | _ => none
theorem blOf_own {v : Value} {ao : Option Addr} {n c : Nat} (h : v = .slice ao n c) : blOf v = v.ownBlock := by
  subst h
  cases ao <;> rfl
def Asunder (u v : Value) : Prop := ∀ g, blOf u = some g → blOf v = some g → False
theorem Asunder.undef_left (v : Value) : Asunder undef v := fun g h => by cases h
theorem Asunder.undef_right (v : Value) : Asunder v undef := fun g _ h => by cases h
theorem Asunder.symm {u v : Value} (h : Asunder u v) : Asunder v u := fun g h1 h2 => h g h2 h1
/-- what is there so far: variables, rows, the row to come, the box -/
structure Half (B : Nat) (y : RT) (oa : Option (List VarV)) (ob : Option (List RT)) (c d : Bool) (w5 w : World) (vA vB vC vD : Value) : Prop where
  ext : Ext (fun _ => False) w5 w
  base : B ≤ w5.heap.size
  old : w5.heap.size ≤ B
  a : ∀ l, oa = some l → SOwn cV 63 w B vA l
  b : ∀ l, ob = some l → SOwn cRT 58 w B vB l
  c : c = true → ∃ g, vC = .slice (some ⟨g, 0, none⟩) 1 1 ∧ SArr cRT 58 w g [y]
  d : d = true → ∃ g, vD = .pointer (some ⟨g, 0, none⟩) ∧ B ≤ g ∧ blk w g = some (.cells #[.slice none 0 0, .slice none 0 0] 25 (0, 0))
  lA : ∀ g, blOf vA = some g → g < w.heap.size
  lB : ∀ g, blOf vB = some g → g < w.heap.size
  lC : ∀ g, blOf vC = some g → g < w.heap.size
  lD : ∀ g, blOf vD = some g → g < w.heap.size
  ab : Asunder vA vB
  ac : Asunder vA vC
  ad : Asunder vA vD
  bc : Asunder vB vC
  bd : Asunder vB vD
  cd : Asunder vC vD
theorem Half.start (y : RT) (w5 : World) : Half w5.heap.size y none none false false w5 w5 undef undef undef undef :=
  ⟨Ext.refl _ _, Nat.le_refl _, Nat.le_refl _, (fun l h => by cases h), (fun l h => by cases h), (fun h => by cases h), (fun h => by cases h), (fun g h => by cases h), (fun g h => by cases h), (fun g h => by cases h), (fun g h => by cases h), Asunder.undef_left _, Asunder.undef_left _, Asunder.undef_left _, Asunder.undef_left _, Asunder.undef_left _, Asunder.undef_left _⟩
section
variable {B : Nat} {y : RT} {oa : Option (List VarV)} {ob : Option (List RT)} {c d : Bool} {w5 w w' : World} {vA vB vC vD : Value}
theorem apart_new {v : Value} {u : Value} {g : Nat} (hu : blOf u = some g) (hl : ∀ k, blOf v = some k → k < g) : Asunder u v := fun k h1 h2 => by
  rw [hu] at h1
  cases h1
  exact absurd (hl g h2) (Nat.lt_irrefl g)
theorem Half.keep (h : Half B y oa ob c d w5 w vA vB vC vD) (hx : Ext (fun _ => False) w w') : Half B y oa ob c d w5 w' vA vB vC vD :=
  ⟨h.ext.trans hx, h.base, h.old, fun l e => (h.a l e).keep hx, fun l e => (h.b l e).keep hx, fun e => (by obtain ⟨g, h1, h2⟩ := h.c e; exact ⟨g, h1, h2.keep hx⟩), fun e => (by obtain ⟨g, h1, h2, h3⟩ := h.d e; exact ⟨g, h1, h2, blk_keep h3 hx⟩),
    fun g e => Nat.lt_of_lt_of_le (h.lA g e) hx.size, fun g e => Nat.lt_of_lt_of_le (h.lB g e) hx.size, fun g e => Nat.lt_of_lt_of_le (h.lC g e) hx.size, fun g e => Nat.lt_of_lt_of_le (h.lD g e) hx.size, h.ab, h.ac, h.ad, h.bc, h.bd, h.cd⟩
theorem Half.heap (h : Half B y oa ob c d w5 w vA vB vC vD) : B ≤ w.heap.size := by have := h.ext.size; have := h.base; omega
theorem Half.allocA (h : Half B y none ob c d w5 w vA vB vC vD) : Half B y (some []) ob c d w5 (w.alloc (.cells #[] 63)) (.slice (some ⟨w.heap.size, 0, none⟩) 0 0) vB vC vD := by
  have k := h.keep ((Ext.refl (fun _ => False) w).alloc (.cells #[] 63))
  exact ⟨k.ext, k.base, k.old, fun l e => (by cases e; exact SOwn.empty (blk_alloc_at _ _) h.heap), k.b, k.c, k.d, fun g e => (by cases e; simp), k.lB, k.lC, k.lD, apart_new rfl h.lB, apart_new rfl h.lC, apart_new rfl h.lD, k.bc, k.bd, k.cd⟩
theorem Half.allocB (h : Half B y oa none c d w5 w vA vB vC vD) : Half B y oa (some []) c d w5 (w.alloc (.cells #[] 58)) vA (.slice (some ⟨w.heap.size, 0, none⟩) 0 0) vC vD := by
  have k := h.keep ((Ext.refl (fun _ => False) w).alloc (.cells #[] 58))
  exact ⟨k.ext, k.base, k.old, k.a, fun l e => (by cases e; exact SOwn.empty (blk_alloc_at _ _) h.heap), k.c, k.d, k.lA, fun g e => (by cases e; simp), k.lC, k.lD, (apart_new rfl h.lA).symm, k.ac, k.ad, apart_new rfl h.lC, apart_new rfl h.lD, k.cd⟩
theorem Half.allocC (h : Half B y oa ob false d w5 w vA vB vC vD) : Half B y oa ob true d w5 (w.alloc (.cells (cRT y).toArray 58)) vA vB (.slice (some ⟨w.heap.size, 0, none⟩) 1 1) vD := by
  have k := h.keep ((Ext.refl (fun _ => False) w).alloc (.cells (cRT y).toArray 58))
  refine ⟨k.ext, k.base, k.old, k.a, k.b, fun _ => ⟨_, rfl, _, blk_alloc_at _ _, fun i x hi j hj => ?_⟩, k.d, k.lA, k.lB, fun g e => (by cases e; simp), k.lD, k.ab, (apart_new rfl h.lA).symm, k.ad, (apart_new rfl h.lB).symm, k.bd, apart_new rfl h.lD⟩
  match i, hi with
  | 0, hi => cases hi; simp
theorem Half.allocD (h : Half B y oa ob c false w5 w vA vB vC vD) : Half B y oa ob c true w5 (w.alloc (.cells #[.slice none 0 0, .slice none 0 0] 25)) vA vB vC (.pointer (some ⟨w.heap.size, 0, none⟩)) := by
  have k := h.keep ((Ext.refl (fun _ => False) w).alloc (.cells #[.slice none 0 0, .slice none 0 0] 25))
  exact ⟨k.ext, k.base, k.old, k.a, k.b, k.c, fun _ => ⟨_, rfl, h.heap, blk_alloc_at _ _⟩, k.lA, k.lB, k.lC, fun g e => (by cases e; simp), k.ab, k.ac, (apart_new rfl h.lA).symm, k.bc, (apart_new rfl h.lB).symm, (apart_new rfl h.lC).symm⟩
theorem apart_grown {v v' u : Value} {ao : Option Addr} {n cc : Nat} {ao' : Option Addr} {n' cc' : Nat} (hv : v = .slice ao n cc) (hv' : v' = .slice ao' n' cc') (h : Asunder v u) (hl : ∀ k, blOf u = some k → k < w.heap.size) (hg : v'.ownBlock = v.ownBlock ∨ v'.ownBlock = some w.heap.size) : Asunder v' u := fun g h1 h2 => by
  rw [blOf_own hv'] at h1
  rcases hg with e | e
  · rw [e, ← blOf_own hv] at h1; exact h g h1 h2
  · rw [e] at h1; cases h1; exact absurd (hl _ h2) (Nat.lt_irrefl _)
theorem not_own {v u : Value} {ao : Option Addr} {n cc : Nat} (hv : v = .slice ao n cc) (h : Asunder v u) {g : Nat} (hu : blOf u = some g) : ¬ v.ownBlock = some g := fun e => h g (by rw [blOf_own hv]; exact e) hu
theorem Half.growA {l l' : List VarV} {v' : Value} (h : Half B y (some l) ob c d w5 w vA vB vC vD) (hn : SOwn cV 63 w' B v' l') (hx : Ext (fun k => vA.ownBlock = some k) w w') (hg : v'.ownBlock = vA.ownBlock ∨ v'.ownBlock = some w.heap.size) : Half B y (some l') ob c d w5 w' v' vB vC vD := by
  have hA := h.a l rfl
  obtain ⟨ao, cap, eA⟩ := hA.shape
  obtain ⟨ao', cap', eA'⟩ := hn.shape
  have hlt := hA.lt
  refine ⟨h.ext.own hx (fun k e => by have := (hlt k e).1; have := h.old; omega), h.base, h.old, fun l'' e => (by cases e; exact hn), fun l'' e => ?_, fun e => ?_, fun e => ?_, fun g e => (hn.lt g (by rw [← blOf_own eA']; exact e)).2, fun g e => Nat.lt_of_lt_of_le (h.lB g e) hx.size, fun g e => Nat.lt_of_lt_of_le (h.lC g e) hx.size, fun g e => Nat.lt_of_lt_of_le (h.lD g e) hx.size,
    apart_grown eA eA' h.ab h.lB hg, apart_grown eA eA' h.ac h.lC hg, apart_grown eA eA' h.ad h.lD hg, h.bc, h.bd, h.cd⟩
  · have hB := h.b l'' e
    obtain ⟨bo, bc, eB⟩ := hB.shape
    exact ownsRow_ext hB hx (fun g hg' e' => not_own eA h.ab (g := g) (by rw [blOf_own eB]; exact hg') e')
  · obtain ⟨g, e1, e2⟩ := h.c e
    exact ⟨g, e1, e2.past hx (not_own eA h.ac (by rw [e1]; rfl))⟩
  · obtain ⟨g, e1, e2, e3⟩ := h.d e
    exact ⟨g, e1, e2, (hx.blk (blk_lt e3) (not_own eA h.ad (by rw [e1]; rfl))).trans e3⟩
theorem Half.growB {l l' : List RT} {v' : Value} (h : Half B y oa (some l) c d w5 w vA vB vC vD) (hn : SOwn cRT 58 w' B v' l') (hx : Ext (fun k => vB.ownBlock = some k) w w') (hg : v'.ownBlock = vB.ownBlock ∨ v'.ownBlock = some w.heap.size) : Half B y oa (some l') c d w5 w' vA v' vC vD := by
  have hB := h.b l rfl
  obtain ⟨ao, cap, eB⟩ := hB.shape
  obtain ⟨ao', cap', eB'⟩ := hn.shape
  have hlt := hB.lt
  refine ⟨h.ext.own hx (fun k e => by have := (hlt k e).1; have := h.old; omega), h.base, h.old, fun l'' e => ?_, fun l'' e => (by cases e; exact hn), fun e => ?_, fun e => ?_, fun g e => Nat.lt_of_lt_of_le (h.lA g e) hx.size, fun g e => (hn.lt g (by rw [← blOf_own eB']; exact e)).2, fun g e => Nat.lt_of_lt_of_le (h.lC g e) hx.size, fun g e => Nat.lt_of_lt_of_le (h.lD g e) hx.size,
    (apart_grown eB eB' h.ab.symm h.lA hg).symm, h.ac, h.ad, apart_grown eB eB' h.bc h.lC hg, apart_grown eB eB' h.bd h.lD hg, h.cd⟩
  · have hA := h.a l'' e
    obtain ⟨bo, bc, eA⟩ := hA.shape
    exact ownsRow_ext hA hx (fun g hg' e' => not_own eB h.ab.symm (g := g) (by rw [blOf_own eA]; exact hg') e')
  · obtain ⟨g, e1, e2⟩ := h.c e
    exact ⟨g, e1, e2.past hx (not_own eB h.bc (by rw [e1]; rfl))⟩
  · obtain ⟨g, e1, e2, e3⟩ := h.d e
    exact ⟨g, e1, e2, (hx.blk (blk_lt e3) (not_own eB h.bd (by rw [e1]; rfl))).trans e3⟩
end
end Go.Proofs.YtbgienfcmdgaaaaGreat
/-
  Append of a slice of structs to a row of one's own; a drawn region by an invariant. Conditions: none beyond each lemma's own.
-/
namespace Go.Proofs.YtbgienfcmdgaaaaGreat
open Go.RowKit Go.MapKept
open Go.ChangeMaps (setBlock)

theorem Tryz.infoVar : (Tryz.prog.info? 63).map (fun i => (i.zero, i.size, i.bytes)) = some (some (.agg #[.int .i64 0, .int .i64 0, .bool false, .bool false, .int .i64 0]), 5, 32) := by kernel_rfl
theorem Tryz.infoRow : (Tryz.prog.info? 58).map (fun i => (i.zero, i.size, i.bytes)) = some (some (.agg #[.string ⟨#[]⟩, .int .i64 0, .int .i64 0, .slice none 0 0, .int .i64 0]), 5, 64) := by kernel_rfl
section
variable {β : Type} {f : β → List Value} {T ts : TypeId}
theorem Sl.lies {w : World} {ao : Option Addr} {n c : Nat} {l : List β} (hf : ∀ x, (f x).length = 5) (h : Sl w (.slice ao n c) 5 (l.map f)) : n = l.length ∧ (ao = none → c = 0) ∧ Lies w ao l.length (l.flatMap f) := by
  obtain ⟨ao', c', e, h1, h2, h3, h4⟩ := h
  cases e
  rw [List.length_map] at h4 ⊢
  refine ⟨rfl, h3, ?_⟩
  by_cases h0 : l.length = 0
  · exact .inl h0
  · obtain ⟨b, off, rfl, hb, hc⟩ := h4 (by omega)
    refine .inr ⟨_, rfl, fun j u hu => ?_⟩
    have hj : j < l.length * 5 := by
      have := (List.getElem?_eq_some_iff.1 hu).1
      rwa [fm_length hf] at this
    have hi : j / 5 < l.length := by omega
    have hr : j % 5 < 5 := Nat.mod_lt _ (by decide)
    have hg := fm_get (f := f) (m := 5) hf l (j / 5) (List.getElem?_eq_getElem hi) (j % 5) hr
    rw [show j / 5 * 5 + j % 5 = j from by omega] at hg
    have := hc (j / 5) _ (by rw [List.getElem?_map, List.getElem?_eq_getElem hi]; rfl) (j % 5) u (hg.symm.trans hu)
    rw [show off + j / 5 * 5 + j % 5 = off + j from by omega] at this
    simpa [Addr.add_lit] using this
theorem step_append_sown {w : World} {ops : Array Oper} {o : Oper} {a : Act} {K : Act → World → Prop} {Q : Exit → Act → World → Prop} {E : Prop} {z : Value} {bytes : Nat} (hf : ∀ x, (f x).length = 5) (l2 : List β) (h1 : ∀ x ∈ l2, ∀ u ∈ f x, u.oneCell' = true) (ht : Tryz.prog.underlying ts = some (.slice T)) (hi : (Tryz.prog.info? T).map (fun i => (i.zero, i.size, i.bytes)) = some (some z, 5, bytes)) (hz : z.cells.size = 5) (hbs : bytes ≤ 1000) (hgd : o.guard = none) (s x : Operand)
    (ho : o.op = .call { callee := .builtin .append, args := #[s, x], argTypes := #[ts, ts] })
    (base : Nat) (v : Value) (l : List β) (hs : a.eval s = v) (hown : SOwn f T w base v l) (ao : Option Addr) (n c : Nat) (hsl : Sl w (.slice ao n c) 5 (l2.map f)) (hx : a.eval x = .slice ao n c) (hl : l.length + l2.length ≤ 1000) (hbase : base ≤ w.heap.size)
    (h : ∀ v' w', SOwn f T w' base v' (l ++ l2) → Ext (fun k => v.ownBlock = some k) w w' → (v'.ownBlock = v.ownBlock ∨ v'.ownBlock = some w.heap.size) → K (a.put o.dst v') w') :
    if Region.wanted o (yielded ops a.tmps) = true then Oper.wp Tryz.prog o a w K Q else E := by
  obtain ⟨i0, hi0, hz0, hz1, hz2⟩ := info_parts hi
  obtain ⟨rfl, hc, hnews⟩ := hsl.lies hf
  refine step_append_any hgd s x ts ho base T i0 z 5 bytes ht hi0 hz0 hz1 hz2 hz (by decide) v l.length (l.flatMap f) hs hown ao l2.length c hc (l2.flatMap f) hx (fm_length hf l2) hnews (fun u hu => ?_) (by unfold maxLen; omega) (Nat.le_trans (Nat.mul_le_mul hl hbs) (by decide)) hbase (fun v' w' g1 g2 g3 => h v' w' ?_ ?_ g3)
  · obtain ⟨x, hm, hu⟩ := List.mem_flatMap.1 hu
    exact h1 x hm u hu
  · unfold SOwn
    rw [List.length_append, List.flatMap_append]
    exact g1
  · exact (Ext.refl (fun k => v.ownBlock = some k) w).grown g2 (fun k hk _ => hk)
end
theorem cV_one (x : VarV) : ∀ u ∈ cV x, u.oneCell' = true := fun u hu => by
  simp [cV] at hu
  rcases hu with rfl | rfl | rfl | rfl | rfl <;> rfl
theorem cRT_one {y : RT} {ao : Option Addr} {n c : Nat} (h : y.2 = .slice ao n c) : ∀ u ∈ cRT y, u.oneCell' = true := fun u hu => by
  simp [cRT, cR] at hu
  rcases hu with rfl | rfl | rfl | rfl | rfl <;> first | rfl | (rw [h]; rfl)
theorem Rws.pairs {w : World} {v : Value} {l : List RowV} (h : Rws w v l) : ∃ prs : List RT, prs.map (·.1) = l ∧ Sl w v 5 (prs.map cRT) ∧ ∀ y ∈ prs, Tms w y.2 y.1.terms ∧ RowOk y.1 := by
  obtain ⟨tvs, h1, h2, h3⟩ := h
  refine ⟨l.zip tvs, ?_, ?_, fun y hy => ?_⟩
  · rw [List.map_fst_zip (by omega)]
  · have : (l.zip tvs).map cRT = List.zipWith cR l tvs := by
      rw [List.zip_eq_zipWith, List.map_zipWith]; rfl
    rw [this]; exact h2
  · obtain ⟨i, hi, rfl⟩ := List.getElem_of_mem hy
    rw [List.getElem_zip]
    have hl : i < l.length ∧ i < tvs.length := by rw [List.length_zip] at hi; omega
    exact h3 i _ _ (List.getElem?_eq_getElem hl.1) (List.getElem?_eq_getElem hl.2)
theorem Rws.ofPairs {w : World} {v : Value} {prs : List RT} (h : Sl w v 5 (prs.map cRT)) (hT : ∀ y ∈ prs, Tms w y.2 y.1.terms ∧ RowOk y.1) : Rws w v (prs.map (·.1)) := by
  refine ⟨prs.map (·.2), by simp, ?_, fun i r tv hr ht => ?_⟩
  · have : List.zipWith cR (prs.map (·.1)) (prs.map (·.2)) = prs.map cRT := by
      rw [List.zipWith_map, List.zipWith_self]; rfl
    rw [this]; exact h
  · rw [List.getElem?_map] at hr ht
    obtain ⟨y, hy, rfl⟩ := Option.map_eq_some_iff.1 hr
    rw [hy] at ht
    cases ht
    exact hT y (List.mem_of_getElem? hy)
theorem rdy_cons {P : Program} {md : Region.Mode} {l : List Oper} {Q : Exit → Act → World → Prop} {S : World → Prop} {fuel : Nat} {listed : Array Bool} {a : Act} {w : World} {i : Nat} {o : Oper} {rs : List Nat} (ho : l[i]? = some o)
    (h : ∀ K' : Act → World → Prop, Shut (∀ a w, S w → (S w → wpAnyH P md l.toArray Q S fuel (listed.setIfInBounds i true) a w) → K' a w) → if Region.wanted o (yielded l.toArray a.tmps) = true then Oper.wp P o a w K' Q else K' (a.put o.dst undef) w)
    (hs : AllReadyH P md l.toArray Q S fuel listed a w rs) : AllReadyH P md l.toArray Q S fuel listed a w (i :: rs) := AllReadyH.cons (by simpa using ho) h hs
/-- a region in whatever order, by an invariant of what is listed -/
theorem held_ind {P : Program} {md : Region.Mode} {l : List Oper} {Q : Exit → Act → World → Prop} {S : World → Prop} (T : Act → Nat → Array Bool → Act → World → Prop) (a0 : Act)
    (h0 : ∀ listed a w, ¬ T a0 0 listed a w)
    (hT : ∀ fuel, (∀ m, m ≤ fuel → ∀ listed a w, T a0 m listed a w → wpAnyH P md l.toArray Q S m listed a w) → ∀ listed a w, T a0 (fuel + 1) listed a w → wpAnyH P md l.toArray Q S (fuel + 1) listed a w)
    {fuel : Nat} {listed : Array Bool} {w : World} (h : T a0 fuel listed a0 w) : wpAnyH P md l.toArray Q S fuel listed a0 w := by
  have key : ∀ n m : Nat, m ≤ n → ∀ listed a w, T a0 m listed a w → wpAnyH P md l.toArray Q S m listed a w := fun n => by
    induction n with
    | zero =>
      intro m hm listed a w h
      obtain rfl : m = 0 := by omega
      exact absurd h (h0 listed a w)
    | succ n ih =>
      intro m hm listed a w h
      by_cases e : m ≤ n
      · exact ih m e listed a w h
      · obtain rfl : m = n + 1 := by omega
        exact hT n ih listed a w h
  exact key fuel fuel (Nat.le_refl _) _ _ _ h
end Go.Proofs.YtbgienfcmdgaaaaGreat
/-
  DualityStays: the rows behind the loop, and what they keep. Conditions: none beyond each lemma's own.
-/
namespace Go.Proofs.YtbgienfcmdgaaaaGreat
/-- the first k rows without a multiplier are changed -/
def mixL (ys : List Rat) (l : List RT) (y0 : RT) (k : Nat) : List RT := (List.range l.length).map fun j => if j < k ∧ atQ ys (j : Nat) = 0 then y0 else l.getD j y0
theorem mixL_length (ys : List Rat) (l : List RT) (y0 : RT) (k : Nat) : (mixL ys l y0 k).length = l.length := by simp [mixL]
theorem mixL_get {ys : List Rat} {l : List RT} {y0 : RT} {k j : Nat} (h : j < l.length) : (mixL ys l y0 k)[j]? = some (if j < k ∧ atQ ys (j : Nat) = 0 then y0 else l.getD j y0) := by
  unfold mixL
  rw [List.getElem?_map, List.getElem?_range h]; rfl
theorem mixL_zero (ys : List Rat) (l : List RT) (y0 : RT) : mixL ys l y0 0 = l := by
  apply List.ext_getElem?
  intro j
  by_cases h : j < l.length
  · rw [mixL_get h, if_neg (by omega), getD_lt h, List.getElem?_eq_getElem h]
  · rw [List.getElem?_eq_none (by rw [mixL_length]; omega), List.getElem?_eq_none (by omega)]
theorem mixL_set {ys : List Rat} {l : List RT} {y0 : RT} {k : Nat} (h : k < l.length) (hz : atQ ys (k : Nat) = 0) : (mixL ys l y0 k).set k y0 = mixL ys l y0 (k + 1) := by
  apply List.ext_getElem?
  intro j
  by_cases hj : j < l.length
  · by_cases e : j = k
    · subst e
      rw [List.getElem?_set_self (by rw [mixL_length]; exact h), mixL_get h, if_pos ⟨by omega, hz⟩]
    · rw [List.getElem?_set_ne (Ne.symm e), mixL_get hj, mixL_get hj]
      by_cases h2 : atQ ys (j : Nat) = 0
      · by_cases h3 : j < k
        · rw [if_pos ⟨h3, h2⟩, if_pos ⟨by omega, h2⟩]
        · rw [if_neg (by omega), if_neg (by omega)]
      · rw [if_neg (fun h => h2 h.2), if_neg (fun h => h2 h.2)]
  · rw [List.getElem?_eq_none (by rw [List.length_set, mixL_length]; omega), List.getElem?_eq_none (by rw [mixL_length]; omega)]
theorem mixL_skip {ys : List Rat} {l : List RT} {y0 : RT} {k : Nat} (hz : ¬ atQ ys (k : Nat) = 0) : mixL ys l y0 k = mixL ys l y0 (k + 1) := by
  apply List.ext_getElem?
  intro j
  by_cases hj : j < l.length
  · rw [mixL_get hj, mixL_get hj]
    by_cases h2 : atQ ys (j : Nat) = 0
    · have hjk : j ≠ k := fun e => hz (e ▸ h2)
      by_cases h3 : j < k
      · rw [if_pos ⟨h3, h2⟩, if_pos ⟨by omega, h2⟩]
      · rw [if_neg (by omega), if_neg (by omega)]
    · rw [if_neg (fun h => h2 h.2), if_neg (fun h => h2 h.2)]
  · rw [List.getElem?_eq_none (by rw [mixL_length]; omega), List.getElem?_eq_none (by rw [mixL_length]; omega)]
theorem mixL_mem {ys : List Rat} {l : List RT} {y0 : RT} {k : Nat} (h0 : y0 ∈ l) {x : RT} (hx : x ∈ mixL ys l y0 k) : x ∈ l := by
  unfold mixL at hx
  obtain ⟨j, hj, rfl⟩ := List.mem_map.1 hx
  rw [List.mem_range] at hj
  by_cases h : j < k ∧ atQ ys (j : Nat) = 0
  · rw [if_pos h]; exact h0
  · rw [if_neg h, getD_lt hj]; exact List.getElem_mem hj
theorem prg_of {w : World} {va vb : Value} {vars : List VarV} {l : List RT} (h1 : Sl w va 5 (vars.map cV)) (h2 : ∀ x ∈ vars, VarOk x) (h3 : Sl w vb 5 (l.map cRT)) (h4 : ∀ y ∈ l, Tms w y.2 y.1.terms ∧ RowOk y.1) : IsPrg w (.agg #[va, vb]) ⟨vars, l.map (·.1)⟩ := ⟨_, _, rfl, ⟨h1, h2⟩, Rws.ofPairs h3 h4⟩
theorem small_more {vars : List VarV} {l : List RT} (hn : vars.length ≤ 6) (hm : l.length ≤ 9) (ht : ∀ y ∈ l, y.1.terms.length ≤ 12) : Small ⟨vars, l.map (·.1)⟩ 12 4 := by
  refine ⟨⟨by decide, ?_⟩, fun i hi => ?_⟩
  · show (vars.length + 1) * ((l.map (·.1)).length * (12 * (4 + 3) + 2) + 7) + 12 * (4 + 3) + (l.map (·.1)).length * (4 + 3) + vars.length * (4 + 3) + 4 ≤ 1000000
    rw [List.length_map]
    have e2 : (vars.length + 1) * (l.length * (12 * (4 + 3) + 2) + 7) ≤ 7 * (9 * 86 + 7) := Nat.mul_le_mul (by omega) (by omega)
    omega
  · have hi' : i < (l.map (·.1)).length := hi
    unfold ProgV.r
    show ((l.map (·.1)).getD i row0).terms.length ≤ 12
    rw [getD_lt hi', List.getElem_map]
    exact ht _ (List.getElem_mem _)
/-- the changed program keeps a proof of infeasibility -/
theorem stays_mix {p : ProgV} {vars : List VarV} {prs : List RT} {y0 : RT} {ys : List Rat} (k : Nat) (hp : prs.map (·.1) = p.rows) (hv : validB p = true) (hr : rowB p.vars.length y0.1 = true) (hy : ys.length ≤ p.rows.length) (hm : p.rows.length ≤ 8)
    (hl : vars.length = p.vars.length) (hb : vars.all varB = true) (hs : ∀ i, i < p.vars.length → (vars.getD i var0).op = (p.v i).op ∧ (vars.getD i var0).up = (p.v i).up ∧ (p.v i).lo ≤ (vars.getD i var0).lo) :
    Stays p ⟨vars, (mixL ys (prs ++ [y0]) y0 k).map (·.1)⟩ ys := by
  have hpl : prs.length = p.rows.length := by rw [← hp, List.length_map]
  have hll : (prs ++ [y0]).length = p.rows.length + 1 := by simp [hpl]
  have hlen : ((mixL ys (prs ++ [y0]) y0 k).map (·.1)).length = p.rows.length + 1 := by rw [List.length_map, mixL_length, hll]
  unfold validB at hv
  simp only [Bool.and_eq_true, decide_eq_true_eq] at hv
  refine ⟨?_, hl, by show p.rows.length ≤ ((mixL ys (prs ++ [y0]) y0 k).map (·.1)).length; omega, fun i hi => ?_, fun i h1 _ => atQ_out _ (by omega), fun i hi => (hs i hi).1, fun i hi => (hs i hi).2.1, fun i hi => (hs i hi).2.2⟩
  · unfold validB
    simp only [Bool.and_eq_true, decide_eq_true_eq]
    refine ⟨⟨⟨by rw [hl]; exact hv.1.1.1, by rw [hlen]; omega⟩, hb⟩, ?_⟩
    rw [List.all_eq_true]
    intro x hx
    obtain ⟨z, hz, rfl⟩ := List.mem_map.1 hx
    have hz' := mixL_mem (by simp) hz
    show rowB vars.length z.1 = true
    rw [hl]
    rcases List.mem_append.1 hz' with h | h
    · exact List.all_eq_true.1 hv.2 _ (by rw [← hp]; exact List.mem_map.2 ⟨z, h, rfl⟩)
    · rw [List.mem_singleton.1 h]; exact hr
  · by_cases h0 : atQ ys (i : Nat) = 0
    · exact .inl h0
    · right
      unfold ProgV.r
      have hi2 : i < (prs ++ [y0]).length := by omega
      have e1 : ((mixL ys (prs ++ [y0]) y0 k).map (·.1))[i]? = some ((prs ++ [y0]).getD i y0).1 := by
        rw [List.getElem?_map, mixL_get hi2, if_neg (fun h => h0 h.2)]; rfl
      rw [List.getD_eq_getElem?_getD, e1, getD_lt hi2, List.getElem_append_left (by omega)]
      rw [getD_lt hi]
      show (prs[i]'(by omega)).1 = p.rows[i]
      simp only [← hp, List.getElem_map]
end Go.Proofs.YtbgienfcmdgaaaaGreat
/-
  DualityStays: the program that the loop and the bound change. Conditions: none beyond each lemma's own.
-/
namespace Go.Proofs.YtbgienfcmdgaaaaGreat
open Go.RowKit Go.MapKept
open Go.ChangeMaps (setBlock)

section
variable {β : Type} {f : β → List Value} {T : TypeId}
theorem SArr.size {w : World} {g : Nat} {l : List β} (hf : ∀ x, (f x).length = 5) (h : SArr f T w g l) {k : Nat} (hk : k < l.length) : ∃ cur, blk w g = some (.cells cur T (0, 0)) ∧ k * 5 + 4 < cur.size := by
  obtain ⟨cur, h1, h2⟩ := h
  refine ⟨cur, h1, ?_⟩
  have h3 := h2 k _ (List.getElem?_eq_getElem hk) 4 (by decide)
  rw [List.getElem?_eq_getElem (by rw [hf]; decide)] at h3
  exact (Array.getElem?_eq_some_iff.1 h3).1
theorem SArr.set5 {w : World} {g : Nat} {l : List β} {k : Nat} {y : β} {u0 u1 u2 u3 u4 : Value} (hf : ∀ x, (f x).length = 5) (h : SArr f T w g l) (hk : k < l.length) (hy : f y = [u0, u1, u2, u3, u4]) :
    SArr f T (((((w.setCell ⟨g, k * 5, none⟩ u0).setCell ⟨g, k * 5 + 1, none⟩ u1).setCell ⟨g, k * 5 + 2, none⟩ u2).setCell ⟨g, k * 5 + 3, none⟩ u3).setCell ⟨g, k * 5 + 4, none⟩ u4) g (l.set k y) := by
  obtain ⟨cur, h1, hs⟩ := h.size hf hk
  obtain ⟨cur', h1', h2⟩ := h
  rw [h1] at h1'
  cases h1'
  refine ⟨_, blk_setCell_same (blk_setCell_same (blk_setCell_same (blk_setCell_same (blk_setCell_same h1 _ u0) _ u1) _ u2) _ u3) _ u4, fun k' x' hk' j' hj' => ?_⟩
  by_cases e : k' = k
  · subst e
    rw [List.getElem?_set_self hk] at hk'
    cases hk'
    rw [hy]
    simp only [Array.getElem?_setIfInBounds, Array.size_setIfInBounds]
    rcases (show j' = 0 ∨ j' = 1 ∨ j' = 2 ∨ j' = 3 ∨ j' = 4 by omega) with rfl | rfl | rfl | rfl | rfl
    · rw [if_neg (by omega), if_neg (by omega), if_neg (by omega), if_neg (by omega), if_pos (by omega), if_pos (by omega)]; rfl
    · rw [if_neg (by omega), if_neg (by omega), if_neg (by omega), if_pos (by omega), if_pos (by omega)]; rfl
    · rw [if_neg (by omega), if_neg (by omega), if_pos (by omega), if_pos (by omega)]; rfl
    · rw [if_neg (by omega), if_pos (by omega), if_pos (by omega)]; rfl
    · rw [if_pos (by omega), if_pos (by omega)]; rfl
  · rw [List.getElem?_set_ne (Ne.symm e)] at hk'
    simp only [Array.getElem?_setIfInBounds, Array.size_setIfInBounds]
    rw [if_neg (by omega), if_neg (by omega), if_neg (by omega), if_neg (by omega), if_neg (by omega)]
    exact h2 k' x' hk' j' hj'
theorem ext_set5 {w : World} {g k : Nat} {u0 u1 u2 u3 u4 : Value} : Ext (fun i => i = g) w (((((w.setCell ⟨g, k * 5, none⟩ u0).setCell ⟨g, k * 5 + 1, none⟩ u1).setCell ⟨g, k * 5 + 2, none⟩ u2).setCell ⟨g, k * 5 + 3, none⟩ u3).setCell ⟨g, k * 5 + 4, none⟩ u4) :=
  (((((Ext.refl (fun i => i = g) w).setCell (p := ⟨g, k * 5, none⟩) u0 (fun _ => rfl)).setCell (p := ⟨g, k * 5 + 1, none⟩) u1 (fun _ => rfl)).setCell (p := ⟨g, k * 5 + 2, none⟩) u2 (fun _ => rfl)).setCell (p := ⟨g, k * 5 + 3, none⟩) u3 (fun _ => rfl)).setCell (p := ⟨g, k * 5 + 4, none⟩) u4 (fun _ => rfl)
theorem SArr.cells5 {w : World} {g : Nat} {l : List β} {k : Nat} (hf : ∀ x, (f x).length = 5) (h : SArr f T w g l) (hk : k < l.length) :
    (∃ a0 a1 a2 a3 a4, w.cell? ⟨g, k * 5, none⟩ = some a0 ∧ w.cell? ⟨g, k * 5 + 1, none⟩ = some a1 ∧ w.cell? ⟨g, k * 5 + 2, none⟩ = some a2 ∧ w.cell? ⟨g, k * 5 + 3, none⟩ = some a3 ∧ w.cell? ⟨g, k * 5 + 4, none⟩ = some a4) ∧ ∀ j, w.frozen? ⟨g, j, none⟩ = false := by
  obtain ⟨cur, h1, hs⟩ := h.size hf hk
  exact ⟨⟨_, _, _, _, _, (cell_of_cells h1 _).trans (Array.getElem?_eq_getElem (by omega)), (cell_of_cells h1 _).trans (Array.getElem?_eq_getElem (by omega)), (cell_of_cells h1 _).trans (Array.getElem?_eq_getElem (by omega)), (cell_of_cells h1 _).trans (Array.getElem?_eq_getElem (by omega)), (cell_of_cells h1 _).trans (Array.getElem?_eq_getElem (by omega))⟩, fun j => free_of_cells h1 j⟩
end
/-- the program of the call's own: its box, its rows, its variables -/
structure QSt (w5 w : World) (gb gB : Nat) (ao : Option Addr) (vn ac rn bc : Nat) (vars : List VarV) (rows : List RT) : Prop where
  ext : Ext (fun _ => False) w5 w
  box : blk w gb = some (.cells #[.slice ao vn ac, .slice (some ⟨gB, 0, none⟩) (rn + 1) bc] 25 (0, 0))
  rowsA : SArr cRT 58 w gB rows
  rlen : rows.length = rn + 1
  rcap : rn + 1 ≤ bc ∧ bc ≤ maxLen
  vlen : vars.length = vn
  vcap : ac ≤ maxLen
  varsA : (vn = 0 ∧ (ao = none → ac = 0)) ∨ ∃ gA, ao = some ⟨gA, 0, none⟩ ∧ vn ≤ ac ∧ SArr cV 63 w gA vars ∧ gA ≠ gB ∧ gA ≠ gb ∧ w5.heap.size ≤ gA
  apart : gB ≠ gb
  low : w5.heap.size ≤ gB ∧ w5.heap.size ≤ gb
section
variable {w5 w w' : World} {gb gB : Nat} {ao : Option Addr} {vn ac rn bc : Nat} {vars : List VarV} {rows : List RT}
theorem QSt.of {vA vB : Value} (hx : Ext (fun _ => False) w5 w) (hb : blk w gb = some (.cells #[vA, vB] 25 (0, 0))) (hl : w5.heap.size ≤ gb) (hA : SOwn cV 63 w w5.heap.size vA vars) (hB : SOwn cRT 58 w w5.heap.size vB rows) (hr : rows.length = rn + 1) (hv : vars.length = vn) (hab : Asunder vA vB) (had : Asunder vA (.pointer (some ⟨gb, 0, none⟩))) (hbd : Asunder vB (.pointer (some ⟨gb, 0, none⟩))) :
    ∃ gB ao ac bc, vA = .slice ao vn ac ∧ vB = .slice (some ⟨gB, 0, none⟩) (rn + 1) bc ∧ QSt w5 w gb gB ao vn ac rn bc vars rows := by
  obtain ⟨ao, ac, rfl⟩ := hA.shape
  obtain ⟨bo, bc, rfl⟩ := hB.shape
  rcases hB.arr cRT_len with ⟨h0, h1, _⟩ | ⟨gB, rfl, hg1, _, hg2, hg3, hg4⟩
  · rw [h1] at hr; cases hr
  · rw [hr] at hb hg2 hbd hab ⊢
    rw [hv] at hb had hab ⊢
    refine ⟨gB, ao, ac, bc, rfl, rfl, hx, hb, hg4, hr, ⟨hg2, hg3⟩, hv, ?_, ?_, fun e => hbd gb (by rw [e]; rfl) rfl, hg1, hl⟩
    · rcases hA.arr cV_len with ⟨_, _, _, h⟩ | ⟨_, _, _, _, _, h, _⟩ <;> exact h
    · rcases hA.arr cV_len with ⟨h0, _, h2, _⟩ | ⟨gA, rfl, k1, _, k2, k3, k4⟩
      · exact .inl ⟨hv ▸ h0, h2⟩
      · exact .inr ⟨gA, rfl, by rw [← hv]; exact k2, k4, fun e => hab gB (by rw [e]; rfl) rfl, fun e => had gb (by rw [e]; rfl) rfl, k1⟩
theorem QSt.keep (h : QSt w5 w gb gB ao vn ac rn bc vars rows) (hx : Ext (fun _ => False) w w') : QSt w5 w' gb gB ao vn ac rn bc vars rows :=
  ⟨h.ext.trans hx, blk_keep h.box hx, h.rowsA.keep hx, h.rlen, h.rcap, h.vlen, h.vcap, (by
    rcases h.varsA with e | ⟨gA, e, h1, h2, h3⟩
    · exact .inl e
    · exact .inr ⟨gA, e, h1, h2.keep hx, h3⟩), h.apart, h.low⟩
theorem QSt.setRow (h : QSt w5 w gb gB ao vn ac rn bc vars rows) {k : Nat} (hk : k < rn + 1) {y : RT} {u0 u1 u2 u3 u4 : Value} (hy : cRT y = [u0, u1, u2, u3, u4]) :
    QSt w5 (((((w.setCell ⟨gB, k * 5, none⟩ u0).setCell ⟨gB, k * 5 + 1, none⟩ u1).setCell ⟨gB, k * 5 + 2, none⟩ u2).setCell ⟨gB, k * 5 + 3, none⟩ u3).setCell ⟨gB, k * 5 + 4, none⟩ u4) gb gB ao vn ac rn bc vars (rows.set k y) := by
  have hx : Ext (fun i => i = gB) w _ := ext_set5 (w := w) (g := gB) (k := k) (u0 := u0) (u1 := u1) (u2 := u2) (u3 := u3) (u4 := u4)
  refine ⟨h.ext.own hx (fun k e => by have := h.low.1; omega), (hx.blk (blk_lt h.box) (fun e => h.apart e.symm)).trans h.box, h.rowsA.set5 cRT_len (by rw [h.rlen]; exact hk) hy, (by rw [List.length_set]; exact h.rlen), h.rcap, h.vlen, h.vcap, ?_, h.apart, h.low⟩
  rcases h.varsA with e | ⟨gA, e, h1, h2, h3⟩
  · exact .inl e
  · exact .inr ⟨gA, e, h1, h2.past hx h3.1, h3⟩
theorem QSt.setVar {gA : Nat} (h : QSt w5 w gb gB (some ⟨gA, 0, none⟩) vn ac rn bc vars rows) {k : Nat} (hk : k < vn) {x : VarV} (hx0 : vars[k]? = some x) (n : Int) :
    QSt w5 (w.setCell ⟨gA, k * 5, none⟩ (.int .i64 n)) gb gB (some ⟨gA, 0, none⟩) vn ac rn bc (vars.set k { x with lo := n }) rows := by
  rcases h.varsA with e | ⟨gA', e, h1, h2, h3, h4, h5⟩
  · omega
  cases e
  have hx := (Ext.refl (fun i => i = gA) w).setCell (p := ⟨gA, k * 5, none⟩) (.int .i64 n) (fun _ => rfl)
  obtain ⟨cur, hc1, hc2⟩ := h2.size cV_len (k := k) (by rw [h.vlen]; exact hk)
  refine ⟨h.ext.own hx (fun k e => by omega), (hx.blk (blk_lt h.box) (fun e => h4 e.symm)).trans h.box, h.rowsA.past hx (fun e => h3 e.symm), h.rlen, h.rcap, (by rw [List.length_set]; exact h.vlen), h.vcap, .inr ⟨gA, rfl, h1, ?_, h3, h4, h5⟩, h.apart, h.low⟩
  exact h2.set1 (j := 0) hx0 (by decide) (by rw [hc1]; show k * 5 + 0 < cur.size; omega) (fun i => by
    match i with
    | 0 => rfl
    | 1 => rfl
    | 2 => rfl
    | 3 => rfl
    | 4 => rfl
    | i + 5 => rfl)
theorem QSt.varsSl (h : QSt w5 w gb gB ao vn ac rn bc vars rows) : Sl w (.slice ao vn ac) 5 (vars.map cV) := by
  rcases h.varsA with ⟨e, e2⟩ | ⟨gA, rfl, h1, h2, _⟩
  · have hv := h.vlen
    rw [e] at hv
    obtain rfl := List.eq_nil_of_length_eq_zero hv
    subst e
    exact ⟨ao, ac, rfl, Nat.zero_le _, h.vcap, e2, fun h => absurd h (Nat.lt_irrefl 0)⟩
  · have := h2.sl cV_len (c := ac) (by rw [h.vlen]; exact h1) h.vcap
    rw [h.vlen] at this
    exact this
theorem QSt.rowsSl (h : QSt w5 w gb gB ao vn ac rn bc vars rows) : Sl w (.slice (some ⟨gB, 0, none⟩) (rn + 1) bc) 5 (rows.map cRT) := by
  have := h.rowsA.sl cRT_len (c := bc) (by rw [h.rlen]; exact h.rcap.1) h.rcap.2
  rw [h.rlen] at this
  exact this
theorem QSt.prg (h : QSt w5 w gb gB ao vn ac rn bc vars rows) (hv : ∀ x ∈ vars, VarOk x) (ht : ∀ y ∈ rows, Tms w5 y.2 y.1.terms ∧ RowOk y.1) : IsPrg w (.agg #[.slice ao vn ac, .slice (some ⟨gB, 0, none⟩) (rn + 1) bc]) ⟨vars, rows.map (·.1)⟩ :=
  prg_of h.varsSl hv h.rowsSl (fun y hy => ⟨(ht y hy).1.keep h.ext, (ht y hy).2⟩)
end
end Go.Proofs.YtbgienfcmdgaaaaGreat
/-
  The closure of DualityRays: the point on a ray. Conditions: what it has caught reads as a program and as lists of fractions.
-/
namespace Go.Proofs.YtbgienfcmdgaaaaGreat
open Go.RowKit Go.MapKept
open Go.ChangeMaps (setBlock)

set_option maxRecDepth 100000 in
set_option maxHeartbeats 8000000 in
theorem rays1_any (w : World) (pb xb zb : Nat) (vv rv xv zv : Value) (p : ProgV) (x z : List Rat) (k : Int) (hk : InR k) (hp : IsPrg w (.agg #[vv, rv]) p) (hn0 : p.vars.length ≤ 1000000) (hpb : blk w pb = some (.cells #[vv, rv] 25 (0, 0))) (hxb : blk w xb = some (.cells #[xv] 32 (0, 0))) (hzb : blk w zb = some (.cells #[zv] 32 (0, 0))) (hx : Rats w xv x 4) (hz : Rats w zv z 4) :
    Calls Tryz.prog 28 #[.int .i64 k, .pointer (some ⟨pb, 0, none⟩), .pointer (some ⟨xb, 0, none⟩), .pointer (some ⟨zb, 0, none⟩)] w (RatsPost w (goQ p x z k) 12) := by
  obtain ⟨vv', rv', e, hv, hr⟩ := hp
  cases e
  obtain ⟨vo, vc, rfl, -, hvn, -⟩ := hv.shape
  obtain ⟨ro, rc, rfl, -, -, -⟩ := hr.shape
  have hxz := hx.sz (by decide : 1 ≤ 4)
  have hzz := hz.sz (by decide : 1 ≤ 4)
  have HAx0 := Lib.hid (fun W (hW : Ext (fun _ => False) w W) (i : Int) => At_any W _ x 4 (hx.keep hW) i)
  have HAz0 := Lib.hid (fun W (hW : Ext (fun _ => False) w W) (i : Int) => At_any W _ z 4 (hz.keep hW) i)
  have HF := Lib.hid (fun W => Rrfrom_any W k hk.1 hk.2)
  have HM0 := Lib.hid (fun W u u' (i : Int) (hu : IsRat W u (k : Rat)) (hu' : Rrat W u' (atQ z i) 4) => Rrmul_any W u u' _ _ 4 (hu.reads ((Sz.int hk).mono (by decide))) hu' (by decide) (by decide))
  have HAd0 := Lib.hid (fun W u u' (i : Int) (hu : Rrat W u (atQ x i) 4) (hu' : IsRat W u' ((k : Rat) * atQ z i)) => Rradd_any W u u' _ _ 6 (hu.mono (by decide)) (hu'.reads (((Sz.int hk).mul (hzz i)).mono (by decide))) (by decide) (by decide))
  have HR0 := Lib.hid (fun W u (i : Nat) (hu : IsRat W u (atQ x i + (k : Rat) * atQ z i)) => (hu.reads (L := 12) (((hxz i).add ((Sz.int hk).mul (hzz i))).mono (by decide)) : Rrat W u _ 12))
  obtain ⟨xo, xc, rfl, -, -, -⟩ := hx.shape
  obtain ⟨zo, zc, rfl, -, -, -⟩ := hz.shape
  have hS0 : S2 xb zb 0 0 (.slice xo x.length xc) (.slice zo z.length zc) w := ⟨cellq hxb 0 rfl, cellq hzb 0 rfl⟩
  have hxl := blk_lt hxb
  have hzl := blk_lt hzb
  have z0 := cellq hpb 0 rfl
  unfold goQ
  have HRf := Lib.hid (show ∀ i : Nat, atQ x i + (k : Rat) * atQ z i = (fun i : Nat => atQ x i + (k : Rat) * atQ z i) i from fun _ => rfl)
  clear hx hz hv hr hxb hzb hpb hxz hzz
  generalize (fun i : Nat => atQ x i + (k : Rat) * atQ z i) = f at *
  generalize x.length = xl at *
  generalize z.length = zl at *
  obtain ⟨n, hn'⟩ : ∃ n, p.vars.length = n := ⟨_, rfl⟩
  rw [hn'] at hn0 hvn z0 ⊢
  clear hn'
  have HS0 := Lib.hid (And.intro hS0 z0)
  clear hS0
  go_enter Tryz.func28, Tryz.ntmps28
  go_upto_region 2 with fail
  go_wp2_with fail
  go_loopg [11, 6] n (fun gg v11 v6 wr => ∃ (i : Nat) (v : Value), i ≤ n ∧ gg = n - i ∧ v11 = .int .i64 i ∧ v6 = v ∧ ROwn wr w.heap.size v (listTo i f) 12 ∧ S2 xb zb 0 0 (.slice xo xl xc) (.slice zo zl zc) wr ∧ Ext (fun _ => False) w wr)
  case atStart => exact ⟨0, _, Nat.zero_le _, rfl, rfl, rfl, ROwn.nil _ _ _, HS0.out.1, Ext.refl _ _⟩
  case round =>
    clear z0
    obtain ⟨i, v, hi, rfl, rfl, rfl, ho, hS, hx⟩ := hrel
    obtain ⟨ao, cap, rfl⟩ := ho.shape
    have hll : (listTo i f).length = i := listTo_length _ _
    rw [hll] at ho ⊢
    by_cases hin : i < n
    · have i0 : (i : Int) < (n : Int) := by omega
      have HX := Lib.hid hx
      have HO := Lib.hid ho
      have HLl := Lib.hid hll
      have HAx := Lib.hid (fun W (hW : Ext (fun _ => False) wr W) (j : Nat) => HAx0.out W (HX.out.trans hW) j)
      have HAz := Lib.hid (fun W (hW : Ext (fun _ => False) wr W) (j : Nat) => HAz0.out W (HX.out.trans hW) j)
      have HM := Lib.hid (fun W u u' hu hu' => HM0.out W u u' i hu hu')
      have HAd := Lib.hid (fun W u u' hu hu' => HAd0.out W u u' i hu hu')
      have HR := Lib.hid (fun W u hu => (HRf.out i ▸ HR0.out W u i hu : Rrat W u (f i) 12))
      clear ho hx hll
      go_upto_region 5 with fail
      refine wp_region_held_drew (S := (S2 xb zb 0 0 (.slice xo xl xc) (.slice zo zl zc))) (by kernel_rfl) (hS.drew) (fun hHeld => ?_)
      have hX0 := (Ext.refl (fun _ => False) wr).drew
      generalize wr.drew = wd at *
      refine held_take 0 (v := ?_) rfl (by kernel_rfl) (by kernel_rfl) (by kernel_rfl) (fun _ _ _ h => h) (by rfl) ?_ (by assumption) ?_
      rotate_left
      · ((intro w hSw; (try dsimp only at hSw); go_simp) <;> with_reducible rfl)
      (try simp only [Act.put, List.setIfInBounds_toArray, List.set_cons_zero, List.set_cons_succ])
      refine held_take 1 (v := ?_) rfl (by kernel_rfl) (by kernel_rfl) (by kernel_rfl) (fun _ _ _ h => h) (by rfl) ?_ (by assumption) ?_
      rotate_left
      · ((intro w hSw; (try dsimp only at hSw); go_simp) <;> with_reducible rfl)
      (try simp only [Act.put, List.setIfInBounds_toArray, List.set_cons_zero, List.set_cons_succ])
      refine held_take 2 (v := ?_) rfl (by kernel_rfl) (by kernel_rfl) (by kernel_rfl) (fun _ _ _ h => h) (by rfl) ?_ (by assumption) ?_
      rotate_left
      · ((intro w hSw; (try dsimp only at hSw); go_simp) <;> with_reducible rfl)
      (try simp only [Act.put, List.setIfInBounds_toArray, List.set_cons_zero, List.set_cons_succ])
      refine held_take 4 (v := ?_) rfl (by kernel_rfl) (by kernel_rfl) (by kernel_rfl) (fun _ _ _ h => h) (by rfl) ?_ (by assumption) ?_
      rotate_left
      · ((intro w hSw; (try dsimp only at hSw); go_simp) <;> with_reducible rfl)
      (try simp only [Act.put, List.setIfInBounds_toArray, List.set_cons_zero, List.set_cons_succ])
      refine held_take 6 (v := ?_) rfl (by kernel_rfl) (by kernel_rfl) (by kernel_rfl) (fun _ _ _ h => h) (by rfl) ?_ (by assumption) ?_
      rotate_left
      · ((intro w hSw; (try dsimp only at hSw); go_simp) <;> with_reducible rfl)
      (try simp only [Act.put, List.setIfInBounds_toArray, List.set_cons_zero, List.set_cons_succ])
      refine held_take 7 (v := ?_) rfl (by kernel_rfl) (by kernel_rfl) (by kernel_rfl) (fun _ _ _ h => h) (by rfl) ?_ (by assumption) ?_
      rotate_left
      · ((intro w hSw; (try dsimp only at hSw); go_simp) <;> with_reducible rfl)
      (try simp only [Act.put, List.setIfInBounds_toArray, List.set_cons_zero, List.set_cons_succ])
      refine held_step 3 rfl (by kernel_rfl) (fun K hK => ?_)
      go_simp
      go_at_call 30
      (with_reducible refine (HAx.out _ hX0 i).mono ?_)
      rintro q1 u1 ⟨t1, rfl, ht1, hx1⟩
      obtain ⟨n1, a1, l1, c1, a1', l1', c1', rfl⟩ := ht1.shape
      have hX1 := hX0.trans hx1
      refine hK.out _ _ (hS.keep hX1) (fun hHeld => ?_)
      clear hK K
      (try simp only [Act.put, List.setIfInBounds_toArray, List.set_cons_zero, List.set_cons_succ])
      refine held_step 5 rfl (by kernel_rfl) (fun K hK => ?_)
      go_simp
      go_at_call 32
      (with_reducible refine (HF.out _).mono ?_)
      rintro q2 u2 ⟨t2, rfl, ht2, hx2⟩
      obtain ⟨n2, a2, l2, c2, a2', l2', c2', rfl⟩ := ht2.shape
      have hX2 := hX1.trans hx2
      have hy1 := ht1.keep hx2
      refine hK.out _ _ (hS.keep hX2) (fun hHeld => ?_)
      clear hK K
      (try simp only [Act.put, List.setIfInBounds_toArray, List.set_cons_zero, List.set_cons_succ])
      refine held_step 8 rfl (by kernel_rfl) (fun K hK => ?_)
      go_simp
      go_at_call 30
      (with_reducible refine (HAz.out _ hX2 i).mono ?_)
      rintro q3 u3 ⟨t3, rfl, ht3, hx3⟩
      obtain ⟨n3, a3, l3, c3, a3', l3', c3', rfl⟩ := ht3.shape
      have hX3 := hX2.trans hx3
      have hM := HM.out _ _ _ (ht2.keep hx3) ht3
      have hy1 := hy1.keep hx3
      refine hK.out _ _ (hS.keep hX3) (fun hHeld => ?_)
      clear hK K
      (try simp only [Act.put, List.setIfInBounds_toArray, List.set_cons_zero, List.set_cons_succ])
      refine held_step 9 rfl (by kernel_rfl) (fun K hK => ?_)
      go_simp
      go_at_call 31
      (with_reducible refine (hM).mono ?_)
      rintro q4 u4 ⟨t4, rfl, ht4, hx4⟩
      obtain ⟨n4, a4, l4, c4, a4', l4', c4', rfl⟩ := ht4.shape
      have hX4 := hX3.trans hx4
      have hA := HAd.out _ _ _ (hy1.keep hx4) ht4
      refine hK.out _ _ (hS.keep hX4) (fun hHeld => ?_)
      clear hK K
      (try simp only [Act.put, List.setIfInBounds_toArray, List.set_cons_zero, List.set_cons_succ])
      refine held_step 10 rfl (by kernel_rfl) (fun K hK => ?_)
      go_simp
      go_at_call 29
      (with_reducible refine (hA).mono ?_)
      rintro q5 u5 ⟨t5, rfl, ht5, hx5⟩
      obtain ⟨n5, a5, l5, c5, a5', l5', c5', rfl⟩ := ht5.shape
      have hX5 := hX4.trans hx5
      refine hK.out _ _ (hS.keep hX5) (fun hHeld => ?_)
      clear hK K
      (try simp only [Act.put, List.setIfInBounds_toArray, List.set_cons_zero, List.set_cons_succ])
      refine held_step 11 rfl (by kernel_rfl) (fun K hK => ?_)
      go_simp
      have hxa := (Ext.refl (fun _ => False) u5).alloc (.cells #[.bool n5, .slice a5 l5 c5, .slice a5' l5' c5'] 31)
      have hX6 := hX5.trans hxa
      have ho6 := HO.out.keep hX6
      have hq6 := (HR.out _ _ ht5).keep hxa
      have hsz6 : w.heap.size ≤ (u5.alloc (.cells #[.bool n5, .slice a5 l5 c5, .slice a5' l5' c5'] 31)).heap.size := by have := HX.out.size; have := hX6.size; omega
      refine hK.out _ _ (hS.keep hX6) (fun hHeld => ?_)
      clear hK K
      (try simp only [Act.put, List.setIfInBounds_toArray, List.set_cons_zero, List.set_cons_succ])
      refine held_step 12 rfl (by kernel_rfl) (fun K hK => ?_)
      refine step_append_rat rfl (.tmp 14) (.tmp 25) rfl w.heap.size _ _ 12 rfl ho6 ⟨n5, a5, l5, c5, a5', l5', c5'⟩ (f i) hq6 ⟨u5.heap.size, 0, none⟩ 1 rfl (cells_new (RatC.cells ⟨n5, a5, l5, c5, a5', l5', c5'⟩) _ rfl) (by rw [HLl.out]; omega) hsz6 ?_
      intro v7 w7 hown7 hx7 hrd7
      have HN : Hid (ROwn w7 w.heap.size v7 (listTo (i + 1) f) 12) := Lib.hid (by rw [listTo_succ]; exact hown7)
      have hg := fun g e => (ho6.lt g e).1
      have HX7 : Hid (Ext (fun _ => False) w w7) := Lib.hid (ext_own (HX.out.trans hX6) hx7 hg)
      have hS7 : S2 xb zb 0 0 (.slice xo xl xc) (.slice zo zl zc) w7 := ⟨(hx7.cell (p := ⟨xb, 0, none⟩) (World.block_lt_of_cell? _ _ (hS.keep hX6).1) (fun e => absurd (hg xb e) (by omega))).trans (hS.keep hX6).1, (hx7.cell (p := ⟨zb, 0, none⟩) (World.block_lt_of_cell? _ _ (hS.keep hX6).2) (fun e => absurd (hg zb e) (by omega))).trans (hS.keep hX6).2⟩
      refine hK.out _ _ (hS7) (fun hHeld => ?_)
      clear hK K
      (try simp only [Act.put, List.setIfInBounds_toArray, List.set_cons_zero, List.set_cons_succ])
      refine held_take 13 (v := ?_) rfl (by kernel_rfl) (by kernel_rfl) (by kernel_rfl) (fun _ _ _ h => h) (by rfl) ?_ (by assumption) ?_
      rotate_left
      · ((intro w hSw; (try dsimp only at hSw); go_simp) <;> with_reducible rfl)
      (try simp only [Act.put, List.setIfInBounds_toArray, List.set_cons_zero, List.set_cons_succ])
      refine wpAnyH_done (by kernel_rfl) ?_ _
      have HS7 := Lib.hid hS7
      clear hown7 hx7 hrd7 hS7 ho6 hq6 hS hHeld hX0 hX1 hX2 hX3 hX4 hX5 hX6 hx1 hx2 hx3 hx4 hx5 hxa hM hA hy1 ht1 ht2 ht3 ht4 ht5 hg
      go_wp2
      go_roundg (n - (i + 1))
      case measure => omega
      case rel => exact ⟨i + 1, _, by omega, rfl, by go_num, rfl, HN.out, HS7.out, HX7.out⟩
    · obtain rfl : i = n := by omega
      have HO := Lib.hid (And.intro ho hx)
      clear ho hx
      go_wp2
      go_ret
      exact ⟨_, rfl, by have := HO.out.1.rats; exact this, HO.out.2⟩
end Go.Proofs.YtbgienfcmdgaaaaGreat
/-
  DualityRays: the walk. Conditions: the arguments read as a program, as lists of fractions, as a number of 16 bits.
-/
namespace Go.Proofs.YtbgienfcmdgaaaaGreat
open Go.RowKit Go.MapKept
open Go.ChangeMaps (setBlock)

theorem sign_less {a b : Rat} (h : a < b) : (a - b).num.sign = -1 := by
  have h1 : (a - b).num < 0 := (rnum_neg _).2 (by grind)
  exact Int.sign_eq_neg_one_of_neg h1
theorem smallB_few {p : ProgV} {ls : List (List RatV)} (h : smallB p ls = true) : p.vars.length ≤ 6 ∧ p.rows.length ≤ 8 := by
  unfold smallB fewP at h
  simp only [Bool.and_eq_true, decide_eq_true_eq] at h
  exact ⟨h.2.1.2, h.2.2⟩
theorem rays_law {p : ProgV} {x z : List Rat} (h : unbB p x z = true) (k : Int) (hk : 0 ≤ k) : (∀ y, boundQ p y = none) ∧ insideB p (goQ p x z (k + 1)) = true ∧ violQ p (goQ p x z (k + 1)) = [] ∧ (costQ p (goQ p x z (k + 1)) - costQ p (goQ p x z k)).num.sign = -1 := by
  refine ⟨fun y => ?_, (go_feas h (by omega)).1, (go_feas h (by omega)).2, sign_less (go_cost h k)⟩
  cases hb : boundQ p y with
  | none => rfl
  | some b => exact (unb_nobound h hb).elim
set_option maxRecDepth 100000 in
set_option maxHeartbeats 8000000 in
theorem rays_core (w : World) (pv xv zv yv : Value) (k : Int) (p : ProgV) (x z y : List RatV) (hp : IsPrg w pv p) (hx : Raws w xv x) (hz : Raws w zv z) (hy : Raws w yv y) (hk0 : 0 ≤ k) (hk1 : k ≤ 65535) :
    Calls Tryz.prog 5 #[pv, xv, zv, yv, .int .u16 k] w (BoolPost w true) := by
  have HP := Lib.hid (And.intro hp (And.intro hx (And.intro hz hy)))
  obtain ⟨vo, vn, vc, ro, rn, rc, rfl⟩ := hp.slices
  obtain ⟨xo, xc, rfl, -⟩ := hx.shape
  obtain ⟨zo, zc, rfl, -⟩ := hz.shape
  obtain ⟨yo, yc, rfl, -⟩ := hy.shape
  clear hp hx hy hz
  generalize hxl : x.length = xl at *
  generalize hyl : y.length = yl at *
  generalize hzl : z.length = zl at *
  clear hxl hyl hzl
  have b1 : blk (((w.alloc (.cells #[.slice vo vn vc, .slice ro rn rc] 25)).alloc (.cells #[.slice xo xl xc] 32)).alloc (.cells #[.slice zo zl zc] 32)) w.heap.size = some (.cells #[.slice vo vn vc, .slice ro rn rc] 25 (0, 0)) := (blk_alloc_past _ _ _ (by simp [World.size_alloc] <;> omega)).trans ((blk_alloc_past _ _ _ (by simp)).trans (blk_alloc_at _ _))
  have b2 : blk (((w.alloc (.cells #[.slice vo vn vc, .slice ro rn rc] 25)).alloc (.cells #[.slice xo xl xc] 32)).alloc (.cells #[.slice zo zl zc] 32)) (w.heap.size + 1) = some (.cells #[.slice xo xl xc] 32 (0, 0)) := (blk_alloc_past _ _ _ (by simp [World.size_alloc])).trans (blk_alloc_at' _ _ _ (by simp [World.size_alloc]))
  have b3 : blk (((w.alloc (.cells #[.slice vo vn vc, .slice ro rn rc] 25)).alloc (.cells #[.slice xo xl xc] 32)).alloc (.cells #[.slice zo zl zc] 32)) (w.heap.size + 1 + 1) = some (.cells #[.slice zo zl zc] 32 (0, 0)) := blk_alloc_at' _ _ _ (by simp [World.size_alloc])
  have HB := Lib.hid (And.intro b1 (And.intro b2 (And.intro b3 ((((Ext.refl (fun _ => False) w).alloc (.cells #[.slice vo vn vc, .slice ro rn rc] 25)).alloc (.cells #[.slice xo xl xc] 32)).alloc (.cells #[.slice zo zl zc] 32)))))
  clear b1 b2 b3
  go_enter Tryz.func5, Tryz.ntmps5
  go_upto_region 1 with fail
  generalize hw1 : ((w.alloc (.cells #[.slice vo vn vc, .slice ro rn rc] 25)).alloc (.cells #[.slice xo xl xc] 32)).alloc (.cells #[.slice zo zl zc] 32) = w1 at *
  clear hw1
  obtain ⟨pb, hpb⟩ : ∃ pb, w.heap.size = pb := ⟨_, rfl⟩
  obtain ⟨xb, hxb⟩ : ∃ xb, pb + 1 = xb := ⟨_, rfl⟩
  obtain ⟨zb, hzb⟩ : ∃ zb, xb + 1 = zb := ⟨_, rfl⟩
  rw [hpb, hxb, hzb] at HB ⊢
  clear hpb hxb hzb
  go_wp2_with fail
  refine (awake_any w1).mono ?_
  rintro r2 w2 ⟨rfl, hx2⟩
  have HB2 := Lib.hid (And.intro (blk_keep HB.out.1 hx2) (And.intro (blk_keep HB.out.2.1 hx2) (And.intro (blk_keep HB.out.2.2.1 hx2) (HB.out.2.2.2.trans hx2))))
  clear hx2 HB
  have z0 := cellq HB2.out.1 0 rfl
  have z1 := cellq HB2.out.1 1 rfl
  have z2 := cellq HB2.out.2.1 0 rfl
  have z3 := cellq HB2.out.2.2.1 0 rfl
  go_wp2_with fail
  have hxa := (Ext.refl (fun _ => False) w2).alloc (.cells #[.slice xo xl xc, .slice zo zl zc, .slice yo yl yc] 32)
  have hX := HB2.out.2.2.2.trans hxa
  refine (lsmall_any _ _ p [x, z, y] [.slice xo xl xc, .slice zo zl zc, .slice yo yl yc] w2.heap.size 0 3 (HP.out.1.keep hX) rfl (by show 3 ≤ 100; decide) (vs_cells (blk_alloc_at w2 (.cells #[.slice xo xl xc, .slice zo zl zc, .slice yo yl yc] 32))) (fun i v rs h1 h2 => by
    match i, h1, h2 with
    | 0, h1, h2 => cases h1; cases h2; exact HP.out.2.1.keep hX
    | 1, h1, h2 => cases h1; cases h2; exact HP.out.2.2.1.keep hX
    | 2, h1, h2 => cases h1; cases h2; exact HP.out.2.2.2.keep hX)).mono ?_
  rintro r3 w3 ⟨rfl, hx3⟩
  have hx13 := hxa.trans hx3
  have HB3 := Lib.hid (And.intro (blk_keep HB2.out.1 hx13) (And.intro (blk_keep HB2.out.2.1 hx13) (And.intro (blk_keep HB2.out.2.2.1 hx13) (HB2.out.2.2.2.trans hx13))))
  clear hx3 hX hxa hx13 HB2 z0 z1 z2 z3
  cases hsm : smallB p [x, z, y] with
  | false =>
    clear hsm
    go_wp2_with fail
    refine (awake_any w3).mono ?_
    rintro r4 w4 ⟨rfl, hx4⟩
    have HX4 := Lib.hid (HB3.out.2.2.2.trans hx4)
    clear hx4
    go_wp2
    go_ret
    exact ⟨rfl, HX4.out⟩
  | true =>
    obtain ⟨hs, hf⟩ := smallB_parts hsm
    obtain ⟨hn6, hm8⟩ := smallB_few hsm
    clear hsm
    have hn : p.vars.length ≤ 1000000 := by omega
    have hxs := fun W (hW : Ext (fun _ => False) w3 W) => (HP.out.2.1.keep (HB3.out.2.2.2.trans hW)).rats (hf x (by simp)).1
    have hzs := fun W (hW : Ext (fun _ => False) w3 W) => (HP.out.2.2.1.keep (HB3.out.2.2.2.trans hW)).rats (hf z (by simp)).1
    have hys := fun W (hW : Ext (fun _ => False) w3 W) => (HP.out.2.2.2.keep (HB3.out.2.2.2.trans hW)).rats (hf y (by simp)).1
    have hps := fun W (hW : Ext (fun _ => False) w3 W) => HP.out.1.keep (HB3.out.2.2.2.trans hW)
    have HUn := Lib.hid (fun W (hW : Ext (fun _ => False) w3 W) => Unbounded_any W _ _ _ p (valL x) (valL z) 4 12 (hps W hW) (hxs W hW) (hzs W hW) hs)
    have HBo := Lib.hid (fun W (hW : Ext (fun _ => False) w3 W) => Bound_any W _ _ p (valL y) 4 12 (hps W hW) (hys W hW) hs)
    have HAt := Lib.hid (fun W j (hj : InR j) (hW : Ext (fun _ => False) w3 W) => rays1_any W pb xb zb _ _ _ _ p (valL x) (valL z) j hj (hps W hW) hn (blk_keep HB3.out.1 hW) (blk_keep HB3.out.2.1 hW) (blk_keep HB3.out.2.2.1 hW) (hxs W hW) (hzs W hW))
    have hcz : ∀ (W : World) u q, Rats W u q 12 → Sz (costQ p q) (1 + p.vars.length * (12 + 3)) := fun W u q hq => by
      obtain ⟨_, _, e, hv, _⟩ := HP.out.1
      exact costQ_sz hv (hq.sz (by decide))
    have hrl : p.rows.length ≤ 1000000 := by omega
    have HIs0 := Lib.hid (fun W u q (hW : Ext (fun _ => False) w3 W) (hq : Rats W u q 12) => Inside4_any W _ u p q 12 (hps W hW) hq (by decide) (by decide))
    have HVi0 := Lib.hid (fun W u q (hW : Ext (fun _ => False) w3 W) (hq : Rats W u q 12) => Violated4_any W _ u p q 12 12 (hps W hW) hq (by decide) hs.terms (by decide) (by omega) hrl)
    have HCo0 := Lib.hid (fun W u q (hW : Ext (fun _ => False) w3 W) (hq : Rats W u q 12) => Cost4_any W _ u p q 12 (hps W hW) hq (by decide) (by omega))
    have HCm0 := Lib.hid (fun W q q' u u' V V' t t' (hq : Rats V t q 12) (hq' : Rats V' t' q' 12) (hu : IsRat W u (costQ p q)) (hu' : IsRat W u' (costQ p q')) => Rrcmp_any W u u' _ _ 1000000 (hu.reads ((hcz _ _ _ hq).mono (by omega))) (hu'.reads ((hcz _ _ _ hq').mono (by omega))) (by decide) (by decide))
    have HQ := Lib.hid (fun h => rays_law (p := p) (x := valL x) (z := valL z) h k hk0)
    clear hs hf hn6 hm8 hxs hzs hys hps hcz hrl hn
    generalize unbB p (valL x) (valL z) = ub at *
    generalize goQ p (valL x) (valL z) = gq at *
    have z0 := cellq HB3.out.1 0 rfl
    have z1 := cellq HB3.out.1 1 rfl
    have z2 := cellq HB3.out.2.1 0 rfl
    have z3 := cellq HB3.out.2.2.1 0 rfl
    go_upto_region 3 with fail
    go_wp2_with fail
    refine (HUn.out w3 (Ext.refl _ _)).mono ?_
    rintro r5 w5 ⟨rfl, hx5⟩
    have HX5 := Lib.hid hx5
    clear z0 z1 z2 z3 hx5 HUn
    cases ub with
    | false =>
      have HX := Lib.hid (HB3.out.2.2.2.trans HX5.out)
      go_wp2
      go_ret
      exact ⟨rfl, HX.out⟩
    | true =>
    obtain ⟨q0, q1, q2, q3⟩ := HQ.out rfl
    have HQ2 := Lib.hid (And.intro (q0 (valL y)) (And.intro q1 (And.intro q2 q3)))
    clear q0 q1 q2 q3 HQ
    go_upto_region 6 with fail
    have hk2 : InR k := by unfold InR; omega
    have hk3 : InR (k + 1) := by unfold InR; omega
    have HK := Lib.hid (And.intro hk2 hk3)
    clear hk2 hk3
    go_wp2_with fail
    refine (HAt.out w5 k HK.out.1 HX5.out).mono ?_
    rintro r6 w6 ⟨av, rfl, ha6, hx6⟩
    obtain ⟨ao, ac, rfl, -, -, -⟩ := ha6.shape
    have HA6 := Lib.hid (And.intro ha6 (HX5.out.trans hx6))
    clear ha6 hx6 HX5
    obtain ⟨al, hal⟩ : ∃ al, (gq k).length = al := ⟨_, rfl⟩
    rw [hal] at HA6 ⊢
    clear hal
    go_wp2_with fail
    refine (HAt.out w6 (k + 1) HK.out.2 HA6.out.2).mono ?_
    rintro r7 w7 ⟨bv, rfl, hb7, hx7⟩
    obtain ⟨bo, bc, rfl, -, -, -⟩ := hb7.shape
    have HA7 := Lib.hid (And.intro (HA6.out.1.keep hx7) (And.intro hb7 (HA6.out.2.trans hx7)))
    clear hb7 hx7 HA6 HAt HK
    obtain ⟨bl, hbl⟩ : ∃ bl, (gq (k + 1)).length = bl := ⟨_, rfl⟩
    rw [hbl] at HA7 ⊢
    clear hbl
    generalize gq (k + 1) = g1 at *
    generalize gq k = g0 at *
    have z0 := cell_keep (cellq HB3.out.1 0 rfl) HA7.out.2.2
    have z1 := cell_keep (cellq HB3.out.1 1 rfl) HA7.out.2.2
    go_upto_region 7 with fail
    go_wp2_with fail
    refine (HBo.out w7 HA7.out.2.2).mono ?_
    rw [HQ2.out.1]
    intro r8 w8 hop
    obtain ⟨n5, a5, m5, c5, a5', m5', c5', rfl, h5, hx8⟩ := hop.open
    clear hop h5
    rw [show (none : Option Rat).isSome = false from rfl]
    have hxb := hx8.alloc (.cells #[.bool n5, .slice a5 m5 c5, .slice a5' m5' c5'] 31)
    have HA8 := Lib.hid (And.intro (HA7.out.1.keep hxb) (And.intro (HA7.out.2.1.keep hxb) (HA7.out.2.2.trans hxb)))
    clear hxb hx8 HA7 z0 z1 HBo
    go_upto_region 8 with fail
    generalize w8.alloc (.cells #[.bool n5, .slice a5 m5 c5, .slice a5' m5' c5'] 31) = w9 at *
    have hS : S2 pb pb 0 1 (.slice vo vn vc) (.slice ro rn rc) w9 := ⟨cell_keep (cellq HB3.out.1 0 rfl) HA8.out.2.2, cell_keep (cellq HB3.out.1 1 rfl) HA8.out.2.2⟩
    have hX0 := (Ext.refl (fun _ => False) w9).drew
    have HIs := Lib.hid (fun W (hW : Ext (fun _ => False) w9 W) => (by have h := HIs0.out W _ g1 (HA8.out.2.2.trans hW) (HA8.out.2.1.keep hW); rw [HQ2.out.2.1] at h; exact h : Calls Tryz.prog 21 #[.agg #[.slice vo vn vc, .slice ro rn rc], .slice bo bl bc] W (BoolPost W true)))
    have HVi := Lib.hid (fun W (hW : Ext (fun _ => False) w9 W) => (by have h := HVi0.out W _ g1 (HA8.out.2.2.trans hW) (HA8.out.2.1.keep hW); rw [HQ2.out.2.2.1] at h; exact h : Calls Tryz.prog 22 #[.agg #[.slice vo vn vc, .slice ro rn rc], .slice bo bl bc] W (NumsPost W [])))
    have HC1 := Lib.hid (fun W (hW : Ext (fun _ => False) w9 W) => HCo0.out W _ g1 (HA8.out.2.2.trans hW) (HA8.out.2.1.keep hW))
    have HC0 := Lib.hid (fun W (hW : Ext (fun _ => False) w9 W) => HCo0.out W _ g0 (HA8.out.2.2.trans hW) (HA8.out.1.keep hW))
    have HCm := Lib.hid (fun W u u' (hu : IsRat W u (costQ p g1)) (hu' : IsRat W u' (costQ p g0)) => (by have h := HCm0.out W g1 g0 u u' w9 w9 _ _ HA8.out.2.1 HA8.out.1 hu hu'; rw [HQ2.out.2.2.2] at h; exact h : Calls Tryz.prog 25 #[u, u'] W fun r w' => r = .returned (.int .i64 (-1)) ∧ Ext (fun _ => False) W w'))
    refine wp_region_held_drew (S := (S2 pb pb 0 1 (.slice vo vn vc) (.slice ro rn rc))) (by kernel_rfl) (hS.drew) (fun hHeld => ?_)
    refine held_take 0 (v := ?_) rfl (by kernel_rfl) (by kernel_rfl) (by kernel_rfl) (fun _ _ _ h => h) (by rfl) ?_ (by assumption) ?_
    rotate_left
    · ((intro w hSw; (try dsimp only at hSw); go_simp) <;> with_reducible rfl)
    (try simp only [Act.put, List.setIfInBounds_toArray, List.set_cons_zero, List.set_cons_succ])
    refine held_take 1 (v := ?_) rfl (by kernel_rfl) (by kernel_rfl) (by kernel_rfl) (fun _ _ _ h => h) (by rfl) ?_ (by assumption) ?_
    rotate_left
    · ((intro w hSw; (try dsimp only at hSw); go_simp) <;> with_reducible rfl)
    (try simp only [Act.put, List.setIfInBounds_toArray, List.set_cons_zero, List.set_cons_succ])
    refine held_take 2 (v := ?_) rfl (by kernel_rfl) (by kernel_rfl) (by kernel_rfl) (fun _ _ _ h => h) (by rfl) ?_ (by assumption) ?_
    rotate_left
    · ((intro w hSw; (try dsimp only at hSw); go_simp) <;> with_reducible rfl)
    (try simp only [Act.put, List.setIfInBounds_toArray, List.set_cons_zero, List.set_cons_succ])
    refine held_take 3 (v := ?_) rfl (by kernel_rfl) (by kernel_rfl) (by kernel_rfl) (fun _ _ _ h => h) (by rfl) ?_ (by assumption) ?_
    rotate_left
    · ((intro w hSw; (try dsimp only at hSw); go_simp) <;> with_reducible rfl)
    (try simp only [Act.put, List.setIfInBounds_toArray, List.set_cons_zero, List.set_cons_succ])
    refine held_take 4 (v := ?_) rfl (by kernel_rfl) (by kernel_rfl) (by kernel_rfl) (fun _ _ _ h => h) (by rfl) ?_ (by assumption) ?_
    rotate_left
    · ((intro w hSw; (try dsimp only at hSw); go_simp) <;> with_reducible rfl)
    (try simp only [Act.put, List.setIfInBounds_toArray, List.set_cons_zero, List.set_cons_succ])
    refine held_step 5 rfl (by kernel_rfl) (fun K hK => ?_)
    (go_simp; go_at_call 21; (with_reducible refine (HIs.out _ hX0).mono ?_); rintro q1 u1 ⟨rfl, hx1⟩; have hX1 := hX0.trans hx1; have hK1 := hS.keep hX1)
    refine hK.out _ _ (hK1) (fun hHeld => ?_)
    clear hK K
    (try simp only [Act.put, List.setIfInBounds_toArray, List.set_cons_zero, List.set_cons_succ])
    refine held_take 6 (v := ?_) rfl (by kernel_rfl) (by kernel_rfl) (by kernel_rfl) (fun _ _ _ h => h) (by rfl) ?_ (by assumption) ?_
    rotate_left
    · ((intro w hSw; (try dsimp only at hSw); go_simp) <;> with_reducible rfl)
    (try simp only [Act.put, List.setIfInBounds_toArray, List.set_cons_zero, List.set_cons_succ])
    refine held_take 7 (v := ?_) rfl (by kernel_rfl) (by kernel_rfl) (by kernel_rfl) (fun _ _ _ h => h) (by rfl) ?_ (by assumption) ?_
    rotate_left
    · ((intro w hSw; (try dsimp only at hSw); go_simp) <;> with_reducible rfl)
    (try simp only [Act.put, List.setIfInBounds_toArray, List.set_cons_zero, List.set_cons_succ])
    refine held_take 8 (v := ?_) rfl (by kernel_rfl) (by kernel_rfl) (by kernel_rfl) (fun _ _ _ h => h) (by rfl) ?_ (by assumption) ?_
    rotate_left
    · ((intro w hSw; (try dsimp only at hSw); go_simp) <;> with_reducible rfl)
    (try simp only [Act.put, List.setIfInBounds_toArray, List.set_cons_zero, List.set_cons_succ])
    refine held_take 9 (v := ?_) rfl (by kernel_rfl) (by kernel_rfl) (by kernel_rfl) (fun _ _ _ h => h) (by rfl) ?_ (by assumption) ?_
    rotate_left
    · ((intro w hSw; (try dsimp only at hSw); go_simp) <;> with_reducible rfl)
    (try simp only [Act.put, List.setIfInBounds_toArray, List.set_cons_zero, List.set_cons_succ])
    refine held_step 10 rfl (by kernel_rfl) (fun K hK => ?_)
    (go_simp; go_at_call 22; (with_reducible refine (HVi.out _ hX1).mono ?_); rintro q2 u2 ⟨v2, rfl, ho2, hx2⟩; obtain ⟨o2, c2, rfl⟩ := ho2.shape; rw [show ([] : List Nat).length = 0 from rfl]; have hX2 := hX1.trans hx2; have hK2 := hS.keep hX2)
    refine hK.out _ _ (hK2) (fun hHeld => ?_)
    clear hK K
    (try simp only [Act.put, List.setIfInBounds_toArray, List.set_cons_zero, List.set_cons_succ])
    refine held_take 11 (v := ?_) rfl (by kernel_rfl) (by kernel_rfl) (by kernel_rfl) (fun _ _ _ h => h) (by rfl) ?_ (by assumption) ?_
    rotate_left
    · ((intro w hSw; (try dsimp only at hSw); go_simp) <;> with_reducible rfl)
    (try simp only [Act.put, List.setIfInBounds_toArray, List.set_cons_zero, List.set_cons_succ])
    refine held_take 12 (v := ?_) rfl (by kernel_rfl) (by kernel_rfl) (by kernel_rfl) (fun _ _ _ h => h) (by rfl) ?_ (by assumption) ?_
    rotate_left
    · ((intro w hSw; (try dsimp only at hSw); go_simp) <;> with_reducible rfl)
    (try simp only [Act.put, List.setIfInBounds_toArray, List.set_cons_zero, List.set_cons_succ])
    refine held_take 13 (v := ?_) rfl (by kernel_rfl) (by kernel_rfl) (by kernel_rfl) (fun _ _ _ h => h) (by rfl) ?_ (by assumption) ?_
    rotate_left
    · ((intro w hSw; (try dsimp only at hSw); go_simp) <;> with_reducible rfl)
    (try simp only [Act.put, List.setIfInBounds_toArray, List.set_cons_zero, List.set_cons_succ])
    refine held_take 14 (v := ?_) rfl (by kernel_rfl) (by kernel_rfl) (by kernel_rfl) (fun _ _ _ h => h) (by rfl) ?_ (by assumption) ?_
    rotate_left
    · ((intro w hSw; (try dsimp only at hSw); go_simp) <;> with_reducible rfl)
    (try simp only [Act.put, List.setIfInBounds_toArray, List.set_cons_zero, List.set_cons_succ])
    refine held_take 15 (v := ?_) rfl (by kernel_rfl) (by kernel_rfl) (by kernel_rfl) (fun _ _ _ h => h) (by rfl) ?_ (by assumption) ?_
    rotate_left
    · ((intro w hSw; (try dsimp only at hSw); go_simp) <;> with_reducible rfl)
    (try simp only [Act.put, List.setIfInBounds_toArray, List.set_cons_zero, List.set_cons_succ])
    refine held_take 16 (v := ?_) rfl (by kernel_rfl) (by kernel_rfl) (by kernel_rfl) (fun _ _ _ h => h) (by rfl) ?_ (by assumption) ?_
    rotate_left
    · ((intro w hSw; (try dsimp only at hSw); go_simp) <;> with_reducible rfl)
    (try simp only [Act.put, List.setIfInBounds_toArray, List.set_cons_zero, List.set_cons_succ])
    refine held_take 18 (v := ?_) rfl (by kernel_rfl) (by kernel_rfl) (by kernel_rfl) (fun _ _ _ h => h) (by rfl) ?_ (by assumption) ?_
    rotate_left
    · ((intro w hSw; (try dsimp only at hSw); go_simp) <;> with_reducible rfl)
    (try simp only [Act.put, List.setIfInBounds_toArray, List.set_cons_zero, List.set_cons_succ])
    refine held_take 19 (v := ?_) rfl (by kernel_rfl) (by kernel_rfl) (by kernel_rfl) (fun _ _ _ h => h) (by rfl) ?_ (by assumption) ?_
    rotate_left
    · ((intro w hSw; (try dsimp only at hSw); go_simp) <;> with_reducible rfl)
    (try simp only [Act.put, List.setIfInBounds_toArray, List.set_cons_zero, List.set_cons_succ])
    refine held_step 17 rfl (by kernel_rfl) (fun K hK => ?_)
    (go_simp; go_at_call 26; (with_reducible refine (HC1.out _ hX2).mono ?_); rintro q3 u3 ⟨t3, rfl, ht3, hx3⟩; obtain ⟨m3, e3, l3, f3, e3', l3', f3', rfl⟩ := ht3.shape; have hX3 := hX2.trans hx3; have hK3 := hS.keep hX3)
    refine hK.out _ _ (hK3) (fun hHeld => ?_)
    clear hK K
    (try simp only [Act.put, List.setIfInBounds_toArray, List.set_cons_zero, List.set_cons_succ])
    refine held_step 20 rfl (by kernel_rfl) (fun K hK => ?_)
    (go_simp; go_at_call 26; (with_reducible refine (HC0.out _ hX3).mono ?_); rintro q4 u4 ⟨t4, rfl, ht4, hx4⟩; obtain ⟨m4, e4, l4, f4, e4', l4', f4', rfl⟩ := ht4.shape; have hC := HCm.out u4 _ _ (ht3.keep hx4) ht4; have hX4 := hX3.trans hx4; have hK4 := hS.keep hX4)
    refine hK.out _ _ (hK4) (fun hHeld => ?_)
    clear hK K
    (try simp only [Act.put, List.setIfInBounds_toArray, List.set_cons_zero, List.set_cons_succ])
    refine held_step 21 rfl (by kernel_rfl) (fun K hK => ?_)
    (go_simp; go_at_call 25; (with_reducible refine (hC).mono ?_); rintro q5 u5 ⟨rfl, hx5⟩; have hX5 := hX4.trans hx5; have hK5 := hS.keep hX5)
    refine hK.out _ _ (hK5) (fun hHeld => ?_)
    clear hK K
    (try simp only [Act.put, List.setIfInBounds_toArray, List.set_cons_zero, List.set_cons_succ])
    refine held_take 22 (v := ?_) rfl (by kernel_rfl) (by kernel_rfl) (by kernel_rfl) (fun _ _ _ h => h) (by rfl) ?_ (by assumption) ?_
    rotate_left
    · ((intro w hSw; (try dsimp only at hSw); go_simp) <;> with_reducible rfl)
    (try simp only [Act.put, List.setIfInBounds_toArray, List.set_cons_zero, List.set_cons_succ])
    refine held_take 23 (v := ?_) rfl (by kernel_rfl) (by kernel_rfl) (by kernel_rfl) (fun _ _ _ h => h) (by rfl) ?_ (by assumption) ?_
    rotate_left
    · ((intro w hSw; (try dsimp only at hSw); go_simp) <;> with_reducible rfl)
    (try simp only [Act.put, List.setIfInBounds_toArray, List.set_cons_zero, List.set_cons_succ])
    refine held_take 24 (v := ?_) rfl (by kernel_rfl) (by kernel_rfl) (by kernel_rfl) (fun _ _ _ h => h) (by rfl) ?_ (by assumption) ?_
    rotate_left
    · ((intro w hSw; (try dsimp only at hSw); go_simp) <;> with_reducible rfl)
    (try simp only [Act.put, List.setIfInBounds_toArray, List.set_cons_zero, List.set_cons_succ])
    refine wpAnyH_done (by kernel_rfl) ?_ _
    have HX := Lib.hid ((HB3.out.2.2.2.trans HA8.out.2.2).trans hX5)
    clear hX0 hX1 hX2 hX3 hX4 hX5 hK1 hK2 hK3 hK4 hK5 hS hHeld hx1 hx2 hx3 hx4 hx5 HIs HVi HC1 HC0 HCm HIs0 HVi0 HCo0 HCm0 HA8 HB3 HP HQ2
    go_wp2
    go_ret
    exact ⟨rfl, HX.out⟩
end Go.Proofs.YtbgienfcmdgaaaaGreat
