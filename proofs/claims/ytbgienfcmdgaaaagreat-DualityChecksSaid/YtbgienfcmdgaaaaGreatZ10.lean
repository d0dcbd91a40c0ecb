/-
  Package linear: Inside. Conditions: the arguments read as programs, points.
-/
import Derived.Test.YtbgienfcmdgaaaaGreatZ7
import Derived.Test.YtbgienfcmdgaaaaGreatZ9
import Derived.Test.YtbgienfcmdgaaaaGreatZ1
set_option linter.unusedVariables false
namespace Go.Proofs.YtbgienfcmdgaaaaGreat
open Go.RowKit Go.MapKept
open Go.ChangeMaps (setBlock)

/-- is a component within its bounds? -/
def insB (p : ProgV) (x : List Rat) (i : Nat) : Bool := decide (((p.v i).lo : Rat) ≤ atQ x i) && ((p.v i).op || decide (atQ x i ≤ ((p.v i).up : Rat)))
theorem insideB_eq (p : ProgV) (x : List Rat) : insideB p x = allTo p.vars.length (insB p x) := rfl
theorem insB_sign (p : ProgV) (x : List Rat) (i : Nat) : insB p x i = (!decide ((atQ x i - ((p.v i).lo : Rat)).num.sign < 0) && ((p.v i).op || !decide (0 < (atQ x i - ((p.v i).up : Rat)).num.sign))) := by
  have hr1 := sign_lt (atQ x i - ((p.v i).lo : Rat))
  have hr2 := sign_gt (atQ x i - ((p.v i).up : Rat))
  unfold insB
  congr 1
  · rw [← decide_not]; exact decide_eq_decide.2 ⟨fun h h2 => by have := hr1.1 h2; grind, fun h => Rat.not_lt.1 (fun h2 => h (hr1.2 (by grind)))⟩
  · congr 1
    rw [← decide_not]; exact decide_eq_decide.2 ⟨fun h h2 => by have := hr2.1 h2; grind, fun h => Rat.not_lt.1 (fun h2 => h (hr2.2 (by grind)))⟩
set_option maxRecDepth 100000 in
set_option maxHeartbeats 8000000 in
theorem Inside_any (w : World) (pv xv : Value) (p : ProgV) (x : List Rat) (L : Nat) (hp : IsPrg w pv p) (hy : Rats w xv x L) (h1 : 1 ≤ L) (hL : L ≤ 4194000) :
    Calls Tryz.prog 122 #[pv, xv] w (BoolPost w (insideB p x)) := by
  obtain ⟨vv, rv, rfl, hr, -⟩ := hp
  obtain ⟨vo, vc, rfl, -, hn, -⟩ := hr.shape
  obtain ⟨yo, yc, rfl, -, hyn, -⟩ := hy.shape
  have HV := Lib.hid (And.intro hr hy)
  obtain ⟨n, hn'⟩ : ∃ n, p.vars.length = n := ⟨_, rfl⟩
  have HN := Lib.hid hn'
  have HA := Lib.hid (fun W (hW : Ext (fun _ => False) w W) (i : Nat) => lat_any W _ x L (hy.keep hW) i)
  have HC := Lib.hid (fun W u u' q (k : Int) (hk : InR k) (hu : Rrat W u q L) (hu' : IsRat W u' (k : Rat)) => rcmp_any W u u' q (k : Rat) (L + 2) (hu.mono (by omega)) (hu'.reads ((Sz.int hk).mono (by omega))) (by omega) (by omega))
  clear hr hy
  rw [hn'] at hn ⊢ HV
  clear hn'
  generalize x.length = yn at *
  go_enter Tryz.func122, Tryz.ntmps122
  go_wp2_with fail
  go_loopg [11] n (fun gg v11 wr => ∃ i : Nat, i ≤ n ∧ gg = n - i ∧ v11 = .int .i64 i ∧ allTo i (insB p x) = true ∧ Ext (fun _ => False) w wr)
  case atStart => exact ⟨0, Nat.zero_le _, rfl, rfl, rfl, (Ext.refl _ _).alloc _⟩
  case round =>
    obtain ⟨i, hi, rfl, rfl, hall, hx⟩ := hrel
    have HX := Lib.hid (And.intro hall hx)
    clear hall hx
    by_cases hin : i < n
    · have i0 : (i : Int) < (n : Int) := by omega
      have hrow := (HV.out.1.keep HX.out.2)
      obtain ⟨b, off, rfl, hlt, e0, e1, e2, e3, e4, hok⟩ := hrow.atp i (by rw [HN.out]; exact hin)
      clear hrow
      have HA1 := Lib.hid (fun W (hW : Ext (fun _ => False) wr W) => HA.out W (HX.out.2.trans hW) i)
      have hb1 := BoxV.new wr (p.v i)
      have hx1 := (Ext.refl (fun _ => False) wr).alloc (.cells #[.int .i64 (p.v i).lo, .int .i64 (p.v i).up, .bool (p.v i).op, .bool (p.v i).ig, .int .i64 (p.v i).co] 63)
      have HB := Lib.hid (And.intro hb1 (And.intro hx1 hok))
      clear hb1 hx1 hok
      go_upto_region 4 with fail
      obtain ⟨rb, hrb⟩ : ∃ rb, wr.heap.size = rb := ⟨_, rfl⟩
      rw [hrb] at HB ⊢
      generalize wr.alloc (.cells #[.int .i64 (p.v i).lo, .int .i64 (p.v i).up, .bool (p.v i).op, .bool (p.v i).ig, .int .i64 (p.v i).co] 63) = w1 at *
      clear e0 e1 e2 e3 e4
      go_wp2_with fail
      refine (HA1.out w1 HB.out.2.1).mono ?_
      rintro r2 w2 ⟨v2, rfl, h2, hx2⟩
      obtain ⟨xn, xa, xm, xc, ya, ym, yc', rfl⟩ := h2.shape
      have hx3 := hx2.alloc (.cells #[.bool xn, .slice xa xm xc, .slice ya ym yc'] 31)
      have hb3 := boxR_new (W := w2) rfl xn xa xm xc ya ym yc'
      have h3 := h2.keep ((Ext.refl (fun _ => False) w2).alloc (.cells #[.bool xn, .slice xa xm xc, .slice ya ym yc'] 31))
      have HB3 := Lib.hid (And.intro hb3 (And.intro (HB.out.1.keep hx3) (And.intro h3 ((HX.out.2.trans HB.out.2.1).trans hx3))))
      have HO := Lib.hid HB.out.2.2
      clear hb3 h3 h2 hx2 hx3 HA1 HB
      go_upto_region 5 with fail
      obtain ⟨cb, hcb⟩ : ∃ cb, w2.heap.size = cb := ⟨_, rfl⟩
      rw [hcb] at HB3 ⊢
      clear hcb
      generalize w2.alloc (.cells #[.bool xn, .slice xa xm xc, .slice ya ym yc'] 31) = w3 at *
      have HF1 := Lib.hid (fun W => rfrom_any W (p.v i).lo HO.out.lo.1 HO.out.lo.2)
      have HF2 := Lib.hid (fun W => rfrom_any W (p.v i).up HO.out.up.1 HO.out.up.2)
      have HC1 := Lib.hid (fun W u (hW : Ext (fun _ => False) w3 W) hu => HC.out W _ u _ _ HO.out.lo (HB3.out.2.2.1.keep hW) hu)
      have HC2 := Lib.hid (fun W u (hW : Ext (fun _ => False) w3 W) hu => HC.out W _ u _ _ HO.out.up (HB3.out.2.2.1.keep hW) hu)
      have HR := Lib.hid (insB_sign p x i)
      obtain ⟨f0, f1, f2, -, -⟩ := HB3.out.2.1.facts
      obtain ⟨g0, g1, g2, -⟩ := HB3.out.1.facts
      have hS : S6 rb rb rb cb cb cb 0 1 2 0 1 2 (.int .i64 (p.v i).lo) (.int .i64 (p.v i).up) (.bool (p.v i).op) (.bool xn) (.slice xa xm xc) (.slice ya ym yc') w3 := ⟨f0, f1, f2, g0, g1, g2⟩
      clear f0 f1 f2 g0 g1 g2 HC HA HO
      generalize (atQ x i - ((p.v i).lo : Rat)).num.sign = s1 at *
      generalize (atQ x i - ((p.v i).up : Rat)).num.sign = s2 at *
      generalize ((p.v i).lo : Rat) = lq at *
      generalize ((p.v i).up : Rat) = uq at *
      generalize (p.v i).lo = lo at *
      generalize (p.v i).up = up at *
      generalize (p.v i).op = o at *
      have hcase : s1 < 0 ∨ (¬ s1 < 0 ∧ o = true) ∨ (¬ s1 < 0 ∧ o = false ∧ 0 < s2) ∨ (¬ s1 < 0 ∧ o = false ∧ ¬ 0 < s2) := by cases o <;> simp <;> omega
      rcases hcase with hs | ⟨hs, rfl⟩ | ⟨hs0, rfl, hs⟩ | ⟨hs0, rfl, hs⟩
      · have hd : decide (s1 < 0) = true := decide_eq_true hs
        refine wp_region_held_drew (S := (S6 rb rb rb cb cb cb 0 1 2 0 1 2 (.int .i64 lo) (.int .i64 up) (.bool o) (.bool xn) (.slice xa xm xc) (.slice ya ym yc'))) (by kernel_rfl) (hS.drew) (fun hHeld => ?_)
        refine held_take 0 (v := ?_) rfl (by kernel_rfl) (by kernel_rfl) (by kernel_rfl) (fun _ _ _ h => h) (by rfl) ?_ (by assumption) ?_
        rotate_left
        · ((intro w hSw; (try dsimp only at hSw); go_simp) <;> with_reducible rfl)
        (try simp only [Act.put, List.setIfInBounds_toArray, List.set_cons_zero, List.set_cons_succ])
        refine held_take 1 (v := ?_) rfl (by kernel_rfl) (by kernel_rfl) (by kernel_rfl) (fun _ _ _ h => h) (by rfl) ?_ (by assumption) ?_
        rotate_left
        · ((intro w hSw; (try dsimp only at hSw); go_simp) <;> with_reducible rfl)
        (try simp only [Act.put, List.setIfInBounds_toArray, List.set_cons_zero, List.set_cons_succ])
        refine held_take 2 (v := ?_) rfl (by kernel_rfl) (by kernel_rfl) (by kernel_rfl) (fun _ _ _ h => h) (by rfl) ?_ (by assumption) ?_
        rotate_left
        · ((intro w hSw; (try dsimp only at hSw); go_simp) <;> with_reducible rfl)
        (try simp only [Act.put, List.setIfInBounds_toArray, List.set_cons_zero, List.set_cons_succ])
        refine held_step 3 rfl (by kernel_rfl) (fun K hK => ?_)
        (go_simp; go_at_call 66; (with_reducible refine (HF1.out _).mono ?_); rintro q1 w11 ⟨v11, rfl, h11, hx11⟩; have hX1 := (Ext.refl (fun _ => False) w3).drew.trans hx11; have hK1 := hS.keep hX1; have hC1 := HC1.out w11 _ hX1 h11; obtain ⟨n11, a11, l11, c11, a12, l12, c12, rfl⟩ := h11.shape)
        refine hK.out _ _ (hK1) (fun hHeld => ?_)
        clear hK K
        (try simp only [Act.put, List.setIfInBounds_toArray, List.set_cons_zero, List.set_cons_succ])
        refine held_step 4 rfl (by kernel_rfl) (fun K hK => ?_)
        (go_simp; go_at_call 53; (with_reducible refine hC1.mono ?_); rintro q2 w12 ⟨rfl, hx12⟩; have hX2 := hX1.trans hx12; have hK2 := hS.keep hX2)
        refine hK.out _ _ (hK2) (fun hHeld => ?_)
        clear hK K
        (try simp only [Act.put, List.setIfInBounds_toArray, List.set_cons_zero, List.set_cons_succ])
        refine held_take 5 (v := ?_) rfl (by kernel_rfl) (by kernel_rfl) (by kernel_rfl) (fun _ _ _ h => h) (by rfl) ?_ (by assumption) ?_
        rotate_left
        · ((intro w hSw; (try dsimp only at hSw); go_simp) <;> with_reducible rfl)
        (try simp only [Act.put, List.setIfInBounds_toArray, List.set_cons_zero, List.set_cons_succ])
        refine held_take 6 (v := ?_) rfl (by kernel_rfl) (by kernel_rfl) (by kernel_rfl) (fun _ _ _ h => h) (by rfl) ?_ (by assumption) ?_
        rotate_left
        · ((intro w hSw; (try dsimp only at hSw); go_simp) <;> with_reducible rfl)
        (try simp only [Act.put, List.setIfInBounds_toArray, List.set_cons_zero, List.set_cons_succ])
        refine held_skip 7 rfl (by kernel_rfl) (by kernel_rfl) (by kernel_rfl) (fun _ _ _ h => h) (by rfl) (by assumption) ?_
        (try simp only [Act.put, List.setIfInBounds_toArray, List.set_cons_zero, List.set_cons_succ])
        refine held_skip 8 rfl (by kernel_rfl) (by kernel_rfl) (by kernel_rfl) (fun _ _ _ h => h) (by rfl) (by assumption) ?_
        (try simp only [Act.put, List.setIfInBounds_toArray, List.set_cons_zero, List.set_cons_succ])
        refine held_skip 9 rfl (by kernel_rfl) (by kernel_rfl) (by kernel_rfl) (fun _ _ _ h => h) (by rfl) (by assumption) ?_
        (try simp only [Act.put, List.setIfInBounds_toArray, List.set_cons_zero, List.set_cons_succ])
        refine held_skip 10 rfl (by kernel_rfl) (by kernel_rfl) (by kernel_rfl) (fun _ _ _ h => h) (by rfl) (by assumption) ?_
        (try simp only [Act.put, List.setIfInBounds_toArray, List.set_cons_zero, List.set_cons_succ])
        refine held_skip 11 rfl (by kernel_rfl) (by kernel_rfl) (by kernel_rfl) (fun _ _ _ h => h) (by rfl) (by assumption) ?_
        (try simp only [Act.put, List.setIfInBounds_toArray, List.set_cons_zero, List.set_cons_succ])
        refine held_skip 12 rfl (by kernel_rfl) (by kernel_rfl) (by kernel_rfl) (fun _ _ _ h => h) (by rfl) (by assumption) ?_
        (try simp only [Act.put, List.setIfInBounds_toArray, List.set_cons_zero, List.set_cons_succ])
        refine held_skip 13 rfl (by kernel_rfl) (by kernel_rfl) (by kernel_rfl) (fun _ _ _ h => h) (by rfl) (by assumption) ?_
        (try simp only [Act.put, List.setIfInBounds_toArray, List.set_cons_zero, List.set_cons_succ])
        refine held_skip 14 rfl (by kernel_rfl) (by kernel_rfl) (by kernel_rfl) (fun _ _ _ h => h) (by rfl) (by assumption) ?_
        (try simp only [Act.put, List.setIfInBounds_toArray, List.set_cons_zero, List.set_cons_succ])
        refine held_skip 15 rfl (by kernel_rfl) (by kernel_rfl) (by kernel_rfl) (fun _ _ _ h => h) (by rfl) (by assumption) ?_
        (try simp only [Act.put, List.setIfInBounds_toArray, List.set_cons_zero, List.set_cons_succ])
        refine held_skip 16 rfl (by kernel_rfl) (by kernel_rfl) (by kernel_rfl) (fun _ _ _ h => h) (by rfl) (by assumption) ?_
        (try simp only [Act.put, List.setIfInBounds_toArray, List.set_cons_zero, List.set_cons_succ])
        refine held_skip 17 rfl (by kernel_rfl) (by kernel_rfl) (by kernel_rfl) (fun _ _ _ h => h) (by rfl) (by assumption) ?_
        (try simp only [Act.put, List.setIfInBounds_toArray, List.set_cons_zero, List.set_cons_succ])
        refine held_take 18 (v := ?_) rfl (by kernel_rfl) (by kernel_rfl) (by kernel_rfl) (fun _ _ _ h => h) (by rfl) ?_ (by assumption) ?_
        rotate_left
        · ((intro w hSw; (try dsimp only at hSw); go_simp) <;> with_reducible rfl)
        (try simp only [Act.put, List.setIfInBounds_toArray, List.set_cons_zero, List.set_cons_succ])
        refine wpAnyH_done (by kernel_rfl) ?_ _
        have HXX := Lib.hid (HB3.out.2.2.2.trans hX2)
        clear hX1 hX2 h11 hx11 hx12 hC1 hK1 hK2 hS hHeld
        go_wp2
        go_ret
        exact ⟨ret_bool (allTo_false (f := insB p x) (i := i) (by rw [HN.out]; exact hin) (by rw [HR.out]; simp [hs])).symm, HXX.out⟩
      · have hd : decide (s1 < 0) = false := decide_eq_false hs
        refine wp_region_held_drew (S := (S6 rb rb rb cb cb cb 0 1 2 0 1 2 (.int .i64 lo) (.int .i64 up) (.bool true) (.bool xn) (.slice xa xm xc) (.slice ya ym yc'))) (by kernel_rfl) (hS.drew) (fun hHeld => ?_)
        refine held_take 0 (v := ?_) rfl (by kernel_rfl) (by kernel_rfl) (by kernel_rfl) (fun _ _ _ h => h) (by rfl) ?_ (by assumption) ?_
        rotate_left
        · ((intro w hSw; (try dsimp only at hSw); go_simp) <;> with_reducible rfl)
        (try simp only [Act.put, List.setIfInBounds_toArray, List.set_cons_zero, List.set_cons_succ])
        refine held_take 1 (v := ?_) rfl (by kernel_rfl) (by kernel_rfl) (by kernel_rfl) (fun _ _ _ h => h) (by rfl) ?_ (by assumption) ?_
        rotate_left
        · ((intro w hSw; (try dsimp only at hSw); go_simp) <;> with_reducible rfl)
        (try simp only [Act.put, List.setIfInBounds_toArray, List.set_cons_zero, List.set_cons_succ])
        refine held_take 2 (v := ?_) rfl (by kernel_rfl) (by kernel_rfl) (by kernel_rfl) (fun _ _ _ h => h) (by rfl) ?_ (by assumption) ?_
        rotate_left
        · ((intro w hSw; (try dsimp only at hSw); go_simp) <;> with_reducible rfl)
        (try simp only [Act.put, List.setIfInBounds_toArray, List.set_cons_zero, List.set_cons_succ])
        refine held_step 3 rfl (by kernel_rfl) (fun K hK => ?_)
        (go_simp; go_at_call 66; (with_reducible refine (HF1.out _).mono ?_); rintro q1 w11 ⟨v11, rfl, h11, hx11⟩; have hX1 := (Ext.refl (fun _ => False) w3).drew.trans hx11; have hK1 := hS.keep hX1; have hC1 := HC1.out w11 _ hX1 h11; obtain ⟨n11, a11, l11, c11, a12, l12, c12, rfl⟩ := h11.shape)
        refine hK.out _ _ (hK1) (fun hHeld => ?_)
        clear hK K
        (try simp only [Act.put, List.setIfInBounds_toArray, List.set_cons_zero, List.set_cons_succ])
        refine held_step 4 rfl (by kernel_rfl) (fun K hK => ?_)
        (go_simp; go_at_call 53; (with_reducible refine hC1.mono ?_); rintro q2 w12 ⟨rfl, hx12⟩; have hX2 := hX1.trans hx12; have hK2 := hS.keep hX2)
        refine hK.out _ _ (hK2) (fun hHeld => ?_)
        clear hK K
        (try simp only [Act.put, List.setIfInBounds_toArray, List.set_cons_zero, List.set_cons_succ])
        refine held_take 5 (v := ?_) rfl (by kernel_rfl) (by kernel_rfl) (by kernel_rfl) (fun _ _ _ h => h) (by rfl) ?_ (by assumption) ?_
        rotate_left
        · ((intro w hSw; (try dsimp only at hSw); go_simp) <;> with_reducible rfl)
        (try simp only [Act.put, List.setIfInBounds_toArray, List.set_cons_zero, List.set_cons_succ])
        refine held_take 6 (v := ?_) rfl (by kernel_rfl) (by kernel_rfl) (by kernel_rfl) (fun _ _ _ h => h) (by rfl) ?_ (by assumption) ?_
        rotate_left
        · ((intro w hSw; (try dsimp only at hSw); go_simp) <;> with_reducible rfl)
        (try simp only [Act.put, List.setIfInBounds_toArray, List.set_cons_zero, List.set_cons_succ])
        refine held_take 7 (v := ?_) rfl (by kernel_rfl) (by kernel_rfl) (by kernel_rfl) (fun _ _ _ h => h) (by rfl) ?_ (by assumption) ?_
        rotate_left
        · ((intro w hSw; (try dsimp only at hSw); go_simp) <;> with_reducible rfl)
        (try simp only [Act.put, List.setIfInBounds_toArray, List.set_cons_zero, List.set_cons_succ])
        refine held_take 8 (v := ?_) rfl (by kernel_rfl) (by kernel_rfl) (by kernel_rfl) (fun _ _ _ h => h) (by rfl) ?_ (by assumption) ?_
        rotate_left
        · ((intro w hSw; (try dsimp only at hSw); go_simp) <;> with_reducible rfl)
        (try simp only [Act.put, List.setIfInBounds_toArray, List.set_cons_zero, List.set_cons_succ])
        refine held_take 9 (v := ?_) rfl (by kernel_rfl) (by kernel_rfl) (by kernel_rfl) (fun _ _ _ h => h) (by rfl) ?_ (by assumption) ?_
        rotate_left
        · ((intro w hSw; (try dsimp only at hSw); go_simp) <;> with_reducible rfl)
        (try simp only [Act.put, List.setIfInBounds_toArray, List.set_cons_zero, List.set_cons_succ])
        refine held_take 10 (v := ?_) rfl (by kernel_rfl) (by kernel_rfl) (by kernel_rfl) (fun _ _ _ h => h) (by rfl) ?_ (by assumption) ?_
        rotate_left
        · ((intro w hSw; (try dsimp only at hSw); go_simp) <;> with_reducible rfl)
        (try simp only [Act.put, List.setIfInBounds_toArray, List.set_cons_zero, List.set_cons_succ])
        refine held_skip 11 rfl (by kernel_rfl) (by kernel_rfl) (by kernel_rfl) (fun _ _ _ h => h) (by rfl) (by assumption) ?_
        (try simp only [Act.put, List.setIfInBounds_toArray, List.set_cons_zero, List.set_cons_succ])
        refine held_skip 12 rfl (by kernel_rfl) (by kernel_rfl) (by kernel_rfl) (fun _ _ _ h => h) (by rfl) (by assumption) ?_
        (try simp only [Act.put, List.setIfInBounds_toArray, List.set_cons_zero, List.set_cons_succ])
        refine held_skip 13 rfl (by kernel_rfl) (by kernel_rfl) (by kernel_rfl) (fun _ _ _ h => h) (by rfl) (by assumption) ?_
        (try simp only [Act.put, List.setIfInBounds_toArray, List.set_cons_zero, List.set_cons_succ])
        refine held_skip 14 rfl (by kernel_rfl) (by kernel_rfl) (by kernel_rfl) (fun _ _ _ h => h) (by rfl) (by assumption) ?_
        (try simp only [Act.put, List.setIfInBounds_toArray, List.set_cons_zero, List.set_cons_succ])
        refine held_skip 15 rfl (by kernel_rfl) (by kernel_rfl) (by kernel_rfl) (fun _ _ _ h => h) (by rfl) (by assumption) ?_
        (try simp only [Act.put, List.setIfInBounds_toArray, List.set_cons_zero, List.set_cons_succ])
        refine held_skip 16 rfl (by kernel_rfl) (by kernel_rfl) (by kernel_rfl) (fun _ _ _ h => h) (by rfl) (by assumption) ?_
        (try simp only [Act.put, List.setIfInBounds_toArray, List.set_cons_zero, List.set_cons_succ])
        refine held_take 17 (v := ?_) rfl (by kernel_rfl) (by kernel_rfl) (by kernel_rfl) (fun _ _ _ h => h) (by rfl) ?_ (by assumption) ?_
        rotate_left
        · ((intro w hSw; (try dsimp only at hSw); go_simp) <;> with_reducible rfl)
        (try simp only [Act.put, List.setIfInBounds_toArray, List.set_cons_zero, List.set_cons_succ])
        refine held_take 18 (v := ?_) rfl (by kernel_rfl) (by kernel_rfl) (by kernel_rfl) (fun _ _ _ h => h) (by rfl) ?_ (by assumption) ?_
        rotate_left
        · ((intro w hSw; (try dsimp only at hSw); go_simp) <;> with_reducible rfl)
        (try simp only [Act.put, List.setIfInBounds_toArray, List.set_cons_zero, List.set_cons_succ])
        refine wpAnyH_done (by kernel_rfl) ?_ _
        have HXX := Lib.hid (HB3.out.2.2.2.trans hX2)
        clear hX1 hX2 h11 hx11 hx12 hC1 hK1 hK2 hS hHeld
        go_wp2
        go_roundg (n - (i + 1))
        case measure => omega
        case rel => exact ⟨i + 1, by omega, rfl, by go_num, allTo_next HX.out.1 (by rw [HR.out]; simp [hs]), HXX.out⟩
      · have hd : decide (s1 < 0) = false := decide_eq_false hs0; have hd2 : decide (0 < s2) = true := decide_eq_true hs
        refine wp_region_held_drew (S := (S6 rb rb rb cb cb cb 0 1 2 0 1 2 (.int .i64 lo) (.int .i64 up) (.bool false) (.bool xn) (.slice xa xm xc) (.slice ya ym yc'))) (by kernel_rfl) (hS.drew) (fun hHeld => ?_)
        refine held_take 0 (v := ?_) rfl (by kernel_rfl) (by kernel_rfl) (by kernel_rfl) (fun _ _ _ h => h) (by rfl) ?_ (by assumption) ?_
        rotate_left
        · ((intro w hSw; (try dsimp only at hSw); go_simp) <;> with_reducible rfl)
        (try simp only [Act.put, List.setIfInBounds_toArray, List.set_cons_zero, List.set_cons_succ])
        refine held_take 1 (v := ?_) rfl (by kernel_rfl) (by kernel_rfl) (by kernel_rfl) (fun _ _ _ h => h) (by rfl) ?_ (by assumption) ?_
        rotate_left
        · ((intro w hSw; (try dsimp only at hSw); go_simp) <;> with_reducible rfl)
        (try simp only [Act.put, List.setIfInBounds_toArray, List.set_cons_zero, List.set_cons_succ])
        refine held_take 2 (v := ?_) rfl (by kernel_rfl) (by kernel_rfl) (by kernel_rfl) (fun _ _ _ h => h) (by rfl) ?_ (by assumption) ?_
        rotate_left
        · ((intro w hSw; (try dsimp only at hSw); go_simp) <;> with_reducible rfl)
        (try simp only [Act.put, List.setIfInBounds_toArray, List.set_cons_zero, List.set_cons_succ])
        refine held_step 3 rfl (by kernel_rfl) (fun K hK => ?_)
        (go_simp; go_at_call 66; (with_reducible refine (HF1.out _).mono ?_); rintro q1 w11 ⟨v11, rfl, h11, hx11⟩; have hX1 := (Ext.refl (fun _ => False) w3).drew.trans hx11; have hK1 := hS.keep hX1; have hC1 := HC1.out w11 _ hX1 h11; obtain ⟨n11, a11, l11, c11, a12, l12, c12, rfl⟩ := h11.shape)
        refine hK.out _ _ (hK1) (fun hHeld => ?_)
        clear hK K
        (try simp only [Act.put, List.setIfInBounds_toArray, List.set_cons_zero, List.set_cons_succ])
        refine held_step 4 rfl (by kernel_rfl) (fun K hK => ?_)
        (go_simp; go_at_call 53; (with_reducible refine hC1.mono ?_); rintro q2 w12 ⟨rfl, hx12⟩; have hX2 := hX1.trans hx12; have hK2 := hS.keep hX2)
        refine hK.out _ _ (hK2) (fun hHeld => ?_)
        clear hK K
        (try simp only [Act.put, List.setIfInBounds_toArray, List.set_cons_zero, List.set_cons_succ])
        refine held_take 5 (v := ?_) rfl (by kernel_rfl) (by kernel_rfl) (by kernel_rfl) (fun _ _ _ h => h) (by rfl) ?_ (by assumption) ?_
        rotate_left
        · ((intro w hSw; (try dsimp only at hSw); go_simp) <;> with_reducible rfl)
        (try simp only [Act.put, List.setIfInBounds_toArray, List.set_cons_zero, List.set_cons_succ])
        refine held_take 6 (v := ?_) rfl (by kernel_rfl) (by kernel_rfl) (by kernel_rfl) (fun _ _ _ h => h) (by rfl) ?_ (by assumption) ?_
        rotate_left
        · ((intro w hSw; (try dsimp only at hSw); go_simp) <;> with_reducible rfl)
        (try simp only [Act.put, List.setIfInBounds_toArray, List.set_cons_zero, List.set_cons_succ])
        refine held_take 7 (v := ?_) rfl (by kernel_rfl) (by kernel_rfl) (by kernel_rfl) (fun _ _ _ h => h) (by rfl) ?_ (by assumption) ?_
        rotate_left
        · ((intro w hSw; (try dsimp only at hSw); go_simp) <;> with_reducible rfl)
        (try simp only [Act.put, List.setIfInBounds_toArray, List.set_cons_zero, List.set_cons_succ])
        refine held_take 8 (v := ?_) rfl (by kernel_rfl) (by kernel_rfl) (by kernel_rfl) (fun _ _ _ h => h) (by rfl) ?_ (by assumption) ?_
        rotate_left
        · ((intro w hSw; (try dsimp only at hSw); go_simp) <;> with_reducible rfl)
        (try simp only [Act.put, List.setIfInBounds_toArray, List.set_cons_zero, List.set_cons_succ])
        refine held_take 9 (v := ?_) rfl (by kernel_rfl) (by kernel_rfl) (by kernel_rfl) (fun _ _ _ h => h) (by rfl) ?_ (by assumption) ?_
        rotate_left
        · ((intro w hSw; (try dsimp only at hSw); go_simp) <;> with_reducible rfl)
        (try simp only [Act.put, List.setIfInBounds_toArray, List.set_cons_zero, List.set_cons_succ])
        refine held_take 10 (v := ?_) rfl (by kernel_rfl) (by kernel_rfl) (by kernel_rfl) (fun _ _ _ h => h) (by rfl) ?_ (by assumption) ?_
        rotate_left
        · ((intro w hSw; (try dsimp only at hSw); go_simp) <;> with_reducible rfl)
        (try simp only [Act.put, List.setIfInBounds_toArray, List.set_cons_zero, List.set_cons_succ])
        refine held_take 11 (v := ?_) rfl (by kernel_rfl) (by kernel_rfl) (by kernel_rfl) (fun _ _ _ h => h) (by rfl) ?_ (by assumption) ?_
        rotate_left
        · ((intro w hSw; (try dsimp only at hSw); go_simp) <;> with_reducible rfl)
        (try simp only [Act.put, List.setIfInBounds_toArray, List.set_cons_zero, List.set_cons_succ])
        refine held_take 12 (v := ?_) rfl (by kernel_rfl) (by kernel_rfl) (by kernel_rfl) (fun _ _ _ h => h) (by rfl) ?_ (by assumption) ?_
        rotate_left
        · ((intro w hSw; (try dsimp only at hSw); go_simp) <;> with_reducible rfl)
        (try simp only [Act.put, List.setIfInBounds_toArray, List.set_cons_zero, List.set_cons_succ])
        refine held_take 13 (v := ?_) rfl (by kernel_rfl) (by kernel_rfl) (by kernel_rfl) (fun _ _ _ h => h) (by rfl) ?_ (by assumption) ?_
        rotate_left
        · ((intro w hSw; (try dsimp only at hSw); go_simp) <;> with_reducible rfl)
        (try simp only [Act.put, List.setIfInBounds_toArray, List.set_cons_zero, List.set_cons_succ])
        refine held_step 14 rfl (by kernel_rfl) (fun K hK => ?_)
        (go_simp; go_at_call 66; (with_reducible refine (HF2.out _).mono ?_); rintro q3 w13 ⟨v13, rfl, h13, hx13⟩; have hX3 := hX2.trans hx13; have hK3 := hS.keep hX3; have hC2 := HC2.out w13 _ hX3 h13; obtain ⟨n13, a13, l13, c13, a14, l14, c14, rfl⟩ := h13.shape)
        refine hK.out _ _ (hK3) (fun hHeld => ?_)
        clear hK K
        (try simp only [Act.put, List.setIfInBounds_toArray, List.set_cons_zero, List.set_cons_succ])
        refine held_step 15 rfl (by kernel_rfl) (fun K hK => ?_)
        (go_simp; go_at_call 53; (with_reducible refine hC2.mono ?_); rintro q4 w14 ⟨rfl, hx14⟩; have hX4 := hX3.trans hx14; have hK4 := hS.keep hX4)
        refine hK.out _ _ (hK4) (fun hHeld => ?_)
        clear hK K
        (try simp only [Act.put, List.setIfInBounds_toArray, List.set_cons_zero, List.set_cons_succ])
        refine held_take 16 (v := ?_) rfl (by kernel_rfl) (by kernel_rfl) (by kernel_rfl) (fun _ _ _ h => h) (by rfl) ?_ (by assumption) ?_
        rotate_left
        · ((intro w hSw; (try dsimp only at hSw); go_simp) <;> with_reducible rfl)
        (try simp only [Act.put, List.setIfInBounds_toArray, List.set_cons_zero, List.set_cons_succ])
        refine held_take 17 (v := ?_) rfl (by kernel_rfl) (by kernel_rfl) (by kernel_rfl) (fun _ _ _ h => h) (by rfl) ?_ (by assumption) ?_
        rotate_left
        · ((intro w hSw; (try dsimp only at hSw); go_simp) <;> with_reducible rfl)
        (try simp only [Act.put, List.setIfInBounds_toArray, List.set_cons_zero, List.set_cons_succ])
        refine held_take 18 (v := ?_) rfl (by kernel_rfl) (by kernel_rfl) (by kernel_rfl) (fun _ _ _ h => h) (by rfl) ?_ (by assumption) ?_
        rotate_left
        · ((intro w hSw; (try dsimp only at hSw); go_simp) <;> with_reducible rfl)
        (try simp only [Act.put, List.setIfInBounds_toArray, List.set_cons_zero, List.set_cons_succ])
        refine wpAnyH_done (by kernel_rfl) ?_ _
        have HXX := Lib.hid (HB3.out.2.2.2.trans hX4)
        clear hX1 hX2 h11 hx11 hx12 hC1 hK1 hK2 hS hHeld hX3 hX4 h13 hx13 hx14 hC2 hK3 hK4
        go_wp2
        go_ret
        exact ⟨ret_bool (allTo_false (f := insB p x) (i := i) (by rw [HN.out]; exact hin) (by rw [HR.out]; simp [hs])).symm, HXX.out⟩
      · have hd : decide (s1 < 0) = false := decide_eq_false hs0; have hd2 : decide (0 < s2) = false := decide_eq_false hs
        refine wp_region_held_drew (S := (S6 rb rb rb cb cb cb 0 1 2 0 1 2 (.int .i64 lo) (.int .i64 up) (.bool false) (.bool xn) (.slice xa xm xc) (.slice ya ym yc'))) (by kernel_rfl) (hS.drew) (fun hHeld => ?_)
        refine held_take 0 (v := ?_) rfl (by kernel_rfl) (by kernel_rfl) (by kernel_rfl) (fun _ _ _ h => h) (by rfl) ?_ (by assumption) ?_
        rotate_left
        · ((intro w hSw; (try dsimp only at hSw); go_simp) <;> with_reducible rfl)
        (try simp only [Act.put, List.setIfInBounds_toArray, List.set_cons_zero, List.set_cons_succ])
        refine held_take 1 (v := ?_) rfl (by kernel_rfl) (by kernel_rfl) (by kernel_rfl) (fun _ _ _ h => h) (by rfl) ?_ (by assumption) ?_
        rotate_left
        · ((intro w hSw; (try dsimp only at hSw); go_simp) <;> with_reducible rfl)
        (try simp only [Act.put, List.setIfInBounds_toArray, List.set_cons_zero, List.set_cons_succ])
        refine held_take 2 (v := ?_) rfl (by kernel_rfl) (by kernel_rfl) (by kernel_rfl) (fun _ _ _ h => h) (by rfl) ?_ (by assumption) ?_
        rotate_left
        · ((intro w hSw; (try dsimp only at hSw); go_simp) <;> with_reducible rfl)
        (try simp only [Act.put, List.setIfInBounds_toArray, List.set_cons_zero, List.set_cons_succ])
        refine held_step 3 rfl (by kernel_rfl) (fun K hK => ?_)
        (go_simp; go_at_call 66; (with_reducible refine (HF1.out _).mono ?_); rintro q1 w11 ⟨v11, rfl, h11, hx11⟩; have hX1 := (Ext.refl (fun _ => False) w3).drew.trans hx11; have hK1 := hS.keep hX1; have hC1 := HC1.out w11 _ hX1 h11; obtain ⟨n11, a11, l11, c11, a12, l12, c12, rfl⟩ := h11.shape)
        refine hK.out _ _ (hK1) (fun hHeld => ?_)
        clear hK K
        (try simp only [Act.put, List.setIfInBounds_toArray, List.set_cons_zero, List.set_cons_succ])
        refine held_step 4 rfl (by kernel_rfl) (fun K hK => ?_)
        (go_simp; go_at_call 53; (with_reducible refine hC1.mono ?_); rintro q2 w12 ⟨rfl, hx12⟩; have hX2 := hX1.trans hx12; have hK2 := hS.keep hX2)
        refine hK.out _ _ (hK2) (fun hHeld => ?_)
        clear hK K
        (try simp only [Act.put, List.setIfInBounds_toArray, List.set_cons_zero, List.set_cons_succ])
        refine held_take 5 (v := ?_) rfl (by kernel_rfl) (by kernel_rfl) (by kernel_rfl) (fun _ _ _ h => h) (by rfl) ?_ (by assumption) ?_
        rotate_left
        · ((intro w hSw; (try dsimp only at hSw); go_simp) <;> with_reducible rfl)
        (try simp only [Act.put, List.setIfInBounds_toArray, List.set_cons_zero, List.set_cons_succ])
        refine held_take 6 (v := ?_) rfl (by kernel_rfl) (by kernel_rfl) (by kernel_rfl) (fun _ _ _ h => h) (by rfl) ?_ (by assumption) ?_
        rotate_left
        · ((intro w hSw; (try dsimp only at hSw); go_simp) <;> with_reducible rfl)
        (try simp only [Act.put, List.setIfInBounds_toArray, List.set_cons_zero, List.set_cons_succ])
        refine held_take 7 (v := ?_) rfl (by kernel_rfl) (by kernel_rfl) (by kernel_rfl) (fun _ _ _ h => h) (by rfl) ?_ (by assumption) ?_
        rotate_left
        · ((intro w hSw; (try dsimp only at hSw); go_simp) <;> with_reducible rfl)
        (try simp only [Act.put, List.setIfInBounds_toArray, List.set_cons_zero, List.set_cons_succ])
        refine held_take 8 (v := ?_) rfl (by kernel_rfl) (by kernel_rfl) (by kernel_rfl) (fun _ _ _ h => h) (by rfl) ?_ (by assumption) ?_
        rotate_left
        · ((intro w hSw; (try dsimp only at hSw); go_simp) <;> with_reducible rfl)
        (try simp only [Act.put, List.setIfInBounds_toArray, List.set_cons_zero, List.set_cons_succ])
        refine held_take 9 (v := ?_) rfl (by kernel_rfl) (by kernel_rfl) (by kernel_rfl) (fun _ _ _ h => h) (by rfl) ?_ (by assumption) ?_
        rotate_left
        · ((intro w hSw; (try dsimp only at hSw); go_simp) <;> with_reducible rfl)
        (try simp only [Act.put, List.setIfInBounds_toArray, List.set_cons_zero, List.set_cons_succ])
        refine held_take 10 (v := ?_) rfl (by kernel_rfl) (by kernel_rfl) (by kernel_rfl) (fun _ _ _ h => h) (by rfl) ?_ (by assumption) ?_
        rotate_left
        · ((intro w hSw; (try dsimp only at hSw); go_simp) <;> with_reducible rfl)
        (try simp only [Act.put, List.setIfInBounds_toArray, List.set_cons_zero, List.set_cons_succ])
        refine held_take 11 (v := ?_) rfl (by kernel_rfl) (by kernel_rfl) (by kernel_rfl) (fun _ _ _ h => h) (by rfl) ?_ (by assumption) ?_
        rotate_left
        · ((intro w hSw; (try dsimp only at hSw); go_simp) <;> with_reducible rfl)
        (try simp only [Act.put, List.setIfInBounds_toArray, List.set_cons_zero, List.set_cons_succ])
        refine held_take 12 (v := ?_) rfl (by kernel_rfl) (by kernel_rfl) (by kernel_rfl) (fun _ _ _ h => h) (by rfl) ?_ (by assumption) ?_
        rotate_left
        · ((intro w hSw; (try dsimp only at hSw); go_simp) <;> with_reducible rfl)
        (try simp only [Act.put, List.setIfInBounds_toArray, List.set_cons_zero, List.set_cons_succ])
        refine held_take 13 (v := ?_) rfl (by kernel_rfl) (by kernel_rfl) (by kernel_rfl) (fun _ _ _ h => h) (by rfl) ?_ (by assumption) ?_
        rotate_left
        · ((intro w hSw; (try dsimp only at hSw); go_simp) <;> with_reducible rfl)
        (try simp only [Act.put, List.setIfInBounds_toArray, List.set_cons_zero, List.set_cons_succ])
        refine held_step 14 rfl (by kernel_rfl) (fun K hK => ?_)
        (go_simp; go_at_call 66; (with_reducible refine (HF2.out _).mono ?_); rintro q3 w13 ⟨v13, rfl, h13, hx13⟩; have hX3 := hX2.trans hx13; have hK3 := hS.keep hX3; have hC2 := HC2.out w13 _ hX3 h13; obtain ⟨n13, a13, l13, c13, a14, l14, c14, rfl⟩ := h13.shape)
        refine hK.out _ _ (hK3) (fun hHeld => ?_)
        clear hK K
        (try simp only [Act.put, List.setIfInBounds_toArray, List.set_cons_zero, List.set_cons_succ])
        refine held_step 15 rfl (by kernel_rfl) (fun K hK => ?_)
        (go_simp; go_at_call 53; (with_reducible refine hC2.mono ?_); rintro q4 w14 ⟨rfl, hx14⟩; have hX4 := hX3.trans hx14; have hK4 := hS.keep hX4)
        refine hK.out _ _ (hK4) (fun hHeld => ?_)
        clear hK K
        (try simp only [Act.put, List.setIfInBounds_toArray, List.set_cons_zero, List.set_cons_succ])
        refine held_take 16 (v := ?_) rfl (by kernel_rfl) (by kernel_rfl) (by kernel_rfl) (fun _ _ _ h => h) (by rfl) ?_ (by assumption) ?_
        rotate_left
        · ((intro w hSw; (try dsimp only at hSw); go_simp) <;> with_reducible rfl)
        (try simp only [Act.put, List.setIfInBounds_toArray, List.set_cons_zero, List.set_cons_succ])
        refine held_take 17 (v := ?_) rfl (by kernel_rfl) (by kernel_rfl) (by kernel_rfl) (fun _ _ _ h => h) (by rfl) ?_ (by assumption) ?_
        rotate_left
        · ((intro w hSw; (try dsimp only at hSw); go_simp) <;> with_reducible rfl)
        (try simp only [Act.put, List.setIfInBounds_toArray, List.set_cons_zero, List.set_cons_succ])
        refine held_take 18 (v := ?_) rfl (by kernel_rfl) (by kernel_rfl) (by kernel_rfl) (fun _ _ _ h => h) (by rfl) ?_ (by assumption) ?_
        rotate_left
        · ((intro w hSw; (try dsimp only at hSw); go_simp) <;> with_reducible rfl)
        (try simp only [Act.put, List.setIfInBounds_toArray, List.set_cons_zero, List.set_cons_succ])
        refine wpAnyH_done (by kernel_rfl) ?_ _
        have HXX := Lib.hid (HB3.out.2.2.2.trans hX4)
        clear hX1 hX2 h11 hx11 hx12 hC1 hK1 hK2 hS hHeld hX3 hX4 h13 hx13 hx14 hC2 hK3 hK4
        go_wp2
        go_roundg (n - (i + 1))
        case measure => omega
        case rel => exact ⟨i + 1, by omega, rfl, by go_num, allTo_next HX.out.1 (by rw [HR.out]; simp [hs, hs0]), HXX.out⟩
    · obtain rfl : i = n := by omega
      go_wp2
      go_ret
      exact ⟨ret_bool (by rw [insideB_eq, HN.out]; exact HX.out.1.symm), HX.out.2⟩
end Go.Proofs.YtbgienfcmdgaaaaGreat
/-
  Package duality: feasible, Optimal, Unbounded. Conditions: the arguments read as programs, points, multipliers; the numbers are small.
-/
namespace Go.Proofs.YtbgienfcmdgaaaaGreat
open Go.RowKit Go.MapKept
open Go.ChangeMaps (setBlock)

theorem Room.rows {n m T L : Nat} (h : Room n m T L) : m ≤ 1000000 := by
  have h1 := h.all.2.2.2.1
  unfold sizeA at h1
  have := Nat.le_mul_of_pos_right m (show 0 < T * (L + 3) + 2 by omega)
  omega
theorem NOwn.len {w : World} {base : Nat} {v : Value} {l : List Nat} (h : NOwn w base v l) : ∃ ao cap, v = .slice ao l.length cap := h.shape
set_option maxRecDepth 100000 in
set_option maxHeartbeats 4000000 in
theorem feasible_any (w : World) (pv xv : Value) (p : ProgV) (x : List Rat) (L T : Nat) (hp : IsPrg w pv p) (hy : Rats w xv x L) (hs : Small p T L) :
    Calls Tryz.prog 72 #[pv, xv] w (BoolPost w (feasB p x)) := by
  have h1 := hs.room.one
  have hm := hs.room.rows
  obtain ⟨r1, r2, r3, r4, r5, r6, r7, r8, r9⟩ := hs.room.all
  have HP := Lib.hid hp
  have HVal := Lib.hid (fun W (hW : Ext (fun _ => False) w W) => Valid_any W _ p (HP.out.keep hW))
  have HIn := Lib.hid (fun W (hW : Ext (fun _ => False) w W) => Inside_any W _ _ p x L (HP.out.keep hW) (hy.keep hW) h1 (by omega))
  have HVi := Lib.hid (fun W (hW : Ext (fun _ => False) w W) => Violated_any W _ _ p x L T (HP.out.keep hW) (hy.keep hW) h1 hs.terms r6 hm)
  have HQ := Lib.hid (show feasB p x = (validB p && insideB p x && decide (violQ p x = [])) from rfl)
  obtain ⟨vv, rv, rfl, hv, hr⟩ := hp
  clear hv hr hy HP hs r1 r2 r3 r4 r5 r6 r7 r8 r9 h1 hm
  have HB := Lib.hid (And.intro (blk_alloc_at w (.cells #[vv, rv] 25)) ((Ext.refl (fun _ => False) w).alloc (.cells #[vv, rv] 25)))
  go_enter Tryz.func72, Tryz.ntmps72
  go_upto_region 1 with fail
  generalize hw1 : w.alloc (.cells #[vv, rv] 25) = w1 at *
  clear hw1
  obtain ⟨pb, hpb⟩ : ∃ pb, w.heap.size = pb := ⟨_, rfl⟩
  rw [hpb] at HB ⊢
  clear hpb
  have z0 := cellq HB.out.1 0 rfl
  have z1 := cellq HB.out.1 1 rfl
  go_wp2_with fail
  refine (HVal.out w1 HB.out.2).mono ?_
  rintro r2 w2 ⟨rfl, hx2⟩
  have HX2 := Lib.hid hx2
  have y0 := cell_keep z0 hx2
  have y1 := cell_keep z1 hx2
  clear hx2 z0 z1
  cases hvb : validB p with
  | false =>
    rw [hvb] at HQ
    clear hvb
    go_wp2
    go_ret
    exact ⟨ret_bool (by rw [HQ.out]; rfl), HB.out.2.trans HX2.out⟩
  | true =>
    rw [hvb] at HQ
    clear hvb
    go_wp2_with fail
    refine (HIn.out w2 (HB.out.2.trans HX2.out)).mono ?_
    rintro r3 w3 ⟨rfl, hx3⟩
    have HX3 := Lib.hid ((HB.out.2.trans HX2.out).trans hx3)
    have x0 := cell_keep y0 hx3
    have x1 := cell_keep y1 hx3
    clear hx3 y0 y1
    cases hib : insideB p x with
    | false =>
      rw [hib] at HQ
      clear hib
      go_wp2
      go_ret
      exact ⟨ret_bool (by rw [HQ.out]; rfl), HX3.out⟩
    | true =>
      rw [hib] at HQ
      clear hib
      go_wp2_with fail
      refine (HVi.out w3 HX3.out).mono ?_
      rintro r4 w4 ⟨v4, rfl, h4, hx4⟩
      obtain ⟨ao, cap, rfl⟩ := h4.shape
      have HX4 := Lib.hid (HX3.out.trans hx4)
      clear h4 hx4 x0 x1
      have HQ2 : Hid (feasB p x = decide ((violQ p x).length = 0)) := Lib.hid (by
        rw [HQ.out]
        show decide (violQ p x = []) = _
        exact decide_eq_decide.2 List.length_eq_zero_iff.symm)
      clear HQ
      generalize (violQ p x).length = ln at *
      by_cases hl : ln = 0
      · subst hl
        go_wp2
        go_ret
        exact ⟨ret_bool (by rw [HQ2.out]; rfl), HX4.out⟩
      · have hl' : ((ln : Int) == 0) = false := by simpa using hl
        go_wp2
        go_ret
        exact ⟨ret_bool (by rw [HQ2.out, decide_eq_false hl]), HX4.out⟩
theorem boundQ_sz {p : ProgV} {w : World} {pv : Value} {y : List Rat} {L T : Nat} (hp : IsPrg w pv p) (hy : ∀ i : Int, Sz (atQ y i) L) (hs : Small p T L) {q : Rat} (h : boundQ p y = some q) : Sz q (1 + p.vars.length * (sizeA p.rows.length T L + 3 + 3) + (1 + p.rows.length * (L + 3)) + 1) := by
  obtain ⟨vv, rv, rfl, hv, hr⟩ := hp
  unfold boundQ at h
  split at h
  · obtain ⟨l, hl, rfl⟩ := Option.map_eq_some_iff.1 h
    obtain ⟨_, _, rfl⟩ := least_some hl
    have hA := combA_sz hr hy hs.terms
    have h2 := leastS_sz (c := listTo p.vars.length fun i => ((p.v i).co : Rat) - combA p y i) hv (atQ_listTo_sz (L := sizeA p.rows.length T L + 3) (fun i hi => ((Sz.int (hv.ok i hi).co).sub (hA i)).mono (by omega)) (by omega))
    exact ((combB_sz hr hy).add h2).mono (by omega)
  · cases h
theorem costQ_sz {p : ProgV} {w : World} {v : Value} {x : List Rat} {L : Nat} (hv : Vrs w v p.vars) (hx : ∀ i : Int, Sz (atQ x i) L) : Sz (costQ p x) (1 + p.vars.length * (L + 3)) :=
  sumTo_sz (M := L + 2) (fun i hi => ((Sz.int (hv.ok i hi).co).mul (hx i)).mono (by omega))
set_option maxRecDepth 100000 in
set_option maxHeartbeats 4000000 in
theorem Optimal_any (w : World) (pv xv yv : Value) (p : ProgV) (x y : List Rat) (L T : Nat) (hp : IsPrg w pv p) (hx : Rats w xv x L) (hy : Rats w yv y L) (hs : Small p T L) :
    Calls Tryz.prog 33 #[pv, xv, yv] w (BoolPost w (optB p x y)) := by
  have h1 := hs.room.one
  obtain ⟨r1, r2, r3, r4, r5, r6, r7, r8, r9⟩ := hs.room.all
  have HP := Lib.hid hp
  have HFe := Lib.hid (fun W (hW : Ext (fun _ => False) w W) => feasible_any W _ _ p x L T (HP.out.keep hW) (hx.keep hW) hs)
  have HBo := Lib.hid (fun W (hW : Ext (fun _ => False) w W) => Bound_any W _ _ p y L T (HP.out.keep hW) (hy.keep hW) hs)
  have HCos := Lib.hid (fun W (hW : Ext (fun _ => False) w W) => Cost_any W _ _ p x L (HP.out.keep hW) (hx.keep hW) h1 r7)
  have HQ := Lib.hid (show optB p x y = (feasB p x && decide (boundQ p y = some (costQ p x))) from rfl)
  have HBz := Lib.hid (fun q hq => boundQ_sz hp (hy.sz h1) hs (q := q) hq)
  obtain ⟨vv, rv, rfl, hv, hr⟩ := hp
  have hcz := costQ_sz hv (hx.sz h1)
  have HCa := Lib.hid (fun W u u' q (hu : IsRat W u q) (hq : boundQ p y = some q) (hu' : IsRat W u' (costQ p x)) => rcmp_any W u u' q _ 4100000 (hu.reads ((HBz.out q hq).mono (by omega))) (hu'.reads (hcz.mono (by omega))) (by omega) (by omega))
  clear hv hr hx hy HP hs r1 r2 r3 r4 r5 r6 r7 r8 r9 h1 hcz HBz
  generalize boundQ p y = bq at *
  generalize costQ p x = cq at *
  have HB := Lib.hid (And.intro (blk_alloc_at w (.cells #[vv, rv] 25)) ((Ext.refl (fun _ => False) w).alloc (.cells #[vv, rv] 25)))
  go_enter Tryz.func33, Tryz.ntmps33
  go_upto_region 1 with fail
  generalize hw1 : w.alloc (.cells #[vv, rv] 25) = w1 at *
  clear hw1
  obtain ⟨pb, hpb⟩ : ∃ pb, w.heap.size = pb := ⟨_, rfl⟩
  rw [hpb] at HB ⊢
  clear hpb
  have z0 := cellq HB.out.1 0 rfl
  have z1 := cellq HB.out.1 1 rfl
  go_wp2_with fail
  refine (HFe.out w1 HB.out.2).mono ?_
  rintro r2 w2 ⟨rfl, hx2⟩
  have HX2 := Lib.hid (And.intro (blk_keep HB.out.1 hx2) (HB.out.2.trans hx2))
  clear hx2 z0 z1 HB
  cases hfb : feasB p x with
  | false =>
    rw [hfb] at HQ
    clear hfb
    go_wp2
    go_ret
    exact ⟨ret_bool (by rw [HQ.out]; rfl), HX2.out.2⟩
  | true =>
    rw [hfb] at HQ
    clear hfb
    have y0 := cellq HX2.out.1 0 rfl
    have y1 := cellq HX2.out.1 1 rfl
    go_wp2_with fail
    refine (HBo.out w2 HX2.out.2).mono ?_
    intro r3 w3 hop
    obtain ⟨ng, a1, k1, c1, a2, k2, c2, rfl, h3, hx3⟩ := hop.open
    have hxa := hx3.alloc (.cells #[.bool ng, .slice a1 k1 c1, .slice a2 k2 c2] 31)
    have HB4 := Lib.hid (And.intro (blk_keep HX2.out.1 hxa) (And.intro (boxR_new (W := w3) rfl ng a1 k1 c1 a2 k2 c2) (And.intro (h3.keep ((Ext.refl (fun _ => False) w3).alloc (.cells #[.bool ng, .slice a1 k1 c1, .slice a2 k2 c2] 31))) (HX2.out.2.trans hxa))))
    clear h3 hx3 hxa hop y0 y1 HX2
    go_upto_region 4 with fail
    generalize hw4 : w3.alloc (.cells #[.bool ng, .slice a1 k1 c1, .slice a2 k2 c2] 31) = w4 at *
    clear hw4
    obtain ⟨bb, hbb⟩ : ∃ bb, w3.heap.size = bb := ⟨_, rfl⟩
    rw [hbb] at HB4 ⊢
    clear hbb
    cases bq with
    | none =>
      rw [show (none : Option Rat).isSome = false from rfl]
      have hS : S0 w4 := trivial
      refine wp_region_held_drew (S := S0) (by kernel_rfl) (trivial) (fun hHeld => ?_)
      refine held_take 0 (v := ?_) rfl (by kernel_rfl) (by kernel_rfl) (by kernel_rfl) (fun _ _ _ h => h) (by rfl) ?_ (by assumption) ?_
      rotate_left
      · ((intro w hSw; (try dsimp only at hSw); go_simp) <;> with_reducible rfl)
      (try simp only [Act.put, List.setIfInBounds_toArray, List.set_cons_zero, List.set_cons_succ])
      refine held_take 1 (v := ?_) rfl (by kernel_rfl) (by kernel_rfl) (by kernel_rfl) (fun _ _ _ h => h) (by rfl) ?_ (by assumption) ?_
      rotate_left
      · ((intro w hSw; (try dsimp only at hSw); go_simp) <;> with_reducible rfl)
      (try simp only [Act.put, List.setIfInBounds_toArray, List.set_cons_zero, List.set_cons_succ])
      refine held_skip 2 rfl (by kernel_rfl) (by kernel_rfl) (by kernel_rfl) (fun _ _ _ h => h) (by rfl) (by assumption) ?_
      (try simp only [Act.put, List.setIfInBounds_toArray, List.set_cons_zero, List.set_cons_succ])
      refine held_skip 3 rfl (by kernel_rfl) (by kernel_rfl) (by kernel_rfl) (fun _ _ _ h => h) (by rfl) (by assumption) ?_
      (try simp only [Act.put, List.setIfInBounds_toArray, List.set_cons_zero, List.set_cons_succ])
      refine held_skip 4 rfl (by kernel_rfl) (by kernel_rfl) (by kernel_rfl) (fun _ _ _ h => h) (by rfl) (by assumption) ?_
      (try simp only [Act.put, List.setIfInBounds_toArray, List.set_cons_zero, List.set_cons_succ])
      refine held_skip 5 rfl (by kernel_rfl) (by kernel_rfl) (by kernel_rfl) (fun _ _ _ h => h) (by rfl) (by assumption) ?_
      (try simp only [Act.put, List.setIfInBounds_toArray, List.set_cons_zero, List.set_cons_succ])
      refine held_skip 6 rfl (by kernel_rfl) (by kernel_rfl) (by kernel_rfl) (fun _ _ _ h => h) (by rfl) (by assumption) ?_
      (try simp only [Act.put, List.setIfInBounds_toArray, List.set_cons_zero, List.set_cons_succ])
      refine held_skip 7 rfl (by kernel_rfl) (by kernel_rfl) (by kernel_rfl) (fun _ _ _ h => h) (by rfl) (by assumption) ?_
      (try simp only [Act.put, List.setIfInBounds_toArray, List.set_cons_zero, List.set_cons_succ])
      refine held_take 8 (v := ?_) rfl (by kernel_rfl) (by kernel_rfl) (by kernel_rfl) (fun _ _ _ h => h) (by rfl) ?_ (by assumption) ?_
      rotate_left
      · ((intro w hSw; (try dsimp only at hSw); go_simp) <;> with_reducible rfl)
      (try simp only [Act.put, List.setIfInBounds_toArray, List.set_cons_zero, List.set_cons_succ])
      refine held_take 9 (v := ?_) rfl (by kernel_rfl) (by kernel_rfl) (by kernel_rfl) (fun _ _ _ h => h) (by rfl) ?_ (by assumption) ?_
      rotate_left
      · ((intro w hSw; (try dsimp only at hSw); go_simp) <;> with_reducible rfl)
      (try simp only [Act.put, List.setIfInBounds_toArray, List.set_cons_zero, List.set_cons_succ])
      refine wpAnyH_done (by kernel_rfl) ?_ _
      go_wp2
      go_ret
      exact ⟨ret_bool (by rw [HQ.out]; rfl), HB4.out.2.2.2.drew⟩
    | some q =>
      rw [show (some q : Option Rat).isSome = true from rfl]
      have HCo := Lib.hid (fun W (hW : Ext (fun _ => False) w4 W) => HCos.out W (HB4.out.2.2.2.trans hW))
      have HCm := Lib.hid (fun W u (hW : Ext (fun _ => False) w4 W) hu => HCa.out W _ u q (HB4.out.2.2.1.keep hW) rfl hu)
      obtain ⟨x0, x1, x2, -⟩ := HB4.out.2.1.facts
      have hS : S5 pb pb bb bb bb 0 1 0 1 2 vv rv (.bool ng) (.slice a1 k1 c1) (.slice a2 k2 c2) w4 := ⟨cellq HB4.out.1 0 rfl, cellq HB4.out.1 1 rfl, x0, x1, x2⟩
      have hxw := (Ext.refl (fun _ => False) w4)
      have HR : Hid (optB p x y = decide ((q - cq).num.sign = 0)) := Lib.hid (by
        rw [HQ.out]
        show decide (some q = some cq) = _
        exact decide_eq_decide.2 ⟨fun h => (sign_zero _).2 (by rw [Option.some.inj h]; grind), fun h => by have := (sign_zero _).1 h; congr 1; grind⟩)
      clear x0 x1 x2 HQ
      generalize (q - cq).num.sign = sg at *
      refine wp_region_held_drew (S := (S5 pb pb bb bb bb 0 1 0 1 2 vv rv (.bool ng) (.slice a1 k1 c1) (.slice a2 k2 c2))) (by kernel_rfl) (hS.drew) (fun hHeld => ?_)
      refine held_take 0 (v := ?_) rfl (by kernel_rfl) (by kernel_rfl) (by kernel_rfl) (fun _ _ _ h => h) (by rfl) ?_ (by assumption) ?_
      rotate_left
      · ((intro w hSw; (try dsimp only at hSw); go_simp) <;> with_reducible rfl)
      (try simp only [Act.put, List.setIfInBounds_toArray, List.set_cons_zero, List.set_cons_succ])
      refine held_take 1 (v := ?_) rfl (by kernel_rfl) (by kernel_rfl) (by kernel_rfl) (fun _ _ _ h => h) (by rfl) ?_ (by assumption) ?_
      rotate_left
      · ((intro w hSw; (try dsimp only at hSw); go_simp) <;> with_reducible rfl)
      (try simp only [Act.put, List.setIfInBounds_toArray, List.set_cons_zero, List.set_cons_succ])
      refine held_take 2 (v := ?_) rfl (by kernel_rfl) (by kernel_rfl) (by kernel_rfl) (fun _ _ _ h => h) (by rfl) ?_ (by assumption) ?_
      rotate_left
      · ((intro w hSw; (try dsimp only at hSw); go_simp) <;> with_reducible rfl)
      (try simp only [Act.put, List.setIfInBounds_toArray, List.set_cons_zero, List.set_cons_succ])
      refine held_take 3 (v := ?_) rfl (by kernel_rfl) (by kernel_rfl) (by kernel_rfl) (fun _ _ _ h => h) (by rfl) ?_ (by assumption) ?_
      rotate_left
      · ((intro w hSw; (try dsimp only at hSw); go_simp) <;> with_reducible rfl)
      (try simp only [Act.put, List.setIfInBounds_toArray, List.set_cons_zero, List.set_cons_succ])
      refine held_take 4 (v := ?_) rfl (by kernel_rfl) (by kernel_rfl) (by kernel_rfl) (fun _ _ _ h => h) (by rfl) ?_ (by assumption) ?_
      rotate_left
      · ((intro w hSw; (try dsimp only at hSw); go_simp) <;> with_reducible rfl)
      (try simp only [Act.put, List.setIfInBounds_toArray, List.set_cons_zero, List.set_cons_succ])
      refine held_step 5 rfl (by kernel_rfl) (fun K hK => ?_)
      (go_simp; go_at_call 54; (with_reducible refine (HCo.out _ hxw.drew).mono ?_); rintro q1 w11 ⟨v11, rfl, h11, hx11⟩; have hX1 := (Ext.refl (fun _ => False) w4).drew.trans hx11; have hK1 := hS.keep hX1; have hC1 := HCm.out w11 _ hX1 h11; obtain ⟨n11, a11, l11, c11, a12, l12, c12, rfl⟩ := h11.shape)
      refine hK.out _ _ (hK1) (fun hHeld => ?_)
      clear hK K
      (try simp only [Act.put, List.setIfInBounds_toArray, List.set_cons_zero, List.set_cons_succ])
      refine held_step 6 rfl (by kernel_rfl) (fun K hK => ?_)
      (go_simp; go_at_call 53; (with_reducible refine hC1.mono ?_); rintro q2 w12 ⟨rfl, hx12⟩; have hX2 := hX1.trans hx12; have hK2 := hS.keep hX2)
      refine hK.out _ _ (hK2) (fun hHeld => ?_)
      clear hK K
      (try simp only [Act.put, List.setIfInBounds_toArray, List.set_cons_zero, List.set_cons_succ])
      refine held_take 7 (v := ?_) rfl (by kernel_rfl) (by kernel_rfl) (by kernel_rfl) (fun _ _ _ h => h) (by rfl) ?_ (by assumption) ?_
      rotate_left
      · ((intro w hSw; (try dsimp only at hSw); go_simp) <;> with_reducible rfl)
      (try simp only [Act.put, List.setIfInBounds_toArray, List.set_cons_zero, List.set_cons_succ])
      refine held_take 8 (v := ?_) rfl (by kernel_rfl) (by kernel_rfl) (by kernel_rfl) (fun _ _ _ h => h) (by rfl) ?_ (by assumption) ?_
      rotate_left
      · ((intro w hSw; (try dsimp only at hSw); go_simp) <;> with_reducible rfl)
      (try simp only [Act.put, List.setIfInBounds_toArray, List.set_cons_zero, List.set_cons_succ])
      refine held_take 9 (v := ?_) rfl (by kernel_rfl) (by kernel_rfl) (by kernel_rfl) (fun _ _ _ h => h) (by rfl) ?_ (by assumption) ?_
      rotate_left
      · ((intro w hSw; (try dsimp only at hSw); go_simp) <;> with_reducible rfl)
      (try simp only [Act.put, List.setIfInBounds_toArray, List.set_cons_zero, List.set_cons_succ])
      refine wpAnyH_done (by kernel_rfl) ?_ _
      have HXX := Lib.hid (HB4.out.2.2.2.trans hX2)
      clear hX1 hX2 hK1 hK2 hS hHeld h11 hx11 hx12 hC1 hxw
      by_cases hsg : sg = 0
      · have hsg' : (sg == 0) = true := by simpa using hsg
        have HSG := Lib.hid hsg
        subst hsg
        go_wp2
        go_ret
        exact ⟨ret_bool (by rw [HR.out]; rfl), HXX.out⟩
      · have hsg' : (sg == 0) = false := by simpa using hsg
        go_wp2
        go_ret
        exact ⟨ret_bool (by rw [HR.out, decide_eq_false hsg]), HXX.out⟩
end Go.Proofs.YtbgienfcmdgaaaaGreat
/-
  Package duality: Unbounded. Conditions: the arguments read as programs, points; the numbers are small.
-/
namespace Go.Proofs.YtbgienfcmdgaaaaGreat
open Go.RowKit Go.MapKept
open Go.ChangeMaps (setBlock)

def rayI (p : ProgV) (z : List Rat) (i : Nat) : Bool := !decide (atQ z i < 0) && (!decide (0 < atQ z i) || (p.v i).op)
def zeroI (p : ProgV) (z : List Rat) (i : Nat) : Bool := kindB (p.r i).kind (dotQ (p.r i).terms (clipQ p z)) 0
theorem rayI_sign (p : ProgV) (z : List Rat) (i : Nat) : rayI p z i = (!decide ((atQ z i).num.sign < 0) && (!decide (0 < (atQ z i).num.sign) || (p.v i).op)) := by
  unfold rayI
  rw [show decide (atQ z i < 0) = decide ((atQ z i).num.sign < 0) from decide_eq_decide.2 (sign_lt _).symm, show decide (0 < atQ z i) = decide (0 < (atQ z i).num.sign) from decide_eq_decide.2 (sign_gt _).symm]
theorem kind_zero {k : Int} {d : Rat} : kindB k d 0 = if k = 0 then !decide (0 < d.num.sign) else if k = 1 then !decide (d.num.sign < 0) else decide (d.num.sign = 0) := by
  rw [kind_sign, show d - 0 = d from by grind]
set_option maxRecDepth 100000 in
set_option maxHeartbeats 8000000 in
theorem Unbounded_any (w : World) (pv xv zv : Value) (p : ProgV) (x z : List Rat) (L T : Nat) (hp : IsPrg w pv p) (hx : Rats w xv x L) (hz : Rats w zv z L) (hs : Small p T L) :
    Calls Tryz.prog 27 #[pv, xv, zv] w (BoolPost w (unbB p x z)) := by
  have h1 := hs.room.one
  obtain ⟨r1, r2, r3, r4, r5, r6, r7, r8, r9⟩ := hs.room.all
  have HP := Lib.hid hp
  have HFe := Lib.hid (fun W (hW : Ext (fun _ => False) w W) => feasible_any W _ _ p x L T (HP.out.keep hW) (hx.keep hW) hs)
  have HCos := Lib.hid (fun W (hW : Ext (fun _ => False) w W) => Cost_any W _ _ p z L (HP.out.keep hW) (hz.keep hW) h1 r7)
  have HQ := Lib.hid (show unbB p x z = (feasB p x && decide (costQ p z < 0) && allTo p.vars.length (rayI p z) && allTo p.rows.length (zeroI p z)) from rfl)
  obtain ⟨vv, rv, rfl, hv, hr⟩ := hp
  obtain ⟨vo, vc, rfl, -, hvn, -⟩ := hv.shape
  obtain ⟨ro, rc, rfl, -, hrn, -⟩ := hr.shape
  obtain ⟨zo, zc, rfl, hzo, hzn, hzc⟩ := hz.shape
  have hzc63 : zc ≤ 9223372036854775807 := by
    obtain ⟨_, _, ⟨_, _, e, _, h, _⟩, _⟩ := hz
    have e3 := (Value.slice.inj e).2.2
    unfold maxLen at h; omega
  have hcz := costQ_sz hv (hz.sz h1)
  have HG := Lib.hid (fun W u (hu : IsRat W u (costQ p z)) => rsign_any W u _ (1 + p.vars.length * (L + 3)) (hu.reads hcz) (by omega))
  have HGz := Lib.hid (fun W u q (hu : Rrat W u q L) => rsign_any W u q L hu (by omega))
  have HAt := Lib.hid (fun W (hW : Ext (fun _ => False) w W) (i : Nat) => dat_any W _ z L (hz.keep hW) i (by omega))
  have hcl : ∀ i : Int, Sz (atQ (clipQ p z) i) L := fun i => by
    unfold clipQ
    by_cases h : p.vars.length ≤ z.length
    · exact (hz.take p.vars.length h).sz h1 i
    · rw [List.take_of_length_le (by omega)]; exact hz.sz h1 i
  have HDz := Lib.hid (fun i hi => dot_sz (x := clipQ p z) (L := L) (hr.term_ok hi) hcl (hs.terms i hi))
  have HT := Lib.hid hs.terms
  have HTk := Lib.hid (fun k hk => hz.take k hk)
  have HV := Lib.hid (And.intro hv hr)
  have HKind := Lib.hid (fun (hvb : validB p = true) i hi => row_kind (valid_row hvb (i := i) hi))
  clear hv hr hx hz HP hs r1 r2 r3 r4 r5 r7 r9 hcz hcl
  obtain ⟨n, hn'⟩ : ∃ n, p.vars.length = n := ⟨_, rfl⟩
  have HN := Lib.hid hn'
  rw [hn'] at hvn HV HFe HCos HQ ⊢
  clear hn'
  obtain ⟨m, hm'⟩ : ∃ m, p.rows.length = m := ⟨_, rfl⟩
  have HM := Lib.hid hm'
  rw [hm'] at hrn HV HFe HCos HQ HDz HT HKind ⊢
  clear hm'
  generalize hzl : z.length = zn at *
  have HZL := Lib.hid hzl
  clear hzl
  have HB := Lib.hid (And.intro (blk_alloc_at w (.cells #[.slice vo n vc, .slice ro m rc] 25)) ((Ext.refl (fun _ => False) w).alloc (.cells #[.slice vo n vc, .slice ro m rc] 25)))
  go_enter Tryz.func27, Tryz.ntmps27
  go_upto_region 1 with fail
  generalize hw1 : w.alloc (.cells #[.slice vo n vc, .slice ro m rc] 25) = w1 at *
  clear hw1
  obtain ⟨pb, hpb⟩ : ∃ pb, w.heap.size = pb := ⟨_, rfl⟩
  rw [hpb] at HB ⊢
  clear hpb
  have z0 := cellq HB.out.1 0 rfl
  have z1 := cellq HB.out.1 1 rfl
  go_wp2_with fail
  refine (HFe.out w1 HB.out.2).mono ?_
  rintro r2 w2 ⟨rfl, hx2⟩
  have HX2 := Lib.hid (And.intro (blk_keep HB.out.1 hx2) (HB.out.2.trans hx2))
  clear hx2 z0 z1 HB HFe
  cases hfb : feasB p x with
  | false =>
    rw [hfb] at HQ
    clear hfb
    go_wp2
    go_ret
    exact ⟨ret_bool (by rw [HQ.out]; rfl), HX2.out.2⟩
  | true =>
    have HK := Lib.hid (fun i hi => HKind.out (feas_parts hfb).1 i hi)
    rw [hfb] at HQ
    clear hfb HKind
    have y0 := cellq HX2.out.1 0 rfl
    have y1 := cellq HX2.out.1 1 rfl
    go_wp2_with fail
    refine (HCos.out w2 HX2.out.2).mono ?_
    rintro r3 w3 ⟨v3, rfl, h3, hx3⟩
    have HG3 := Lib.hid (HG.out w3 v3 h3)
    have HX3 := Lib.hid hx3
    clear h3 hx3 HG HCos y0 y1
    go_wp2_with fail
    refine HG3.out.mono ?_
    rintro r4 w4 ⟨rfl, hx4⟩
    have hx24 := HX3.out.trans hx4
    have HX4 := Lib.hid (And.intro (blk_keep HX2.out.1 hx24) (HX2.out.2.trans hx24))
    have HC : Hid (decide (costQ p z < 0) = decide ((costQ p z).num.sign < 0)) := Lib.hid (decide_eq_decide.2 (sign_lt _).symm)
    clear hx4 hx24 HX3 HX2 HG3
    rw [HC.out] at HQ
    clear HC
    generalize (costQ p z).num.sign = cs at *
    by_cases hcs : cs < 0
    · have HQ2 : Hid (unbB p x z = (allTo n (rayI p z) && allTo m (zeroI p z))) := Lib.hid (by rw [HQ.out, decide_eq_true hcs]; simp)
      clear HQ
      have x0 := cellq HX4.out.1 0 rfl
      go_wp2_with fail
      clear hcs
      go_loopg [27] n (fun gg v27 wr => ∃ i : Nat, i ≤ n ∧ gg = n - i ∧ v27 = .int .i64 i ∧ allTo i (rayI p z) = true ∧ Ext (fun _ => False) w4 wr)
      case atStart => exact ⟨0, Nat.zero_le _, rfl, rfl, rfl, Ext.refl _ _⟩
      case round =>
        clear x0
        obtain ⟨i, hi, rfl, rfl, hall, hx⟩ := hrel
        have HX := Lib.hid (And.intro hall hx)
        clear hall hx
        by_cases hin : i < n
        · have i0 : (i : Int) < (n : Int) := by omega
          obtain ⟨b, off, rfl, -, e0, e1, e2, e3, e4, -⟩ := (HV.out.1.keep (HX4.out.2.trans HX.out.2)).atp i (by rw [HN.out]; exact hin)
          have HBV := Lib.hid (And.intro (BoxV.new wr (p.v i)) ((Ext.refl (fun _ => False) wr).alloc (.cells #[.int .i64 (p.v i).lo, .int .i64 (p.v i).up, .bool (p.v i).op, .bool (p.v i).ig, .int .i64 (p.v i).co] 63)))
          have HR := Lib.hid (rayI_sign p z i)
          go_upto_region 6 with fail
          generalize hw5 : wr.alloc (.cells #[.int .i64 (p.v i).lo, .int .i64 (p.v i).up, .bool (p.v i).op, .bool (p.v i).ig, .int .i64 (p.v i).co] 63) = w5 at *
          clear hw5 e0 e1 e2 e3 e4
          obtain ⟨vb, hvb⟩ : ∃ vb, wr.heap.size = vb := ⟨_, rfl⟩
          rw [hvb] at HBV ⊢
          clear hvb
          have HE := Lib.hid ((HX4.out.2.trans HX.out.2).trans HBV.out.2)
          go_wp2_with fail
          refine (HAt.out w5 HE.out i).mono ?_
          rintro r6 w6 ⟨v6, rfl, h6, hx6⟩
          have HG6 := Lib.hid (HGz.out w6 v6 _ h6)
          have HX6 := Lib.hid hx6
          clear h6 hx6
          go_wp2_with fail
          refine HG6.out.mono ?_
          rintro r7 w7 ⟨rfl, hx7⟩
          have hx57 := HX6.out.trans hx7
          have f2 := (HBV.out.1.keep hx57).facts.2.2.1
          have HE7 := Lib.hid (HE.out.trans hx57)
          have HE4 := Lib.hid ((HX.out.2.trans HBV.out.2).trans hx57)
          clear hx7 hx57 HX6 HG6 HBV HE
          generalize (atQ z i).num.sign = sg at *
          generalize (p.v i).op = o at *
          have hcase : sg < 0 ∨ (¬ sg < 0 ∧ 0 < sg ∧ o = false) ∨ (¬ sg < 0 ∧ 0 < sg ∧ o = true) ∨ (¬ sg < 0 ∧ ¬ 0 < sg) := by cases o <;> simp <;> omega
          rcases hcase with hs | ⟨hs, hs2, rfl⟩ | ⟨hs, hs2, rfl⟩ | ⟨hs, hs2⟩
          · go_wp2
            go_ret
            exact ⟨ret_bool (by rw [HQ2.out, allTo_false (i := i) hin (by rw [HR.out]; simp [hs])]; rfl), HE7.out⟩
          · go_wp2
            go_ret
            exact ⟨ret_bool (by rw [HQ2.out, allTo_false (i := i) hin (by rw [HR.out]; simp [hs2])]; rfl), HE7.out⟩
          · go_wp2
            go_roundg (n - (i + 1))
            case measure => omega
            case rel => exact ⟨i + 1, by omega, rfl, by go_num, allTo_next HX.out.1 (by rw [HR.out]; simp [hs]), HE4.out⟩
          · go_wp2
            go_roundg (n - (i + 1))
            case measure => omega
            case rel => exact ⟨i + 1, by omega, rfl, by go_num, allTo_next HX.out.1 (by rw [HR.out]; simp [hs, hs2]), HE4.out⟩
        · obtain rfl : i = n := by omega
          have HQ3 : Hid (unbB p x z = allTo m (zeroI p z)) := Lib.hid (by rw [HQ2.out, HX.out.1]; rfl)
          have HB5 := Lib.hid (And.intro (blk_keep HX4.out.1 HX.out.2) (HX4.out.2.trans HX.out.2))
          clear HQ2 HX HX4 hin
          have x0 := cellq HB5.out.1 0 rfl
          have x1 := cellq HB5.out.1 1 rfl
          go_upto_region 10 with fail
          go_cut [2] (fun v2 wx => Rats w v2 (clipQ p z) L ∧ wx = wr)
          case first =>
            have HCk : Hid (clipQ p z = z.take i) := Lib.hid (by unfold clipQ; rw [HN.out])
            cases zo with
            | none =>
              have hc0 : zc = 0 := hzo rfl
              subst hc0
              obtain rfl : zn = 0 := by omega
              clear hzo
              go_wp2
              all_goals
                go_meet
                refine ⟨?_, rfl⟩
                rw [HCk.out, List.take_of_length_le (by rw [HZL.out]; omega), ← List.take_of_length_le (i := 0) (l := z) (by rw [HZL.out]; exact Nat.le_refl _)]
                exact HTk.out 0 (Nat.le_refl _)
            | some a =>
              clear hzo
              by_cases h : i ≤ zn
              · have h' : (i : Int) ≤ (zn : Int) := by omega
                have hm : min (zn : Int) (i : Int) = (i : Int) := by omega
                go_wp2
                all_goals
                  go_meet
                  refine ⟨?_, rfl⟩
                  rw [HCk.out]
                  exact HTk.out i h
              · have h' : (zn : Int) < (i : Int) := by omega
                have hm : min (zn : Int) (i : Int) = (zn : Int) := by omega
                go_wp2
                all_goals
                  go_meet
                  refine ⟨?_, rfl⟩
                  rw [HCk.out, List.take_of_length_le (by rw [HZL.out]; omega), ← List.take_of_length_le (i := zn) (l := z) (by rw [HZL.out]; exact Nat.le_refl _)]
                  exact HTk.out zn (Nat.le_refl _)
          case rest =>
            obtain ⟨hcl, rfl⟩ := hcut
            obtain ⟨co, cc, rfl, -, -, -⟩ := hcl.shape
            have HCl := Lib.hid hcl
            clear hcl
            have HD := Lib.hid (fun W (hW : Ext (fun _ => False) w W) i (hi : i < m) ta tc (htm : Tms w (.slice ta (p.r i).terms.length tc) (p.r i).terms) => Dot_any W _ _ _ (clipQ p z) L (htm.keep hW) (HCl.out.keep hW) h1 (by
              have := Nat.mul_le_mul_right (L + 3) (HT.out i hi)
              omega))
            clear HTk
            generalize (clipQ p z).length = cn at *
            go_wp2_with fail
            clear x0 x1
            go_loopg [59] m (fun gg v59 wq => ∃ k : Nat, k ≤ m ∧ gg = m - k ∧ v59 = .int .i64 k ∧ allTo k (zeroI p z) = true ∧ Ext (fun _ => False) w wq)
            case atStart => exact ⟨0, Nat.zero_le _, rfl, rfl, rfl, HB5.out.2⟩
            case round =>
              obtain ⟨k, hk, rfl, rfl, hall, hx⟩ := hrel
              have HX := Lib.hid (And.intro hall hx)
              clear hall hx
              by_cases hkm : k < m
              · have k0 : (k : Int) < (m : Int) := by omega
                obtain ⟨b, off, ta, tc, rfl, -, e0, e1, e2, e3, e4, -, htm⟩ := HV.out.2.atp k (by rw [HM.out]; exact hkm)
                replace e0 := cell_keep e0 HX.out.2
                replace e1 := cell_keep e1 HX.out.2
                replace e2 := cell_keep e2 HX.out.2
                replace e3 := cell_keep e3 HX.out.2
                replace e4 := cell_keep e4 HX.out.2
                have HDk := Lib.hid (fun W hW => HD.out W hW k hkm ta tc htm)
                have HDs := Lib.hid (HDz.out k hkm)
                have HKk := Lib.hid (HK.out k hkm)
                have HR0 := Lib.hid (show zeroI p z k = _ from kind_zero)
                clear htm
                obtain ⟨tl, htl⟩ : ∃ tl, (p.r k).terms.length = tl := ⟨_, rfl⟩
                rw [htl] at e3 HDk
                clear htl
                obtain ⟨D, hD⟩ : ∃ D, dotQ (p.r k).terms (clipQ p z) = D := ⟨_, rfl⟩
                rw [hD] at HDk HDs HR0
                clear hD
                obtain ⟨kd, hkd⟩ : ∃ kd, (p.r k).kind = kd := ⟨_, rfl⟩
                rw [hkd] at e2 HR0 HKk
                clear hkd
                generalize (p.r k).name = nm at *
                generalize (p.r k).group = gr at *
                generalize (p.r k).bound = bd at *
                have HB6 := Lib.hid (And.intro (blk_alloc_at wr (.cells #[.string nm, .int .i64 gr, .int .i64 kd, .slice ta tl tc, .int .i64 bd] 58)) ((Ext.refl (fun _ => False) wr).alloc (.cells #[.string nm, .int .i64 gr, .int .i64 kd, .slice ta tl tc, .int .i64 bd] 58)))
                go_upto_region 14 with fail
                generalize hw6 : wr.alloc (.cells #[.string nm, .int .i64 gr, .int .i64 kd, .slice ta tl tc, .int .i64 bd] 58) = w6 at *
                clear hw6 e0 e1 e2 e3 e4
                obtain ⟨rb, hrb⟩ : ∃ rb, wr.heap.size = rb := ⟨_, rfl⟩
                rw [hrb] at HB6 ⊢
                clear hrb
                have t3 := cellq HB6.out.1 3 rfl
                go_wp2_with fail
                refine (HDk.out w6 (HX.out.2.trans HB6.out.2)).mono ?_
                rintro r7 w7 ⟨v7, rfl, h7, hx7⟩
                have HG7 := Lib.hid (rsign_any w7 v7 D (1 + T * (L + 3)) (h7.reads HDs.out) (by omega))
                have HX7 := Lib.hid hx7
                clear h7 hx7 t3 HDk HDs
                go_wp2_with fail
                refine HG7.out.mono ?_
                rintro r8 w8 ⟨rfl, hx8⟩
                have hx68 := HX7.out.trans hx8
                have t2 := cell_keep (cellq HB6.out.1 2 rfl) hx68
                have HE8 := Lib.hid ((HX.out.2.trans HB6.out.2).trans hx68)
                clear hx8 hx68 HX7 HG7 HB6
                generalize D.num.sign = sg at *
                have hkk := HKk.out
                have hcase : (kd = 0 ∧ 0 < sg) ∨ (kd = 0 ∧ ¬ 0 < sg) ∨ (kd = 1 ∧ sg < 0) ∨ (kd = 1 ∧ ¬ sg < 0) ∨ (kd = 2 ∧ ¬ sg = 0) ∨ (kd = 2 ∧ sg = 0) := by omega
                clear hkk HKk
                rcases hcase with ⟨rfl, hs⟩ | ⟨rfl, hs⟩ | ⟨rfl, hs⟩ | ⟨rfl, hs⟩ | ⟨rfl, hs⟩ | ⟨rfl, hs⟩
                · go_wp2
                  go_ret
                  exact ⟨ret_bool (by rw [HQ3.out, allTo_false (i := k) hkm (by rw [HR0.out]; simp [hs])]), HE8.out⟩
                · go_wp2
                  go_roundg (m - (k + 1))
                  case measure => omega
                  case rel => exact ⟨k + 1, by omega, rfl, by go_num, allTo_next HX.out.1 (by rw [HR0.out]; simp [hs]), HE8.out⟩
                · go_wp2
                  go_ret
                  exact ⟨ret_bool (by rw [HQ3.out, allTo_false (i := k) hkm (by rw [HR0.out]; simp [hs])]), HE8.out⟩
                · go_wp2
                  go_roundg (m - (k + 1))
                  case measure => omega
                  case rel => exact ⟨k + 1, by omega, rfl, by go_num, allTo_next HX.out.1 (by rw [HR0.out]; simp [hs]), HE8.out⟩
                · have s1 : (sg == 0) = false := by simpa using hs
                  have s2 : (sg != 0) = true := by simpa using hs
                  go_wp2
                  go_ret
                  exact ⟨ret_bool (by rw [HQ3.out, allTo_false (i := k) hkm (by rw [HR0.out]; simp [hs])]), HE8.out⟩
                · have HS0 := Lib.hid hs
                  subst hs
                  go_wp2
                  go_roundg (m - (k + 1))
                  case measure => omega
                  case rel => exact ⟨k + 1, by omega, rfl, by go_num, allTo_next HX.out.1 (by rw [HR0.out]; simp), HE8.out⟩
              · obtain rfl : k = m := by omega
                go_wp2
                go_ret
                exact ⟨ret_bool (by rw [HQ3.out]; exact HX.out.1.symm), HX.out.2⟩
    · go_wp2
      go_ret
      exact ⟨ret_bool (by rw [HQ.out, decide_eq_false (p := cs < 0) (by omega)]; simp), HX4.out.2⟩
end Go.Proofs.YtbgienfcmdgaaaaGreat
/-
  Maps with int keys, as the list of their entries: look up, store, len. Conditions: none beyond each lemma's own.
-/
namespace Go.Proofs.YtbgienfcmdgaaaaGreat
open Go.RowKit Go.MapKept
open Go.ChangeMaps (setBlock)

section
variable {α : Type}
/-- the value at a key, the first one -/
def iget : List (Int × α) → Int → Option α
  | [], _ => none
  | (k, v) :: r, s => if k = s then some v else iget r s
/-- a value laid at a key: in its place, or at the end -/
def iput : List (Int × α) → Int → α → List (Int × α)
  | [], s, v => [(s, v)]
  | (k, x) :: r, s, v => if k = s then (k, v) :: r else (k, x) :: iput r s v
theorem iget_none {l : List (Int × α)} {s : Int} (h : iget l s = none) : ∀ p ∈ l, p.1 ≠ s := by
  induction l with
  | nil => intro p hp; cases hp
  | cons q r ih =>
    obtain ⟨a, b⟩ := q
    simp only [iget] at h
    split at h
    · cases h
    · rename_i hn
      intro p hp
      rcases List.mem_cons.1 hp with rfl | hp
      · exact hn
      · exact ih h p hp
theorem iget_mem {l : List (Int × α)} {s : Int} {v : α} (h : iget l s = some v) : (s, v) ∈ l := by
  induction l with
  | nil => cases h
  | cons q r ih =>
    obtain ⟨a, b⟩ := q
    simp only [iget] at h
    split at h
    · rename_i e; subst e; cases h; simp
    · exact List.mem_cons_of_mem _ (ih h)
theorem iget_iput (l : List (Int × α)) (k : Int) (v : α) (k' : Int) : iget (iput l k v) k' = if k' = k then some v else iget l k' := by
  induction l with
  | nil =>
    simp only [iput, iget]
    by_cases h : k = k'
    · rw [if_pos h, if_pos h.symm]
    · rw [if_neg h, if_neg (Ne.symm h)]
  | cons p r ih =>
    obtain ⟨a, b⟩ := p
    simp only [iput]
    by_cases h : a = k
    · subst h
      rw [if_pos rfl]
      simp only [iget]
      by_cases h' : a = k'
      · subst h'; rw [if_pos rfl, if_pos rfl]
      · rw [if_neg h', if_neg h', if_neg (Ne.symm h')]
    · rw [if_neg h]
      simp only [iget]
      rw [ih]
      by_cases h' : a = k'
      · subst h'; rw [if_pos rfl, if_neg h, if_pos rfl]
      · rw [if_neg h', if_neg h']
theorem iput_length (l : List (Int × α)) (s : Int) (v : α) : (iput l s v).length ≤ l.length + 1 := by
  induction l with
  | nil => simp [iput]
  | cons p r ih =>
    obtain ⟨a, b⟩ := p
    simp only [iput]
    split
    · simp
    · simp; omega
theorem mem_iput {l : List (Int × α)} {s : Int} {v : α} {p : Int × α} (h : p ∈ iput l s v) : p = (s, v) ∨ p ∈ l := by
  induction l with
  | nil => simp [iput] at h; exact .inl h
  | cons q r ih =>
    obtain ⟨a, b⟩ := q
    simp only [iput] at h
    split at h
    · rename_i e; subst e
      rcases List.mem_cons.1 h with h | h
      · exact .inl h
      · exact .inr (List.mem_cons_of_mem _ h)
    · rcases List.mem_cons.1 h with h | h
      · exact .inr (by rw [h]; simp)
      · exact (ih h).elim .inl (fun h => .inr (List.mem_cons_of_mem _ h))
theorem iput_nodup {l : List (Int × α)} {s : Int} {v : α} (h : (l.map Prod.fst).Nodup) : ((iput l s v).map Prod.fst).Nodup := by
  induction l with
  | nil => simp [iput]
  | cons q r ih =>
    obtain ⟨a, b⟩ := q
    simp only [List.map_cons, List.nodup_cons] at h
    simp only [iput]
    split
    · simpa using h
    · rename_i e
      simp only [List.map_cons, List.nodup_cons]
      refine ⟨fun hm => ?_, ih h.2⟩
      obtain ⟨p, hp, hpe⟩ := List.mem_map.1 hm
      rcases mem_iput hp with h' | h'
      · subst h'; exact e hpe.symm
      · exact h.1 (List.mem_map.2 ⟨p, h', hpe⟩)
theorem iget_isSome {l : List (Int × α)} {k : Int} : (iget l k).isSome = true ↔ k ∈ l.map Prod.fst := by
  induction l with
  | nil => simp [iget]
  | cons q r ih =>
    obtain ⟨a, b⟩ := q
    simp only [iget, List.map_cons, List.mem_cons]
    split
    · rename_i e; subst e; simp
    · rename_i e; rw [ih]; exact ⟨.inr, fun h => h.elim (fun h => absurd h.symm e) id⟩
/-- a list of entries, its values sent through f -/
def imap {β : Type} (f : α → β) (l : List (Int × α)) : List (Int × β) := l.map fun p => (p.1, f p.2)
theorem iget_imap {β : Type} (f : α → β) (l : List (Int × α)) (k : Int) : iget (imap f l) k = (iget l k).map f := by
  induction l with
  | nil => rfl
  | cons p r ih =>
    obtain ⟨a, b⟩ := p
    simp only [imap, List.map_cons, iget] at *
    split
    · rfl
    · exact ih
theorem iput_imap {β : Type} (f : α → β) (l : List (Int × α)) (k : Int) (v : α) : iput (imap f l) k (f v) = imap f (iput l k v) := by
  induction l with
  | nil => rfl
  | cons p r ih =>
    obtain ⟨a, b⟩ := p
    simp only [imap, List.map_cons, iput] at *
    split
    · rfl
    · rw [ih]; rfl
end
/-- the block's entries, in order: a list of keys and values -/
def IntMap (es : Array MapEntry) (l : List (Int × Value)) : Prop :=
  es.toList.map (fun e => (e.key, e.val)) = l.map fun p => (Value.int .i64 p.1, p.2)
theorem IntMap.size {es : Array MapEntry} {l : List (Int × Value)} (h : IntMap es l) : es.size = l.length := by
  have := congrArg List.length h
  simpa using this
theorem findNow_int (s : Int) : ∀ (es : List MapEntry) (l : List (Int × Value)) (i : Nat), es.map (fun e => (e.key, e.val)) = (l.map fun p => (Value.int .i64 p.1, p.2)) →
    (iget l s = none ∧ Instr.findNow (.int .i64) (.int .i64 s) es i = some none ∧ ∀ v, iput l s v = l ++ [(s, v)]) ∨
    ∃ j e v, iget l s = some v ∧ Instr.findNow (.int .i64) (.int .i64 s) es i = some (some (i + j, v)) ∧ es[j]? = some e ∧ e.key = .int .i64 s ∧
      ∀ u, (es.modify j fun e => { e with key := .int .i64 s, val := u }).map (fun e => (e.key, e.val)) = (iput l s u).map fun p => (Value.int .i64 p.1, p.2)
  | [], [], i, _ => .inl ⟨rfl, rfl, fun _ => rfl⟩
  | [], _ :: _, _, h => by simp at h
  | _ :: _, [], _, h => by simp at h
  | e :: es, (k, v) :: l, i, h => by
    simp only [List.map_cons, List.cons.injEq, Prod.mk.injEq] at h
    obtain ⟨⟨hk, hv⟩, hr⟩ := h
    by_cases hs : k = s
    · subst hs
      refine .inr ⟨0, e, v, by simp [iget], by simp [Instr.findNow, Instr.sameNow, hk, hv], rfl, hk, fun u => ?_⟩
      simp [iput, hr]
    · have hne : (s == k) = false := by
        cases hq : s == k
        · rfl
        · exact absurd (eq_of_beq hq).symm hs
      rcases findNow_int s es l (i + 1) hr with ⟨h1, h2, h3⟩ | ⟨j, e', v', h1, h2, h3, h4, h5⟩
      · exact .inl ⟨by simp [iget, hs, h1], by simp [Instr.findNow, Instr.sameNow, hk, hne, h2], fun v => by simp [iput, hs, h3]⟩
      · refine .inr ⟨j + 1, e', v', by simp [iget, hs, h1], by simp [Instr.findNow, Instr.sameNow, hk, hne, h2]; omega, by simpa using h3, h4, fun u => ?_⟩
        have := h5 u
        simp [iput, hs, hk, hv, this]
section
variable {P : Program} {t k e : TypeId} {w : World} {b : Nat} {es : Array MapEntry} {clock : Nat} {l : List (Int × Value)}
theorem run_lookup_int (ht : P.underlying t = some (.map k e)) (hk : P.underlying k = some (.int .i64)) (hb : blk w b = some (.map es clock)) (hl : IntMap es l)
    {z : Value} (hz : (zeroValue e).run P w = .ok z w) (s : Int) (ok : Bool) :
    (Instr.lookup t (.map (some b)) (.int .i64 s) ok).run P w = .ok (if ok then .tuple #[(iget l s).getD z, .bool (iget l s).isSome] else (iget l s).getD z) w := by
  rcases findNow_int s es.toList l 0 hl with ⟨h1, h2, _⟩ | ⟨j, e', v, h1, h2, _⟩
  · simp [Instr.lookup, run_underlying ht, MapKept.run_getObj_map hb, MapKept.run_checkKey hk (show IsKey (.int .i64) (.int .i64 s) from rfl), MapKept.run_findKey hk h2, Result.andThen, hz, h1]
  · simp [Instr.lookup, run_underlying ht, MapKept.run_getObj_map hb, MapKept.run_checkKey hk (show IsKey (.int .i64) (.int .i64 s) from rfl), MapKept.run_findKey hk h2, Result.andThen, h1]
/-- the block behind a store at a key: the same whatever the world; the stamps kept -/
theorem run_update_int (ht : P.underlying t = some (.map k e)) (hk : P.underlying k = some (.int .i64)) (hl : IntMap es l) (hst : Stamped es clock) (s : Int) (u : Value) :
    ∃ es' clock', (∀ w : World, blk w b = some (.map es clock) → (Instr.mapUpdate t (.map (some b)) (.int .i64 s) u).run P w = .ok () (setBlock w b (.map es' clock'))) ∧ IntMap es' (iput l s u) ∧ Stamped es' clock' := by
  rcases findNow_int s es.toList l 0 hl with ⟨h1, h2, h3⟩ | ⟨j, e', v, h1, h2, h4, h5, h6⟩
  · refine ⟨es.push { key := .int .i64 s, val := u, born := clock }, clock + 1, fun w hb => ?_, ?_, ?_⟩
    · simp [Instr.mapUpdate, run_underlying ht, MapKept.run_getObj_map hb, MapKept.run_checkKey hk (show IsKey (.int .i64) (.int .i64 s) from rfl), MapKept.run_findKey hk h2, Result.andThen, MapKept.run_setObj_map _ hb, ChangeMaps.setBlock]
    · unfold IntMap at *
      simp [hl, h3]
    · refine stamped_push hst (fun x hx e => ?_)
      have : (x.key, x.val) ∈ es.toList.map (fun e => (e.key, e.val)) := List.mem_map.2 ⟨x, hx, rfl⟩
      rw [hl] at this
      obtain ⟨p, hp, hpe⟩ := List.mem_map.1 this
      refine iget_none h1 p hp ?_
      have hk2 : Value.int .i64 p.1 = x.key := congrArg Prod.fst hpe
      rw [e] at hk2
      exact (Value.int.inj hk2).2
  · refine ⟨es.modify j fun e => { e with key := .int .i64 s, val := u }, clock, fun w hb => ?_, ?_, ?_⟩
    · have h4' : es[j]? = some e' := by simpa using h4
      simp only [Nat.zero_add] at h2
      simp [Instr.mapUpdate, run_underlying ht, MapKept.run_getObj_map hb, MapKept.run_checkKey hk (show IsKey (.int .i64) (.int .i64 s) from rfl), MapKept.run_findKey hk h2, Result.andThen, MapKept.run_setObj_map _ hb, ChangeMaps.setBlock, h4', h5, run_keyThatStays (show IsKey (.int .i64) (.int .i64 s) from rfl)]
    · unfold IntMap
      have := h6 u
      rw [Array.toList_modify]
      exact this
    · refine stamped_modify hst j _ (fun _ _ => rfl) (fun x _ hx => ?_)
      have h4' : es[j]? = some e' := by simpa using h4
      rw [h4'] at hx
      cases hx
      exact h5.symm
end
/-- block b is a map of int keys that reads as l -/
def IsIMap (w : World) (b : Nat) (l : List (Int × Value)) : Prop := ∃ es clock, blk w b = some (.map es clock) ∧ IntMap es l ∧ Stamped es clock
theorem IsIMap.ext {S : Nat → Prop} {w w' : World} {b : Nat} {l : List (Int × Value)} (h : IsIMap w b l) (hx : Ext S w w') (hn : ¬ S b) : IsIMap w' b l := by
  obtain ⟨es, c, hb, r⟩ := h
  exact ⟨es, c, (hx.blk (blk_lt hb) hn).trans hb, r⟩
theorem IsIMap.lt {w : World} {b : Nat} {l : List (Int × Value)} (h : IsIMap w b l) : b < w.heap.size := by
  obtain ⟨es, c, hb, r⟩ := h
  exact blk_lt hb
theorem IsIMap.new (w : World) : IsIMap (w.alloc (.map #[] 0)) w.heap.size [] := ⟨#[], 0, blk_alloc_at _ _, rfl, stamped_empty 0⟩
/-- the map as the library's contracts know it: every element reads as nil -/
def asNil {H : Type} : Value → Option (DataW H × List MemPlace) := fun _ => some (.nil, [])
end Go.Proofs.YtbgienfcmdgaaaaGreat
