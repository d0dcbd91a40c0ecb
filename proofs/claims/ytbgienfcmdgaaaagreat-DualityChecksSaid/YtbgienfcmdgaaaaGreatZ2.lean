/-
  Package natural: shift, short. Conditions: the arguments read as digits, lengths bounded.
-/
import Derived.Test.YtbgienfcmdgaaaaGreatZ1
import Derived.Laws.Bits64b
import Derived.BigQuiet
import Derived.Shelf.Small.Bits
import Derived.Test.YtbgienfcmdgaaaaGreatProg
set_option linter.unusedVariables false
namespace Go.Proofs.YtbgienfcmdgaaaaGreat
open Go.RowKit Go.MapKept
open Go.ChangeMaps (setBlock)

theorem or_shift {n x c : Nat} (hn : n ≤ 32) (hx : x < 4294967296) (hc : c < 2 ^ n) : bits BinOp.or .u64 (IntKind.u64.wrap ((x : Int) * 2 ^ n)) (c : Int) = ((2 ^ n * x + c : Nat) : Int) := by
  have hp : (2 : Nat) ^ n ≤ 4294967296 := Nat.pow_le_pow_right (n := 2) (by omega) hn
  have hm : x * 2 ^ n ≤ 4294967295 * 4294967296 := Nat.mul_le_mul (by omega) hp
  have e1 : ((x : Int) * 2 ^ n) = ((x * 2 ^ n : Nat) : Int) := by simp
  rw [e1, IntWalk.u64_in _ (by omega), bits_or_u64_nat _ _ (by omega) (by omega)]
  have := Nat.shiftLeft_add_eq_or_of_lt hc x
  rw [Nat.shiftLeft_eq] at this
  rw [← this, Nat.mul_comm]
def ShiftPost (w : World) (a : List Nat) (n : Nat) (r : Ending) (w' : World) : Prop :=
  ∃ l, r = .returned (.slice (some ⟨w.heap.size, 0, none⟩) l.length l.length) ∧ Arr w' w.heap.size l ∧ Dig l ∧ l.length = a.length + 1 ∧ vl l = 2 ^ n * vl a ∧ Ext (fun _ => False) w w'
set_option maxRecDepth 100000 in
set_option maxHeartbeats 2000000 in
theorem shift_any (w : World) (va : Value) (a : List Nat) (ha : Rds w va a) (hal : a.length ≤ 536870911) (n : Nat) (hn : n < 32) :
    Calls Tryz.prog 209 #[va, .int .i64 n] w (ShiftPost w a n) := by
  obtain ⟨ada, aao, ac, rfl, _, _, _, ha4⟩ := id ha
  obtain ⟨m, hm⟩ : ∃ m, a.length + 1 = m := ⟨_, rfl⟩
  obtain ⟨w1, hmk, hA, hx1⟩ := run_make_nat w m (by omega)
  rw [← hm] at hA
  obtain ⟨B, hB⟩ : ∃ B, w.heap.size = B := ⟨_, rfl⟩
  unfold ShiftPost
  rw [hB] at hmk hA ⊢
  have HA := Lib.hid hA
  have HX := Lib.hid hx1
  have Hda := Lib.hid ada
  have Ha4 := Lib.hid ha4
  have Hst0 := Lib.hid (ShiftSt.zero a n)
  clear ha hA hx1 ada ha4
  generalize hna : a.length = na at *
  have HN := Lib.hid hna
  clear hna
  have hn1 : (na : Int) + 1 = m := by omega
  go_enter Tryz.func209, Tryz.ntmps209
  go_wp2_with fail
  go_loopg [6, 16] na (fun g v6 v16 wr => ∃ (i : Nat) (o : List Nat) (c : Nat), i ≤ na ∧ g = na - i ∧ v16 = .int .i64 i ∧ v6 = .int .u64 c ∧ ShiftSt a n i o c ∧ Arr wr B o ∧ Ext (fun _ => False) w wr)
  case atStart => exact ⟨0, _, 0, Nat.zero_le _, rfl, rfl, rfl, Hst0.out, HA.out, HX.out⟩
  case round =>
    obtain ⟨i, o, c, hi, rfl, rfl, rfl, hst, hA, hx⟩ := hrel
    clear HA HX Hst0 hmk
    by_cases hin : i < na
    · obtain ⟨ba, offa, rfl, hba, hca⟩ := Ha4.out (by omega)
      have hia : i < a.length := by have := HN.out; omega
      have c0 := (hx.cell (p := ⟨ba, offa + i, none⟩) hba id).trans (hca i a[i] (List.getElem?_eq_getElem hia))
      rw [← dgt_in hia] at c0
      unfold dv at c0
      have hxl := dgt_lt Hda.out i
      have hlen : i < o.length := by have := HN.out; have := hst.len; omega
      have hnxt := hst.step Hda.out hn hia
      have c2 := hA.cell i hlen
      have f2 := hA.free i
      have hcl := hst.car
      obtain ⟨x, hxe⟩ : ∃ x, dgt a i = x := ⟨_, rfl⟩
      rw [hxe] at c0 hxl hnxt
      have hor := or_shift (by omega : n ≤ 32) hxl hcl
      obtain ⟨y, hy⟩ : ∃ y, 2 ^ n * x + c = y := ⟨_, rfl⟩
      rw [hy] at hor hnxt
      clear hy
      have HA2 := Lib.hid (hA.set i (y % 4294967296))
      have Hnxt := Lib.hid hnxt
      have HX2 := Lib.hid (hx.own ((Ext.refl (fun z => z = B) wr).setCell (p := ⟨B, i, none⟩) (.int .u32 (y % 4294967296 : Nat)) (fun _ => rfl)) (fun z e => by omega))
      clear hst hA hx hnxt hca hxe
      have e0 : (0 : Int) ≤ (i : Int) := by omega
      have e1 : (i : Int) < (na : Int) := by omega
      have e2 : (i : Int) < (m : Int) := by omega
      have e3 : (0 : Int) ≤ (n : Int) := by omega
      have e4 : (n : Int) ≤ 64 := by omega
      go_wp2
      have q1 : (y : Int) % 4294967296 = (y % 4294967296 : Nat) := by omega
      have q2 : (y : Int) / 4294967296 = (y / 4294967296 : Nat) := by omega
      rw [q1, q2]
      go_roundg (na - (i + 1))
      case measure => omega
      case rel => exact ⟨i + 1, _, _, by omega, rfl, by go_num, rfl, Hnxt.out, HA2.out, HX2.out⟩
    · have e : i = na := by omega
      subst e
      have hlen : i < o.length := by have := HN.out; have := hst.len; omega
      have c2 := hA.cell i hlen
      have f2 := hA.free i
      have hcl := hst.car
      have hcb : c < 4294967296 := Nat.lt_of_lt_of_le hcl (Nat.le_trans (Nat.pow_le_pow_right (by omega) (by omega : n ≤ 32)) (by decide))
      have hd := hst
      rw [← HN.out] at hd
      obtain ⟨d1, d2, d3⟩ := hd.done hn
      rw [HN.out] at d1 d2 d3
      have hA2 := hA.set i c
      have hx2 := hx.own ((Ext.refl (fun z => z = B) wr).setCell (p := ⟨B, i, none⟩) (.int .u32 (c : Nat)) (fun _ => rfl)) (fun z e => by omega)
      have HP := Lib.hid (And.intro hA2 (And.intro d1 (And.intro d2 (And.intro d3 hx2))))
      clear hst hA hx hd d1 d2 d3 hA2 hx2
      have e2 : (i : Int) < (m : Int) := by omega
      go_wp2
      go_ret
      obtain ⟨h1, h2, h3, h4, h5⟩ := HP.out
      exact ⟨_, by rw [h3, hm]; rfl, h1, h2, h3, h4, h5⟩
theorem Own.arr {w : World} {base : Nat} {v : Value} {l : List Nat} (h : Own w base v l) (hp : 0 < l.length) : ∃ g cap, v = .slice (some ⟨g, 0, none⟩) l.length cap ∧ base ≤ g ∧ Arr w g l ∧ l.length ≤ cap ∧ cap ≤ maxLen := by
  rcases h.2 with ⟨_, h2⟩ | ⟨g, cap, cur, h1, h2, h3, h4, h5, _, h7⟩
  · omega
  · exact ⟨g, cap, h1, h2, ⟨cur, h3, by simpa using h7⟩, h4, h5⟩
theorem Arr.rds' {w : World} {b : Nat} {l : List Nat} (h : Arr w b l) (hd : Dig l) {c : Nat} (hl : l.length ≤ c) (hc : c ≤ maxLen) : Rds w (.slice (some ⟨b, 0, none⟩) l.length c) l :=
  ⟨hd, _, _, rfl, hl, hc, (fun e => by cases e), fun _ => ⟨b, 0, rfl, h.lt, fun i d hi => by
    obtain ⟨hj, rfl⟩ := List.getElem?_eq_some_iff.1 hi
    rw [Nat.zero_add, h.cell i hj, dgt_in hj]; rfl⟩⟩
def ShortPost (w : World) (x d : Nat) (r : Ending) (w' : World) : Prop := ∃ v, r = .returned (.tuple #[v, .int .u64 (x % d : Nat)]) ∧ IsNat w' v (x / d) ∧ Ext (fun _ => False) w w'
set_option maxRecDepth 100000 in
set_option maxHeartbeats 2000000 in
theorem short_any (w : World) (va : Value) (a : List Nat) (ha : Rds w va a) (hal : a.length ≤ 536870911) (hpos : 0 < a.length) (d : Nat) (hd0 : 0 < d) (hd : d < 4294967296) :
    Calls Tryz.prog 207 #[va, .int .u64 d] w (ShortPost w (vl a) d) := by
  have Hda := Lib.hid ha.1
  have HC := Lib.hid (clone_any w va a ha (by omega))
  have Hst0 := Lib.hid (ShortSt.start ha.1 hd0)
  clear ha
  go_enter Tryz.func207, Tryz.ntmps207
  go_wp2_with fail
  refine HC.out.mono ?_
  rintro r w1 ⟨v1, rfl, ho, hx⟩
  obtain ⟨g, cap, rfl, hg, hA, hcap, hcm⟩ := ho.arr hpos
  obtain ⟨n, hn⟩ : ∃ n, a.length = n := ⟨_, rfl⟩
  rw [hn] at hcap hpos hal Hst0 ⊢
  have HN := Lib.hid hn
  have HA := Lib.hid hA
  have HX := Lib.hid hx
  clear ho hA hx hn HC
  have hn1 : IntKind.i64.wrap ((n : Int) - 1) = (n : Int) - 1 := IntWalk.i64_in _ (by omega)
  go_wp2_with fail
  go_loopg [7, 8] n (fun q v7 v8 wr => ∃ (k : Nat) (o : List Nat) (r : Nat), k ≤ n ∧ q = k ∧ v8 = .int .i64 ((k : Int) - 1) ∧ v7 = .int .u64 r ∧ ShortSt a d k o r ∧ Arr wr g o ∧ Ext (fun _ => False) w wr)
  case atStart => exact ⟨n, a, 0, Nat.le_refl _, rfl, by go_num, rfl, Hst0.out, HA.out, HX.out⟩
  case round =>
    obtain ⟨k, o, r, hk, hq, rfl, rfl, hst, hA, hx⟩ := hrel
    obtain rfl := hq.symm
    clear HA HX Hst0
    by_cases h0 : k = 0
    · subst h0
      have hol : o.length = n := by have := HN.out; have := hst.len; omega
      have hr := hA.rds' hst.dig (c := cap) (by omega) hcm
      rw [hol] at hr
      have HT := Lib.hid (trim_any wr _ o hr)
      obtain ⟨f1, f2⟩ := hst.done
      have HF := Lib.hid (And.intro f1 f2)
      have HX := Lib.hid hx
      clear hst hA hx hr hol f1 f2
      have p0 : ((0 : Nat) : Int) - 1 = -1 := by omega
      rw [p0]
      go_wp2_with fail
      refine HT.out.mono ?_
      rintro z w' ⟨hw, v9, rfl, h9⟩; obtain rfl := hw.symm
      rw [HF.out.1] at h9
      have HP : Hid (ShortPost w (vl a) d (.returned (.tuple #[v9, .int .u64 r])) wr) := Lib.hid ⟨v9, by rw [HF.out.2], h9, HX.out⟩
      clear h9 HT hw
      go_wp2
      go_ret2
      exact HP.out
    · obtain ⟨i, rfl⟩ : ∃ i, k = i + 1 := ⟨k - 1, by omega⟩
      have p1 : ((i + 1 : Nat) : Int) - 1 = i := by omega
      rw [p1]
      have hia : i < a.length := by have := HN.out; omega
      have hlen : i < o.length := by have := hst.len; omega
      have c2 := hA.cell i hlen
      have f2 := hA.free i
      have hlow := hst.low i (by omega)
      rw [hlow] at c2
      have hxl := dgt_lt Hda.out i
      have hrl := hst.rest
      obtain ⟨hql, hnxt⟩ := hst.step Hda.out hd hia
      obtain ⟨x, hxe⟩ : ∃ x, dgt a i = x := ⟨_, rfl⟩
      rw [hxe] at c2 hxl hnxt hql
      obtain ⟨y, hy⟩ : ∃ y, r * 4294967296 + x = y := ⟨_, rfl⟩
      have hor := or_shift (n := 32) (x := r) (c := x) (Nat.le_refl _) (by omega) hxl
      rw [show 2 ^ 32 * r + x = y by rw [← hy]; omega, show ((r : Int) * 2 ^ 32) = (r : Int) * 4294967296 from rfl, IntWalk.u64_in _ (by omega)] at hor
      rw [hy] at hnxt hql
      have hyl : y < 18446744073709551616 := by omega
      have t1 : (y : Int).tdiv (d : Int) = ((y / d : Nat) : Int) := rfl
      have t2 : (y : Int).tmod (d : Int) = ((y % d : Nat) : Int) := rfl
      obtain ⟨q, hq⟩ : ∃ q, y / d = q := ⟨_, rfl⟩
      obtain ⟨s, hs⟩ : ∃ s, y % d = s := ⟨_, rfl⟩
      rw [hq] at t1 hnxt hql
      rw [hs] at t2 hnxt
      have t3 : IntKind.u64.wrap (q : Int) = q := IntWalk.u64_in _ (by omega)
      have t4 : (q : Int) % 4294967296 = q := by omega
      have HA2 := Lib.hid (hA.set i q)
      have Hnxt := Lib.hid hnxt
      have HX2 := Lib.hid (hx.own ((Ext.refl (fun z => z = g) wr).setCell (p := ⟨g, i, none⟩) (.int .u32 (q : Nat)) (fun _ => rfl)) (fun z e => by omega))
      clear hst hA hx hnxt hxe hlow hy hq hs
      have e0 : (0 : Int) ≤ (i : Int) := by omega
      have e1 : (i : Int) < (n : Int) := by omega
      have e2 : ¬ (d : Int) = 0 := by omega
      go_upto_region 7 with fail
      go_region
      all_goals (try simp only [hor, t1, t2, t3, t4])
      all_goals go_wp2
      all_goals go_roundg i
      case measure => omega
      case rel => exact ⟨i, _, _, by omega, rfl, by go_num, rfl, Hnxt.out, HA2.out, HX2.out.drew⟩
end Go.Proofs.YtbgienfcmdgaaaaGreat
/-
  Plain laws on division of lists of digits: the guess of a digit, the subtraction of a multiple, the adding back. Conditions: none beyond each lemma's own.
-/
namespace Go.Proofs.YtbgienfcmdgaaaaGreat

/-! ### estimate -/
def guess (x y z f s : Nat) : Nat := min 4294967295 (((x * 4294967296 + y) * 4294967296 + z) / (f * 4294967296 + s))
structure EstSt (x y z f s q r : Nat) : Prop where
  sum : q * f + r = x * 4294967296 + y
  low : r < 4294967296
  ge : guess x y z f s ≤ q
theorem est_start {x y z f s : Nat} (hf : 0 < f) (hf2 : f < 4294967296) (hz : z < 4294967296) : EstSt x y z f s ((x * 4294967296 + y) / f) ((x * 4294967296 + y) % f) := by
  refine ⟨by rw [Nat.mul_comm]; exact Nat.div_add_mod _ _, Nat.lt_trans (Nat.mod_lt _ hf) hf2, ?_⟩
  unfold guess
  refine Nat.le_trans (Nat.min_le_right _ _) ?_
  rw [Nat.le_div_iff_mul_le hf]
  have h1 := Nat.div_mul_le_self ((x * 4294967296 + y) * 4294967296 + z) (f * 4294967296 + s)
  generalize ((x * 4294967296 + y) * 4294967296 + z) / (f * 4294967296 + s) = g at *
  rw [Nat.mul_add, ← Nat.mul_assoc] at h1
  generalize g * f = gf at *
  generalize g * s = gs at *
  omega
/-- the test of the loop, where the guess is at most 2^32 - 1 -/
theorem est_cmp {x y z f s q r : Nat} (h : EstSt x y z f s q r) : q * (f * 4294967296 + s) ≤ (x * 4294967296 + y) * 4294967296 + z ↔ q * s ≤ r * 4294967296 + z := by
  have := h.sum
  rw [Nat.mul_add, ← Nat.mul_assoc, ← this, Nat.add_mul]
  omega
theorem est_done {x y z f s q r : Nat} (hf : 0 < f) (h : EstSt x y z f s q r) (h1 : ¬ 4294967295 < q) (h2 : ¬ r * 4294967296 + z < q * s) : q = guess x y z f s := by
  have h3 := (est_cmp h).2 (by omega)
  have h4 : q ≤ ((x * 4294967296 + y) * 4294967296 + z) / (f * 4294967296 + s) := (Nat.le_div_iff_mul_le (by omega)).2 h3
  have h5 := h.ge
  unfold guess at *
  omega
theorem est_less {x y z f s q r : Nat} (hf : 0 < f) (h : EstSt x y z f s q r) (h1 : 4294967295 < q ∨ r * 4294967296 + z < q * s) : 0 < q ∧ guess x y z f s ≤ q - 1 ∧ (q - 1) * f + (r + f) = x * 4294967296 + y := by
  have hq : 0 < q := by
    rcases h1 with h1 | h1
    · omega
    · rcases Nat.eq_zero_or_pos q with rfl | h0
      · rw [Nat.zero_mul] at h1; omega
      · exact h0
  refine ⟨hq, ?_, ?_⟩
  · unfold guess
    rcases h1 with h1 | h1
    · omega
    · have h3 : ¬ q * (f * 4294967296 + s) ≤ (x * 4294967296 + y) * 4294967296 + z := fun h' => by have := (est_cmp h).1 h'; omega
      have h4 : ((x * 4294967296 + y) * 4294967296 + z) / (f * 4294967296 + s) < q := (Nat.div_lt_iff_lt_mul (show 0 < f * 4294967296 + s by omega)).2 (Nat.lt_of_not_le h3)
      omega
  · have := h.sum
    obtain ⟨p, rfl⟩ : ∃ p, q = p + 1 := ⟨q - 1, by omega⟩
    rw [Nat.add_mul] at this
    simp only [Nat.add_sub_cancel]
    omega
theorem est_next {x y z f s q r : Nat} (hf : 0 < f) (h : EstSt x y z f s q r) (h1 : 4294967295 < q ∨ r * 4294967296 + z < q * s) (h2 : ¬ 4294967295 < r + f) : EstSt x y z f s (q - 1) (r + f) := by
  obtain ⟨_, h3, h4⟩ := est_less hf h h1
  exact ⟨h4, by omega, h3⟩
theorem est_break {x y z f s q r : Nat} (hf : 0 < f) (hx : x ≤ f) (hy : y < 4294967296) (hs : s < 4294967296) (h : EstSt x y z f s q r) (h1 : 4294967295 < q ∨ r * 4294967296 + z < q * s) (h2 : 4294967295 < r + f) : q - 1 = guess x y z f s := by
  obtain ⟨h0, h3, h4⟩ := est_less hf h h1
  obtain ⟨p, rfl⟩ : ∃ p, q = p + 1 := ⟨q - 1, by omega⟩
  simp only [Nat.add_sub_cancel] at *
  have hp : p ≤ 4294967295 := by
    by_cases hp : p ≤ 4294967295
    · exact hp
    · have := Nat.mul_le_mul_right f (show 4294967296 ≤ p by omega)
      have := Nat.mul_le_mul_right 4294967296 hx
      rw [Nat.mul_comm 4294967296 f] at *
      omega
  have hps : p * s ≤ 4294967295 * 4294967295 := Nat.mul_le_mul hp (by omega)
  have h5 : p * (f * 4294967296 + s) ≤ (x * 4294967296 + y) * 4294967296 + z := by
    rw [Nat.mul_add, ← Nat.mul_assoc, ← h4, Nat.add_mul]
    omega
  have h6 : p ≤ ((x * 4294967296 + y) * 4294967296 + z) / (f * 4294967296 + s) := (Nat.le_div_iff_mul_le (by omega)).2 h5
  unfold guess at *
  omega
/-! ### reduce -/
/-- j digits of q times b are subtracted from the digits of l at t -/
structure RedSt (l b : List Nat) (t q j : Nat) (o : List Nat) (bo ca : Nat) : Prop where
  dig : Dig o
  len : o.length = l.length
  car : ca < 4294967296
  bor : bo ≤ 1
  same : ∀ i, i < t ∨ t + j ≤ i → dgt o i = dgt l i
  fin : b.length < j → ca = 0
  val : vl o + 4294967296 ^ t * (q * vl (b.take j)) = vl l + 4294967296 ^ (t + j) * (ca + bo)
theorem RedSt.zero {l b : List Nat} (hl : Dig l) (t q : Nat) : RedSt l b t q 0 l 0 0 := ⟨hl, rfl, by omega, by omega, fun _ _ => rfl, fun _ => rfl, by simp [vl]⟩
/-- the digit and the borrow of x - y - c -/
theorem RedSt.step {l b : List Nat} (hb : Dig b) {t q j : Nat} {o : List Nat} {bo ca : Nat} (hq : q < 4294967296) (ht : t + j < l.length) (h : RedSt l b t q j o bo ca) :
    RedSt l b t q (j + 1) (o.set (t + j) (subD (dgt o (t + j)) ((q * dgt b j + ca) % 4294967296) bo)) (subB (dgt o (t + j)) ((q * dgt b j + ca) % 4294967296) bo) ((q * dgt b j + ca) / 4294967296) := by
  have h1 := dgt_lt hb j
  have h2 := dgt_lt h.dig (t + j)
  have h3 := h.car
  have h4 := h.bor
  have hlt : t + j < o.length := by rw [h.len]; exact ht
  have hqd : q * dgt b j ≤ 4294967295 * 4294967295 := Nat.mul_le_mul (by omega) (by omega)
  have hv := h.val
  have hs := vl_set_dgt (subD (dgt o (t + j)) ((q * dgt b j + ca) % 4294967296) bo) hlt
  have e : 4294967296 ^ t * (q * (4294967296 ^ j * dgt b j)) = 4294967296 ^ (t + j) * (q * dgt b j) := by
    rw [Nat.pow_add, Nat.mul_assoc, Nat.mul_left_comm q]
  have hfin : b.length ≤ j → q * dgt b j = 0 := fun h => by rw [dgt_out h, Nat.mul_zero]
  generalize hx : dgt o (t + j) = x at *
  generalize hp : q * dgt b j + ca = p at *
  have hm := Nat.div_add_mod p 4294967296
  have hd : subD x (p % 4294967296) bo + p % 4294967296 + bo = x + 4294967296 * subB x (p % 4294967296) bo := by unfold subD subB; split <;> omega
  refine ⟨h.dig.set _ _ (by unfold subD; split <;> omega), by simp [h.len], by omega, by unfold subB; split <;> omega, fun i hi => ?_, fun hj => by have := hfin (by omega); omega, ?_⟩
  · rw [dgt_set hlt, if_neg (by omega)]; exact h.same i (by omega)
  · rw [vl_take_dgt, Nat.mul_add, Nat.mul_add, e, ← Nat.add_assoc t j 1, Nat.pow_succ]
    have hk : subD x (p % 4294967296) bo + q * dgt b j + (ca + bo) = x + 4294967296 * (p / 4294967296 + subB x (p % 4294967296) bo) := by omega
    have hk2 := congrArg (4294967296 ^ (t + j) * ·) hk
    simp only [Nat.mul_add] at hk2 hv ⊢
    rw [Nat.mul_assoc, Nat.mul_assoc, Nat.mul_add] at *
    omega
/-- b is added to the digits of l at t, j digits are done -/
structure AddBk (l b : List Nat) (t j : Nat) (o : List Nat) (c : Nat) : Prop where
  dig : Dig o
  len : o.length = l.length
  car : c ≤ 1
  same : ∀ i, i < t ∨ t + j ≤ i → dgt o i = dgt l i
  val : vl o + 4294967296 ^ (t + j) * c = vl l + 4294967296 ^ t * vl (b.take j)
theorem AddBk.zero {l b : List Nat} (hl : Dig l) (t : Nat) : AddBk l b t 0 l 0 := ⟨hl, rfl, by omega, fun _ _ => rfl, by simp [vl]⟩
theorem AddBk.step {l b : List Nat} (hb : Dig b) {t j : Nat} {o : List Nat} {c : Nat} (ht : t + j < l.length) (h : AddBk l b t j o c) :
    AddBk l b t (j + 1) (o.set (t + j) ((dgt o (t + j) + dgt b j + c) % 4294967296)) ((dgt o (t + j) + dgt b j + c) / 4294967296) := by
  have h1 := dgt_lt hb j
  have h2 := dgt_lt h.dig (t + j)
  have h3 := h.car
  have hlt : t + j < o.length := by rw [h.len]; exact ht
  have hv := h.val
  have hs := vl_set_dgt ((dgt o (t + j) + dgt b j + c) % 4294967296) hlt
  have hm := congrArg (4294967296 ^ (t + j) * ·) (Nat.mod_add_div (dgt o (t + j) + dgt b j + c) 4294967296)
  simp only [Nat.mul_add] at hm
  refine ⟨h.dig.set _ _ (Nat.mod_lt _ (by omega)), by simp [h.len], by omega, fun i hi => ?_, ?_⟩
  · rw [dgt_set hlt, if_neg (by omega)]; exact h.same i (by omega)
  · rw [vl_take_dgt, Nat.mul_add, ← Nat.mul_assoc (4294967296 ^ t), ← Nat.pow_add, ← Nat.add_assoc t j 1, Nat.pow_succ, Nat.mul_assoc]
    omega
theorem vl_take_same {o l : List Nat} (t : Nat) (h : ∀ i, i < t → dgt o i = dgt l i) : vl (o.take t) = vl (l.take t) := by
  induction t with
  | zero => simp
  | succ t ih => rw [vl_take_dgt, vl_take_dgt, ih (fun i hi => h i (by omega)), h t (by omega)]
theorem vl_at {l : List Nat} {t : Nat} (h : t ≤ l.length) : vl l = vl (l.take t) + 4294967296 ^ t * vl (l.drop t) := by
  have := vl_split l t
  rwa [List.length_take, Nat.min_eq_left h] at this
theorem dgt_drop (l : List Nat) (t i : Nat) : dgt (l.drop t) i = dgt l (t + i) := by
  unfold dgt; rw [List.getD_eq_getElem?_getD, List.getD_eq_getElem?_getD, List.getElem?_drop]
theorem vl_high {l : List Nat} {n : Nat} (h : ∀ i, n ≤ i → dgt l i = 0) : vl l = vl (l.take n) := by
  have key : ∀ m, vl (l.take (n + m)) = vl (l.take n) := fun m => by
    induction m with
    | zero => rfl
    | succ m ih => rw [← Nat.add_assoc, vl_take_dgt, h _ (by omega), ih]; simp
  have := key l.length
  rwa [vl_take_all (by omega)] at this
theorem vl_high_lt {l : List Nat} (hl : Dig l) {n : Nat} (h : ∀ i, n ≤ i → dgt l i = 0) : vl l < 4294967296 ^ n := by
  rw [vl_high h]
  exact Nat.lt_of_lt_of_le (vl_lt (hl.take n)) (pow_mono (by rw [List.length_take]; omega))
theorem cancel_at {P a b c d x y : Nat} (hP : 0 < P) (hx : x = y) (h : x + P * a + P * b = y + P * c + P * d) : a + b = c + d := by
  subst hx
  have : P * (a + b) = P * (c + d) := by rw [Nat.mul_add, Nat.mul_add]; omega
  exact Nat.eq_of_mul_eq_mul_left hP this
theorem RedSt.done {l b : List Nat} {t q : Nat} {o : List Nat} {bo ca : Nat} (ht : t ≤ l.length) (h : RedSt l b t q (b.length + 1) o bo ca) :
    vl (o.drop t) + q * vl b = vl (l.drop t) + 4294967296 ^ (b.length + 1) * bo := by
  have hc := h.fin (by omega)
  have hv := h.val
  rw [vl_take_all (Nat.le_succ _), hc, Nat.zero_add, vl_at (l := o) (by rw [h.len]; exact ht), vl_at ht, Nat.pow_add, Nat.mul_assoc] at hv
  exact cancel_at (Nat.pow_pos (by omega)) (vl_take_same t (fun i hi => h.same i (.inl hi))) hv
theorem AddBk.done {l b : List Nat} {t : Nat} {o : List Nat} {c : Nat} (ht : t ≤ l.length) (h : AddBk l b t (b.length + 1) o c) :
    vl (o.drop t) + 4294967296 ^ (b.length + 1) * c = vl (l.drop t) + vl b := by
  have hv := h.val
  rw [vl_take_all (Nat.le_succ _), vl_at (l := o) (by rw [h.len]; exact ht), vl_at ht, Nat.pow_add, Nat.mul_assoc] at hv
  exact cancel_at (Nat.pow_pos (by omega)) (vl_take_same t (fun i hi => h.same i (.inl hi))) hv
theorem red_fit {P X V o q bo : Nat} (hb : bo ≤ 1) (ho : o < P) (h : o + q * V = X + P * bo) (hq : q * V ≤ X) : bo = 0 ∧ o + q * V = X := by
  rcases Nat.eq_zero_or_pos bo with rfl | h0
  · exact ⟨rfl, by simpa using h⟩
  · obtain rfl : bo = 1 := by omega
    omega
theorem red_over {P X V o o2 q bo c : Nat} (hb : bo ≤ 1) (hc : c ≤ 1) (ho2 : o2 < P) (h : o + q * V = X + P * bo) (h2 : o2 + P * c = o + V) (hq : X < q * V) (hq2 : q * V ≤ X + V) (hV : V ≤ P) : bo = 1 ∧ o2 + q * V = X + V := by
  rcases Nat.eq_zero_or_pos bo with rfl | h0
  · rw [Nat.mul_zero] at h; omega
  · obtain rfl : bo = 1 := by omega
    refine ⟨rfl, ?_⟩
    rcases Nat.eq_zero_or_pos c with rfl | h1
    · rw [Nat.mul_zero] at h2; omega
    · obtain rfl : c = 1 := by omega
      omega
/-! ### the guess is the digit, or one more -/
theorem guess_ok {x y z f s P X0 V0 X V : Nat} (hf : 0 < f) (hX : X = ((x * 4294967296 + y) * 4294967296 + z) * P + X0) (hX0 : X0 < P) (hV : V = (f * 4294967296 + s) * P + V0) (hV0 : V0 < P) (hy : y < 4294967296) (hs : s < 4294967296) (hlt : X < 4294967296 * V) :
    x ≤ f ∧ X / V ≤ guess x y z f s ∧ guess x y z f s ≤ X / V + 1 := by
  have hP : 0 < P := by omega
  obtain ⟨T, hT⟩ : ∃ T, (x * 4294967296 + y) * 4294967296 + z = T := ⟨_, rfl⟩
  obtain ⟨D, hD⟩ : ∃ D, f * 4294967296 + s = D := ⟨_, rfl⟩
  rw [hT] at hX
  rw [hD] at hV
  have hD0 : 4294967296 ≤ D := by omega
  have hVD : V < (D + 1) * P := by rw [hV, Nat.add_mul]; omega
  have hV0 : 0 < V := by
    have := Nat.mul_le_mul (show 1 ≤ D by omega) (show 1 ≤ P by omega)
    omega
  have hXT : X < (T + 1) * P := by rw [hX, Nat.add_mul]; omega
  have hTX : T * P ≤ X := by omega
  have hDV : D * P ≤ V := by omega
  refine ⟨?_, ?_, ?_⟩
  · have h1 : T * P < 4294967296 * (D + 1) * P := by
      rw [Nat.mul_assoc]
      exact Nat.lt_of_le_of_lt hTX (Nat.lt_trans hlt (Nat.mul_lt_mul_of_pos_left hVD (by omega)))
    have h2 := Nat.lt_of_mul_lt_mul_right h1
    omega
  · have hq := Nat.div_mul_le_self X V
    have hq1 : X / V < 4294967296 := (Nat.div_lt_iff_lt_mul hV0).2 hlt
    generalize X / V = q0 at *
    have h1 : q0 * D * P < (T + 1) * P := by
      rw [Nat.mul_assoc]
      exact Nat.lt_of_le_of_lt (Nat.le_trans (Nat.mul_le_mul_left q0 hDV) hq) hXT
    have h2 := Nat.lt_of_mul_lt_mul_right h1
    have h3 : q0 ≤ T / D := (Nat.le_div_iff_mul_le (by omega)).2 (by omega)
    unfold guess
    rw [hT, hD]
    omega
  · have hq1 : X / V < 4294967296 := (Nat.div_lt_iff_lt_mul hV0).2 hlt
    have hq2 : X < (X / V + 1) * V := by
      have := Nat.lt_div_mul_add hV0 (a := X)
      rw [Nat.add_mul]; omega
    have hg : guess x y z f s ≤ T / D := by unfold guess; rw [hT, hD]; omega
    generalize guess x y z f s = g at *
    generalize X / V = q0 at *
    have h0 : g * D ≤ T := Nat.le_trans (Nat.mul_le_mul_right D hg) (Nat.div_mul_le_self T D)
    have h1 : g * D * P < (q0 + 1) * (D + 1) * P := by
      have a1 := Nat.mul_le_mul_right P h0
      have a2 : (q0 + 1) * V < (q0 + 1) * ((D + 1) * P) := Nat.mul_lt_mul_of_pos_left hVD (by omega)
      rw [Nat.mul_assoc (q0 + 1)]
      omega
    have h2 := Nat.lt_of_mul_lt_mul_right h1
    by_cases hc : g ≤ q0 + 1
    · exact hc
    · have h3 := Nat.mul_le_mul_right D (show q0 + 2 ≤ g by omega)
      have e1 : (q0 + 2) * D = (q0 + 1) * D + D := by rw [Nat.add_mul, Nat.add_mul]; omega
      have e2 : (q0 + 1) * (D + 1) = (q0 + 1) * D + (q0 + 1) := by rw [Nat.mul_add]; omega
      omega
end Go.Proofs.YtbgienfcmdgaaaaGreat
/-
  Package natural: estimate. Conditions: the digits are digits, the rest is less than the divisor times 2^32.
-/
namespace Go.Proofs.YtbgienfcmdgaaaaGreat
open Go.RowKit Go.MapKept
open Go.ChangeMaps (setBlock)

theorem or_digits {x y : Nat} (hx : x < 4294967296) (hy : y < 4294967296) : bits BinOp.or .u64 ((x : Int) * 4294967296) (y : Int) = ((x * 4294967296 + y : Nat) : Int) := by
  have h := or_shift (n := 32) (x := x) (c := y) (Nat.le_refl _) hx hy
  rw [show ((x : Int) * 2 ^ 32) = (x : Int) * 4294967296 from rfl, IntWalk.u64_in _ (by omega)] at h
  rw [h]; omega
set_option maxRecDepth 100000 in
set_option maxHeartbeats 2000000 in
theorem estimate_any (w : World) (x y z f s : Nat) (hf : 0 < f) (hfl : f < 4294967296) (hx : x ≤ f) (hy : y < 4294967296) (hz : z < 4294967296) (hs : s < 4294967296) :
    Calls Tryz.prog 210 #[.int .u64 x, .int .u64 y, .int .u64 z, .int .u64 f, .int .u64 s] w fun r w' => r = .returned (.int .u64 (guess x y z f s : Nat)) ∧ ∃ n, w' = w.drewN n := by
  have hor := or_digits (x := x) (y := y) (by omega) hy
  have Hst0 := Lib.hid (est_start (x := x) (y := y) (s := s) hf hfl hz)
  obtain ⟨W, hW⟩ : ∃ W, x * 4294967296 + y = W := ⟨_, rfl⟩
  rw [hW] at hor Hst0
  have hWl : W < 18446744073709551616 := by omega
  have t1 : (W : Int).tdiv (f : Int) = ((W / f : Nat) : Int) := rfl
  have t2 : (W : Int).tmod (f : Int) = ((W % f : Nat) : Int) := rfl
  have hql : W / f ≤ W := Nat.div_le_self _ _
  obtain ⟨q0, hq⟩ : ∃ q, W / f = q := ⟨_, rfl⟩
  obtain ⟨r0, hr⟩ : ∃ r, W % f = r := ⟨_, rfl⟩
  rw [hq] at t1 Hst0 hql
  rw [hr] at t2 Hst0
  have hql' := hql
  have t3 : IntKind.u64.wrap (q0 : Int) = q0 := IntWalk.u64_in _ (by omega)
  have hf0 : ¬ (f : Int) = 0 := by omega
  clear hq hr
  go_enter Tryz.func210, Tryz.ntmps210
  go_upto_region 1 with fail
  go_cut [11, 12] (fun v11 v12 wx => v11 = .int .u64 q0 ∧ v12 = .int .u64 r0 ∧ wx = w.drew)
  case first =>
    go_region
    all_goals (try simp only [hor, t1, t2, t3])
    all_goals go_wp2
    all_goals go_meet
    all_goals exact ⟨rfl, rfl, rfl⟩
  case rest =>
    obtain ⟨rfl, rfl, hwc⟩ := hcut
    have HX : Hid (∃ n, wc = w.drewN n) := Lib.hid ⟨1, hwc⟩
    clear hwc hor t1 t2 t3 hql
    go_wp2_with fail
    go_loopg [11, 12] q0 (fun g v11 v12 wr => ∃ q r : Nat, g = q ∧ v11 = .int .u64 q ∧ v12 = .int .u64 r ∧ wr = wc ∧ q ≤ W ∧ EstSt x y z f s q r)
    case atStart => exact ⟨q0, r0, rfl, rfl, rfl, rfl, hql', Hst0.out⟩
    case round =>
      obtain ⟨q, r, hg, rfl, rfl, hwr, hqW, hst⟩ := hrel
      obtain rfl := hg.symm
      obtain rfl := hwr.symm
      have hrl := hst.low
      have hrz := or_digits hrl hz
      obtain ⟨R, hR⟩ : ∃ R, r * 4294967296 + z = R := ⟨_, rfl⟩
      rw [hR] at hrz
      have Hst := Lib.hid hst
      have HR := Lib.hid hR
      clear Hst0 hst hR
      by_cases h1 : 4294967295 < q
      · have h1i : (4294967295 : Int) < (q : Int) := by omega
        have hqi : (1 : Int) ≤ (q : Int) := by omega
        have hq1 : ((q : Int) - 1) = ((q - 1 : Nat) : Int) := by omega
        by_cases hbr : 4294967295 < r + f
        · have hE := Lib.hid (est_break hf hx hy hs Hst.out (.inl h1) hbr)
          have b1 : (4294967295 : Int) < (r : Int) + f := by omega
          go_wp2
          go_ret
          exact ⟨ret_int (by rw [← hE.out]), HX.out⟩
        · have hE := Lib.hid (est_next hf Hst.out (.inl h1) hbr)
          have b1 : ¬ (4294967295 : Int) < (r : Int) + f := by omega
          go_wp2
          go_roundg (q - 1)
          case measure => omega
          case rel => exact ⟨q - 1, r + f, rfl, by go_num, by go_num, rfl, by omega, hE.out⟩
      · have h1i : ¬ (4294967295 : Int) < (q : Int) := by omega
        have hqs : q * s ≤ 4294967295 * 4294967295 := Nat.mul_le_mul (by omega) (by omega)
        obtain ⟨p, hp⟩ : ∃ p, q * s = p := ⟨_, rfl⟩
        have hpi : (q : Int) * (s : Int) = (p : Int) := by rw [← hp]; simp
        rw [hp] at hqs
        have e5 : (0 : Int) ≤ (q : Int) * s := by omega
        have e6 : (q : Int) * s < 18446744073709551616 := by omega
        have Hp := Lib.hid hp
        clear hp
        by_cases h2 : R < p
        · have h2i : (R : Int) < (p : Int) := by omega
          have hq0 : 0 < q := (est_less hf Hst.out (.inr (by rw [HR.out, Hp.out]; exact h2))).1
          have hqi : (1 : Int) ≤ (q : Int) := by omega
          have hq1 : ((q : Int) - 1) = ((q - 1 : Nat) : Int) := by omega
          by_cases hbr : 4294967295 < r + f
          · have hE := Lib.hid (est_break hf hx hy hs Hst.out (.inr (by rw [HR.out, Hp.out]; exact h2)) hbr)
            have b1 : (4294967295 : Int) < (r : Int) + f := by omega
            go_wp2
            go_ret
            exact ⟨ret_int (by rw [← hE.out]), HX.out⟩
          · have hE := Lib.hid (est_next hf Hst.out (.inr (by rw [HR.out, Hp.out]; exact h2)) hbr)
            have b1 : ¬ (4294967295 : Int) < (r : Int) + f := by omega
            go_wp2
            go_roundg (q - 1)
            case measure => omega
            case rel => exact ⟨q - 1, r + f, rfl, by go_num, by go_num, rfl, by omega, hE.out⟩
        · have h2i : ¬ (R : Int) < (p : Int) := by omega
          have hE := Lib.hid (est_done hf Hst.out h1 (by rw [HR.out, Hp.out]; exact h2))
          go_wp2
          go_ret
          exact ⟨ret_int (by rw [← hE.out]), HX.out⟩
end Go.Proofs.YtbgienfcmdgaaaaGreat
/-
  Package natural: Uint. Conditions: the argument reads as digits.
-/
namespace Go.Proofs.YtbgienfcmdgaaaaGreat
open Go.RowKit Go.MapKept
open Go.ChangeMaps (setBlock)

theorem dg_two {n : Nat} (h : n < 18446744073709551616) : (dg n).length ≤ 2 ∧ dgt (dg n) 1 * 4294967296 + dgt (dg n) 0 = n := by
  refine ⟨dg_length_le (k := 2) (by omega), ?_⟩
  by_cases h0 : n = 0
  · subst h0; rw [dg_zero]; rfl
  · rw [dg_pos (by omega)]
    by_cases h1 : n / 4294967296 = 0
    · rw [h1, dg_zero]; show 0 * 4294967296 + n % 4294967296 = n; omega
    · rw [dg_pos (by omega)]; show n / 4294967296 % 4294967296 * 4294967296 + n % 4294967296 = n; omega
theorem dg_more {n : Nat} (h : ¬ n < 18446744073709551616) : 2 < (dg n).length := by
  rw [dg_pos (by omega), dg_pos (by omega), dg_pos (by omega)]
  simp
set_option maxRecDepth 100000 in
set_option maxHeartbeats 1000000 in
theorem uint_any (w : World) (v : Value) (l : List Nat) (h : Rds w v l) : Calls Tryz.prog 206 #[v] w fun r w' =>
    r = .returned (.tuple #[.int .u64 (if vl l < 18446744073709551616 then vl l else 0 : Nat), .bool (decide (vl l < 18446744073709551616))]) ∧ w' = w := by
  have HT := Lib.hid (trim_any w v l h)
  clear h
  unfold trimL at HT
  generalize vl l = n at *
  by_cases hn : n < 18446744073709551616
  · obtain ⟨h1, h2⟩ := dg_two hn
    rw [if_pos hn, decide_eq_true hn]
    go_enter Tryz.func206, Tryz.ntmps206
    go_wp2_with fail
    refine HT.out.mono ?_
    rintro r w' ⟨hw, v1, rfl, hr⟩; obtain rfl := hw.symm
    have hd0 := digit_any w v1 _ hr 0 (by omega)
    have hd1 := digit_any w v1 _ hr 1 (by omega)
    have l0 := dgt_lt hr.1 0
    have l1 := dgt_lt hr.1 1
    obtain ⟨ao, c, rfl, _⟩ := hr.2
    generalize dgt (dg n) 0 = x at *
    generalize dgt (dg n) 1 = y at *
    generalize (dg n).length = m at *
    have hor := or_digits l1 l0
    rw [h2] at hor
    have H0 := Lib.hid hd0
    have H1 := Lib.hid hd1
    clear hd0 hd1 hr HT
    go_wp2_with fail
    refine H1.out.mono ?_
    rintro r w' ⟨rfl, hw⟩; obtain rfl := hw.symm
    go_wp2_with fail
    refine H0.out.mono ?_
    rintro r w' ⟨rfl, hw⟩; obtain rfl := hw.symm
    go_wp2
    go_ret2
    exact ⟨rfl, rfl⟩
  · have h1 := dg_more hn
    rw [if_neg hn, decide_eq_false hn]
    go_enter Tryz.func206, Tryz.ntmps206
    go_wp2_with fail
    refine HT.out.mono ?_
    rintro r w' ⟨hw, v1, rfl, hr⟩; obtain rfl := hw.symm
    obtain ⟨ao, c, rfl, _⟩ := hr.2
    generalize (dg n).length = m at *
    clear hr HT
    go_wp2
    go_ret2
    exact ⟨rfl, rfl⟩
end Go.Proofs.YtbgienfcmdgaaaaGreat
/-
  Package natural: small. Conditions: the arguments read as digits, their values are less than 2^64.
-/
namespace Go.Proofs.YtbgienfcmdgaaaaGreat
open Go.RowKit Go.MapKept
open Go.ChangeMaps (setBlock)

set_option maxRecDepth 100000 in
set_option maxHeartbeats 1000000 in
theorem small_any (w : World) (va vb : Value) (a b : List Nat) (ha : Rds w va a) (hb : Rds w vb b) (hal : vl a < 18446744073709551616) (hbl : vl b < 18446744073709551616) :
    Calls Tryz.prog 194 #[va, vb] w (NatPost w (Nat.gcd (vl a) (vl b))) := by
  have h1 := uint_any w va a ha
  have h2 := uint_any w vb b hb
  rw [if_pos hal, decide_eq_true hal] at h1
  rw [if_pos hbl, decide_eq_true hbl] at h2
  generalize vl a = x0 at *
  generalize vl b = y0 at *
  have H1 := Lib.hid h1
  have H2 := Lib.hid h2
  clear ha hb h1 h2
  go_enter Tryz.func194, Tryz.ntmps194
  go_wp2_with fail
  refine H1.out.mono ?_
  rintro r w' ⟨rfl, hw⟩; obtain rfl := hw.symm
  go_wp2_with fail
  refine H2.out.mono ?_
  rintro r w' ⟨rfl, hw⟩; obtain rfl := hw.symm
  clear hw
  go_wp2_with fail
  go_loopg [5, 7] y0 (fun q v5 v7 wr => ∃ x y : Nat, q = y ∧ v5 = .int .u64 x ∧ v7 = .int .u64 y ∧ x < 18446744073709551616 ∧ y < 18446744073709551616 ∧ Nat.gcd x y = Nat.gcd x0 y0 ∧ Ext (fun _ => False) w wr)
  case atStart => exact ⟨x0, y0, rfl, rfl, rfl, hal, hbl, rfl, Ext.refl _ _⟩
  case round =>
    obtain ⟨x, y, hq, rfl, rfl, hx, hy, hg, hX⟩ := hrel
    obtain rfl := hq.symm
    by_cases h0 : y = 0
    · subst h0
      rw [Nat.gcd_zero_right] at hg
      have HF := Lib.hid (from_any wr x hx)
      have Hg := Lib.hid hg
      have HX := Lib.hid hX
      clear hg hX
      go_wp2_with fail
      refine HF.out.mono ?_
      rintro r w9 ⟨v, rfl, hn, hx9⟩
      have HP : Hid (NatPost w (Nat.gcd x0 y0) (.returned v) w9) := Lib.hid ⟨v, rfl, by rw [← Hg.out]; exact hn, HX.out.trans hx9⟩
      clear hn hx9
      go_wp2
      go_ret
      exact HP.out
    · have e0 : (0 : Int) < (y : Int) := by omega
      have e1 : ¬ (y : Int) = 0 := by omega
      have t2 : (x : Int).tmod (y : Int) = ((x % y : Nat) : Int) := rfl
      have hml := Nat.mod_lt x (show 0 < y by omega)
      have hgn : Nat.gcd y (x % y) = Nat.gcd x0 y0 := by rw [← hg, Nat.gcd_comm y, ← Nat.gcd_rec, Nat.gcd_comm]
      obtain ⟨m, hm⟩ : ∃ m, x % y = m := ⟨_, rfl⟩
      rw [hm] at t2 hml hgn
      have Hgn := Lib.hid hgn
      have HX := Lib.hid hX
      clear hm hg hgn hX
      go_upto_region 4 with fail
      go_region
      all_goals (try simp only [t2])
      all_goals go_wp2
      all_goals go_roundg m
      case measure => omega
      case rel => exact ⟨y, m, rfl, rfl, rfl, hy, by omega, Hgn.out, HX.out.drew⟩
end Go.Proofs.YtbgienfcmdgaaaaGreat
/-
  Package natural: reduce. Conditions: the guess is the digit, or one more.
-/
namespace Go.Proofs.YtbgienfcmdgaaaaGreat
open Go.RowKit Go.MapKept
open Go.ChangeMaps (setBlock)

theorem red_over' {P X V o o2 q c : Nat} (_h1 : 1 ≤ 1) (hc : c ≤ 1) (ho2 : o2 < P) (ho : o < P) (h : o + q * V = X + P * 1) (h2 : o2 + P * c = o + V) (hq2 : q * V ≤ X + V) (hV : V ≤ P) : 0 < q ∧ o2 + (q - 1) * V = X ∧ X < (q - 1 + 1) * V := by
  have hq : X < q * V := by omega
  obtain ⟨_, h3⟩ := red_over (Nat.le_refl 1) hc ho2 h h2 hq hq2 hV
  rcases Nat.eq_zero_or_pos q with rfl | h0
  · omega
  · obtain ⟨p, rfl⟩ : ∃ p, q = p + 1 := ⟨q - 1, by omega⟩
    rw [Nat.add_mul] at h3
    exact ⟨h0, by simp only [Nat.add_sub_cancel]; omega, by simp only [Nat.add_sub_cancel]; exact hq⟩
def RedPost (w : World) (U : Nat) (l b : List Nat) (t q : Nat) (r : Ending) (w' : World) : Prop :=
  ∃ q' l', r = .returned (.int .u64 (q' : Nat)) ∧ q' ≤ q ∧ Arr w' U l' ∧ Dig l' ∧ l'.length = l.length ∧ (∀ i, i < t ∨ t + (b.length + 1) ≤ i → dgt l' i = dgt l i) ∧ vl (l'.drop t) + q' * vl b = vl (l.drop t) ∧ (q' = q ∨ vl (l.drop t) < (q' + 1) * vl b) ∧ Ext (fun k => k = U) w w'
theorem sub_word {x pm bo : Nat} (hx : x < 4294967296) (hp : pm < 4294967296) (hb : bo ≤ 1) : ∃ S : Nat, IntKind.u64.wrap (IntKind.u64.wrap ((x : Int) - pm) - bo) = (S : Int) ∧ (S : Int) % 4294967296 = (subD x pm bo : Nat) ∧ (S : Int) / 9223372036854775808 = (subB x pm bo : Nat) := by
  refine ⟨(IntKind.u64.wrap (IntKind.u64.wrap ((x : Int) - pm) - bo)).toNat, ?_, ?_, ?_⟩
  · rw [wrapU, wrapU]; omega
  · rw [wrapU, wrapU]; unfold subD; split <;> omega
  · rw [wrapU, wrapU]; unfold subB; split <;> omega
set_option maxRecDepth 100000 in
set_option maxHeartbeats 4000000 in
theorem reduce_any (w : World) (U n cap : Nat) (l : List Nat) (vb : Value) (b : List Nat) (t q : Nat) (hA : Arr w U l) (hl : l.length = n) (hd : Dig l) (hb : ∀ W, Ext (fun k => k = U) w W → Rds W vb b)
    (K : Nat) (hK : b.length + 1 = K) (ht : t + K ≤ n) (hn : n ≤ 1073741824) (hq : q < 4294967296) (hz : ∀ i, K ≤ i → dgt (l.drop t) i = 0) (hfit : q * vl b ≤ vl (l.drop t) + vl b) :
    Calls Tryz.prog 211 #[.slice (some ⟨U, 0, none⟩) n cap, vb, .int .i64 t, .int .u64 q] w (RedPost w U l b t q) := by
  obtain ⟨bda, bao, bc, rfl, _⟩ := id (hb w (Ext.refl _ w))
  have HB := Lib.hid hb
  have HA := Lib.hid hA
  have Hl := Lib.hid hl
  have Hbd := Lib.hid bda
  have Hst0 := Lib.hid (RedSt.zero (b := b) hd t q)
  have HZ := Lib.hid (And.intro hz hfit)
  clear hb hA hl hd bda hz hfit
  obtain ⟨nb, hnb⟩ : ∃ nb, b.length = nb := ⟨_, rfl⟩
  rw [hnb] at hK HB
  have Hnb := Lib.hid hnb
  clear hnb
  have hk1 : (nb : Int) + 1 = K := by omega
  rw [Hnb.out]
  go_enter Tryz.func211, Tryz.ntmps211
  go_wp2_with fail
  go_loopg [9, 10, 19] K (fun g v9 v10 v19 wr => ∃ (j : Nat) (o : List Nat) (bo ca : Nat), j ≤ K ∧ g = K - j ∧ v19 = .int .i64 j ∧ v9 = .int .u64 bo ∧ v10 = .int .u64 ca ∧ RedSt l b t q j o bo ca ∧ Arr wr U o ∧ Ext (fun k => k = U) w wr)
  case atStart => exact ⟨0, l, 0, 0, Nat.zero_le _, rfl, rfl, rfl, rfl, Hst0.out, HA.out, Ext.refl _ _⟩
  case round =>
    obtain ⟨j, o, bo, ca, hj, rfl, rfl, rfl, rfl, hst, hA, hx⟩ := hrel
    clear HA Hst0
    by_cases hjk : j < K
    · have Hdb := Lib.hid (digit_any wr _ b (HB.out wr hx) j (by omega))
      have hlen : t + j < o.length := by have := Hl.out; have := hst.len; omega
      have c2 := hA.cell (t + j) hlen
      have f2 := hA.free (t + j)
      have hnxt := hst.step Hbd.out hq (by have := Hl.out; omega)
      have hdl := dgt_lt Hbd.out j
      have hxl := dgt_lt hst.dig (t + j)
      have hcl := hst.car
      have hbl := hst.bor
      obtain ⟨D, hD⟩ : ∃ D, dgt b j = D := ⟨_, rfl⟩
      obtain ⟨x, hx0⟩ : ∃ x, dgt o (t + j) = x := ⟨_, rfl⟩
      rw [hD] at Hdb hnxt hdl
      rw [hx0] at c2 hnxt hxl
      have hqd : q * D ≤ 4294967295 * 4294967295 := Nat.mul_le_mul (by omega) (by omega)
      obtain ⟨p0, hp⟩ : ∃ p, q * D = p := ⟨_, rfl⟩
      have hpi : (q : Int) * (D : Int) = (p0 : Int) := by rw [← hp]; simp
      rw [hp] at hnxt hqd
      have e5 : (0 : Int) ≤ (q : Int) * D := by omega
      have e6 : (q : Int) * D < 18446744073709551616 := by omega
      obtain ⟨P, hP⟩ : ∃ P, p0 + ca = P := ⟨_, rfl⟩
      have hPi : (p0 : Int) + ca = P := by omega
      have e7 : (p0 : Int) + ca < 18446744073709551616 := by omega
      rw [hP] at hnxt
      obtain ⟨pm, hpm⟩ : ∃ pm, P % 4294967296 = pm := ⟨_, rfl⟩
      obtain ⟨pd, hpd⟩ : ∃ pd, P / 4294967296 = pd := ⟨_, rfl⟩
      have hpmi : (P : Int) % 4294967296 = pm := by omega
      have hpdi : (P : Int) / 4294967296 = pd := by omega
      rw [hpm, hpd] at hnxt
      obtain ⟨S, hS, hSm, hSd⟩ := sub_word hxl (show pm < 4294967296 by omega) hbl
      obtain ⟨sd, hsd⟩ : ∃ sd, subD x pm bo = sd := ⟨_, rfl⟩
      obtain ⟨sb, hsb⟩ : ∃ sb, subB x pm bo = sb := ⟨_, rfl⟩
      rw [hsd] at hSm hnxt
      rw [hsb] at hSd hnxt
      have HA2 := Lib.hid (hA.set (t + j) sd)
      have Hnxt := Lib.hid hnxt
      have HX2 := Lib.hid (hx.trans ((Ext.refl (fun z => z = U) wr).setCell (p := ⟨U, t + j, none⟩) (.int .u32 (sd : Nat)) (fun _ => rfl)))
      clear hst hA hx hnxt hD hx0 hp hP hpm hpd hsd hsb
      have i0 : (0 : Int) ≤ (t : Int) + j := by omega
      have i1 : (t : Int) + j < (n : Int) := by omega
      have i2 : ((t : Int) + j).toNat = t + j := by omega
      go_wp2_with fail
      refine Hdb.out.mono ?_
      rintro r w' ⟨rfl, hw⟩; obtain rfl := hw.symm
      go_wp2
      go_roundg (K - (j + 1))
      case measure => omega
      case rel => exact ⟨j + 1, _, _, _, by omega, rfl, by go_num, rfl, rfl, Hnxt.out, HA2.out, HX2.out⟩
    · have e : j = K := by omega
      subst e
      have htl : t ≤ l.length := by have := Hl.out; omega
      have hst' := hst
      rw [← hK, ← Hnb.out] at hst'
      have Hdn := Lib.hid (hst'.done htl)
      have hsame := hst'.same
      have hzo : ∀ i, b.length + 1 ≤ i → dgt (o.drop t) i = 0 := fun i hi => by
        have := HZ.out.1 i (by have := Hnb.out; omega)
        rw [dgt_drop] at this ⊢
        rw [hsame (t + i) (.inr (by omega))]; exact this
      have Hol := Lib.hid (vl_high_lt (hst.dig.drop t) hzo)
      have HVl := Lib.hid (Nat.lt_of_lt_of_le (vl_lt Hbd.out) (pow_mono (Nat.le_succ b.length)))
      rcases Nat.eq_zero_or_pos bo with rfl | hbo
      · have HP : Hid (RedPost w U l b t q (.returned (.int .u64 q)) wr) := Lib.hid ⟨q, o, rfl, Nat.le_refl _, hA, hst.dig, hst.len, hsame, by have := Hdn.out; rwa [Nat.mul_zero, Nat.add_zero] at this, .inl rfl, hx⟩
        clear hst hst' Hdn hsame hzo Hol HVl hA hx
        go_wp2
        go_ret
        exact HP.out
      · have hb1 : bo = 1 := by have := hst.bor; omega
        subst hb1
        have Hst1 := Lib.hid hst
        have Hsame := Lib.hid hsame
        have Hz0 := Lib.hid (AddBk.zero (b := b) hst.dig t)
        have HA1 := Lib.hid hA
        have HX1 := Lib.hid hx
        have Hzo := Lib.hid hzo
        clear hst hst' hsame hzo hA hx
        go_wp2_with fail
        go_loopg [10, 60] j (fun g v10 v60 wr => ∃ (i : Nat) (o2 : List Nat) (c : Nat), i ≤ j ∧ g = j - i ∧ v60 = .int .i64 i ∧ v10 = .int .u64 c ∧ AddBk o b t i o2 c ∧ Arr wr U o2 ∧ Ext (fun k => k = U) w wr)
        case atStart => exact ⟨0, o, 0, Nat.zero_le _, rfl, rfl, rfl, Hz0.out, HA1.out, HX1.out⟩
        case round =>
          obtain ⟨i, o2, c, hi, rfl, rfl, rfl, hst, hA, hx⟩ := hrel
          clear HA1 HX1 Hz0
          by_cases hij : i < j
          · have Hdb := Lib.hid (fun W hW => digit_any W _ b (HB.out W hW) i (by omega))
            have hlen : t + i < o2.length := by have := Hl.out; have := hst.len; have := Hst1.out.len; omega
            have c2 := hA.cell (t + i) hlen
            have f2 := hA.free (t + i)
            have hnxt := hst.step Hbd.out (by have := Hl.out; have := Hst1.out.len; omega)
            have hdl := dgt_lt Hbd.out i
            have hxl := dgt_lt hst.dig (t + i)
            have hcl := hst.car
            obtain ⟨D, hD⟩ : ∃ D, dgt b i = D := ⟨_, rfl⟩
            obtain ⟨x, hx0⟩ : ∃ x, dgt o2 (t + i) = x := ⟨_, rfl⟩
            rw [hD] at Hdb hnxt hdl
            rw [hx0] at c2 hnxt hxl
            obtain ⟨S, hS⟩ : ∃ S, x + D + c = S := ⟨_, rfl⟩
            rw [hS] at hnxt
            have hSi : (x : Int) + D + c = S := by omega
            obtain ⟨sd, hsd⟩ : ∃ sd, S % 4294967296 = sd := ⟨_, rfl⟩
            obtain ⟨sb, hsb⟩ : ∃ sb, S / 4294967296 = sb := ⟨_, rfl⟩
            have hsdi : (S : Int) % 4294967296 = sd := by omega
            have hsbi : (S : Int) / 4294967296 = sb := by omega
            rw [hsd, hsb] at hnxt
            have HA2 := Lib.hid (hA.set (t + i) sd)
            have Hnxt := Lib.hid hnxt
            have HX2 := Lib.hid (fun N => (hx.drewN N).trans ((Ext.refl (fun z => z = U) (wr.drewN N)).setCell (p := ⟨U, t + i, none⟩) (.int .u32 (sd : Nat)) (fun _ => rfl)))
            have HX3 := Lib.hid (fun N => hx.drewN N)
            clear hst hA hx hnxt hD hx0 hsd hsb
            have i0 : (0 : Int) ≤ (t : Int) + i := by omega
            have i1 : (t : Int) + i < (n : Int) := by omega
            have i2 : ((t : Int) + i).toNat = t + i := by omega
            go_upto_region 15 with fail
            go_quiet ((go_at_call 192; exact (Hdb.out _ (HX3.out _)).mono (fun r w' h => ⟨h.1, _, h.2⟩)))
            go_wp2
            go_roundg (j - (i + 1))
            case measure => omega
            case rel => exact ⟨i + 1, _, _, by omega, rfl, by go_num, rfl, Hnxt.out, HA2.out, HX2.out _⟩
          · have e : i = j := by omega
            subst e
            have hst' := hst
            rw [← hK, ← Hnb.out] at hst'
            have htl2 : t ≤ o.length := by have := Hst1.out.len; omega
            have Hd2 := Lib.hid (hst'.done htl2)
            have hs2 := hst'.same
            have hz2 : ∀ a, b.length + 1 ≤ a → dgt (o2.drop t) a = 0 := fun a ha => by
              have := Hzo.out a ha
              rw [dgt_drop] at this ⊢
              rw [hs2 (t + a) (.inr (by omega))]; exact this
            have Ho2 := Lib.hid (vl_high_lt (hst.dig.drop t) hz2)
            have Hover := Lib.hid (red_over' (Nat.le_refl 1) hst.car Ho2.out Hol.out Hdn.out Hd2.out HZ.out.2 (Nat.le_of_lt HVl.out))
            have hsame2 : ∀ a, a < t ∨ t + (b.length + 1) ≤ a → dgt o2 a = dgt l a := fun a ha => (hs2 a ha).trans (Hsame.out a ha)
            have hq1 : 0 < q := Hover.out.1
            have HP : Hid (RedPost w U l b t q (.returned (.int .u64 (q - 1 : Nat))) wr) := Lib.hid ⟨q - 1, o2, rfl, Nat.sub_le _ _, hA, hst.dig, hst.len.trans Hst1.out.len, hsame2, Hover.out.2.1, .inr Hover.out.2.2, hx⟩
            clear hst hst' hs2 hz2 hsame2 hA hx
            have hqi : ((q : Int) - 1) = ((q - 1 : Nat) : Int) := by omega
            go_wp2
            go_ret
            exact HP.out
end Go.Proofs.YtbgienfcmdgaaaaGreat
/-
  Plain laws on division of lists of digits: what the loop of DivMod keeps. Conditions: none beyond each lemma's own.
-/
namespace Go.Proofs.YtbgienfcmdgaaaaGreat

/-- the digits of the quotient from i on are found: U0 is what was divided, V the divisor's value -/
structure DivSt (U0 V m i : Nat) (u q : List Nat) : Prop where
  udig : Dig u
  qdig : Dig q
  qlen : q.length = m
  qlow : ∀ j, j < i → dgt q j = 0
  val : U0 = vl q * V + vl u
  rest : vl (u.drop i) < V
theorem DivSt.start {u : List Nat} {V m : Nat} (hu : Dig u) (h : vl (u.drop m) < V) : DivSt (vl u) V m m u (List.replicate m 0) :=
  ⟨hu, Dig.zeros m, by simp, fun j hj => by rw [dgt_in (by simpa using hj)]; simp, by rw [vl_zeros]; simp, h⟩
/-- what is divided next is less than 2^32 times the divisor -/
theorem DivSt.next_lt {U0 V m i : Nat} {u q : List Nat} (h : DivSt U0 V m (i + 1) u q) (hi : i < u.length) : vl (u.drop i) < 4294967296 * V := by
  have h1 := vl_drop hi
  have h2 := h.udig.get i hi
  have h3 := h.rest
  omega
theorem DivSt.step {U0 V m i d : Nat} {u q u' : List Nat} (h : DivSt U0 V m (i + 1) u q) (hi : i < m) (hlen : u'.length = u.length) (hiu : i < u.length) (hd : d < 4294967296) (hu : Dig u') (hs : ∀ j, j < i → dgt u' j = dgt u j)
    (hv : vl (u'.drop i) + d * V = vl (u.drop i)) (hr : vl (u'.drop i) < V) : DivSt U0 V m i u' (q.set i d) := by
  have hlt : i < q.length := by rw [h.qlen]; exact hi
  refine ⟨hu, h.qdig.set _ _ hd, by simp [h.qlen], fun j hj => by rw [dgt_set hlt, if_neg (by omega)]; exact h.qlow j (by omega), ?_, hr⟩
  have h1 := vl_set_dgt d hlt
  rw [h.qlow i (by omega), Nat.mul_zero, Nat.add_zero] at h1
  have h2 := vl_at (l := u') (t := i) (by omega)
  have h3 := vl_at (l := u) (t := i) (by omega)
  rw [h1, h2, vl_take_same i hs, h.val, h3, ← hv, Nat.mul_add, Nat.add_mul, Nat.mul_assoc]
  omega
theorem DivSt.done {U0 V m : Nat} {u q : List Nat} (h : DivSt U0 V m 0 u q) : vl q = U0 / V ∧ vl u = U0 % V := by
  have hr := h.rest
  rw [List.drop_zero] at hr
  have hv := h.val
  have hV : 0 < V := by omega
  constructor
  · rw [hv, Nat.mul_comm, Nat.mul_add_div hV, Nat.div_eq_of_lt hr]; omega
  · rw [hv, Nat.mul_comm, Nat.mul_add_mod, Nat.mod_eq_of_lt hr]
/-- the digit is the quotient: from the guess and what reduce found -/
theorem digit_rest {X V g d r : Nat} (hg : X / V ≤ g) (hV : 0 < V) (h : r + d * V = X) (hd : d = g ∨ X < (d + 1) * V) : r < V := by
  rcases hd with rfl | hd
  · have h1 : X < (X / V + 1) * V := by
      have := Nat.lt_div_mul_add hV (a := X)
      rw [Nat.add_mul]; omega
    have h2 : (X / V + 1) * V ≤ (d + 1) * V := Nat.mul_le_mul_right V (by omega)
    have h3 := Nat.lt_of_lt_of_le h1 h2
    rw [Nat.add_mul] at h3
    omega
  · rw [Nat.add_mul] at hd
    omega
end Go.Proofs.YtbgienfcmdgaaaaGreat
/-
  Plain laws on division of lists of digits: the normalised divisor, the three uppermost digits, the shifting back. Conditions: none beyond each lemma's own.
-/
namespace Go.Proofs.YtbgienfcmdgaaaaGreat

theorem dgt_zero {l : List Nat} {n : Nat} (h : vl l < 4294967296 ^ n) (i : Nat) (hi : n ≤ i) : dgt l i = 0 := by
  by_cases hl : i < l.length
  · have h1 := vl_at (l := l) (t := i) (Nat.le_of_lt hl)
    have h2 := vl_drop hl
    rw [← dgt_in hl] at h2
    rcases Nat.eq_zero_or_pos (dgt l i) with h0 | h0
    · exact h0
    · have h3 := Nat.mul_le_mul_left (4294967296 ^ i) (show 1 ≤ vl (l.drop i) by omega)
      have h4 := pow_mono hi
      omega
  · exact dgt_out (by omega)
/-- the last digit of the only form is not 0, and bounds the number -/
theorem dg_last {n k : Nat} (hk : (dg n).length = k + 1) : 0 < dgt (dg n) k ∧ 4294967296 ^ k * dgt (dg n) k ≤ n ∧ n < 4294967296 ^ k * (dgt (dg n) k + 1) := by
  have hlt : k < (dg n).length := by omega
  have h1 := vl_take_dgt (dg n) k
  rw [List.take_of_length_le (by omega), vl_dg] at h1
  have h2 := vl_lt ((dg_dig n).take k)
  rw [List.length_take, Nat.min_eq_left (by omega)] at h2
  have hne := (dg_canon n).2
  rw [List.getLast?_eq_getElem?, hk, Nat.add_sub_cancel, List.getElem?_eq_getElem hlt] at hne
  rw [← dgt_in hlt] at hne
  refine ⟨Nat.pos_of_ne_zero (fun h => hne (by rw [h])), by omega, ?_⟩
  rw [Nat.mul_add]; omega
theorem dg_len_eq {n k : Nat} (h1 : 4294967296 ^ k ≤ n) (h2 : n < 4294967296 ^ (k + 1)) : (dg n).length = k + 1 := by
  have h3 := dg_length_le h2
  have h4 := dg_lt n
  by_cases h : (dg n).length ≤ k
  · have := pow_mono h
    omega
  · omega
/-- the divisor shifted until its first bit is set has as many digits -/
theorem div_norm {B k n : Nat} (hk : (dg B).length = k + 1) (hn : n ≤ 32) (hf : 2 ^ n * dgt (dg B) k < 4294967296) :
    (dg (2 ^ n * B)).length = k + 1 ∧ 4294967296 ^ k ≤ B := by
  obtain ⟨h1, h2, h3⟩ := dg_last hk
  generalize dgt (dg B) k = t at *
  have hp : 4294967296 = 2 ^ n * 2 ^ (32 - n) := by rw [← Nat.pow_add, show n + (32 - n) = 32 by omega]
  have ht : 2 ^ n * (t + 1) ≤ 4294967296 := by
    rw [hp] at hf ⊢
    exact Nat.mul_le_mul_left _ (Nat.lt_of_mul_lt_mul_left hf)
  have hB : 4294967296 ^ k ≤ B := Nat.le_trans (Nat.le_mul_of_pos_right _ h1) h2
  refine ⟨dg_len_eq (Nat.le_trans hB (Nat.le_mul_of_pos_left _ (Nat.two_pow_pos n))) ?_, hB⟩
  have h5 : 2 ^ n * B < 2 ^ n * (4294967296 ^ k * (t + 1)) := Nat.mul_lt_mul_of_pos_left h3 (Nat.two_pow_pos n)
  have h6 := Nat.mul_le_mul_left (4294967296 ^ k) ht
  rw [Nat.mul_left_comm] at h5
  rw [pow_next]
  omega
/-- what lies above the first k digits of the shifted number is less than the shifted divisor -/
theorem div_first {u : List Nat} {A B k n la m : Nat} (hv : vl u = 2 ^ n * A) (hA : A < 4294967296 ^ la) (hl : u.length = la + 1) (hm : m + (k + 1) = la + 1) (hB : 4294967296 ^ k ≤ B) : vl (u.drop m) < 2 ^ n * B := by
  have h1 := vl_at (l := u) (t := m) (by omega)
  have h2 : 4294967296 ^ m * vl (u.drop m) < 4294967296 ^ m * (2 ^ n * B) := by
    have h3 : 2 ^ n * A < 2 ^ n * 4294967296 ^ la := Nat.mul_lt_mul_of_pos_left hA (Nat.two_pow_pos n)
    have h4 : 4294967296 ^ la = 4294967296 ^ m * 4294967296 ^ k := by rw [← Nat.pow_add]; congr 1; omega
    have h5 : 4294967296 ^ m * (2 ^ n * 4294967296 ^ k) ≤ 4294967296 ^ m * (2 ^ n * B) := Nat.mul_le_mul_left _ (Nat.mul_le_mul_left _ hB)
    rw [h4, Nat.mul_left_comm] at h3
    omega
  exact Nat.lt_of_mul_lt_mul_left h2
/-- the three uppermost digits -/
theorem top_three {l : List Nat} {k : Nat} (hd : Dig l) (h : vl l < 4294967296 ^ (k + 3)) (hl : k + 3 ≤ l.length) :
    vl l = ((dgt l (k + 2) * 4294967296 + dgt l (k + 1)) * 4294967296 + dgt l k) * 4294967296 ^ k + vl (l.take k) := by
  have h0 : vl l = vl (l.take (k + 3)) := vl_high (fun i hi => dgt_zero h i hi)
  rw [vl_take_dgt, vl_take_dgt, vl_take_dgt, pow_next (k + 1), pow_next k] at h0
  rw [h0]
  generalize 4294967296 ^ k = P at *
  generalize dgt l (k + 2) = x at *
  generalize dgt l (k + 1) = y at *
  generalize dgt l k = z at *
  have e1 : P * 4294967296 * 4294967296 * x = x * 4294967296 * 4294967296 * P := by rw [Nat.mul_comm, ← Nat.mul_assoc, ← Nat.mul_assoc, Nat.mul_right_comm _ P, Nat.mul_right_comm _ P]
  have e2 : P * 4294967296 * y = y * 4294967296 * P := by rw [Nat.mul_comm, ← Nat.mul_assoc, Nat.mul_right_comm]
  have e3 : P * z = z * P := Nat.mul_comm _ _
  simp only [Nat.add_mul]
  omega
theorem top_two {n k : Nat} (hk : (dg n).length = k + 2) : n = (dgt (dg n) (k + 1) * 4294967296 + dgt (dg n) k) * 4294967296 ^ k + vl ((dg n).take k) := by
  have h0 := vl_take_dgt (dg n) (k + 1)
  rw [List.take_of_length_le (by omega), vl_dg, vl_take_dgt, pow_next] at h0
  generalize 4294967296 ^ k = P at *
  generalize dgt (dg n) (k + 1) = x at *
  generalize dgt (dg n) k = y at *
  have e2 : P * 4294967296 * x = x * 4294967296 * P := by rw [Nat.mul_comm, ← Nat.mul_assoc, Nat.mul_right_comm]
  have e3 : P * y = y * P := Nat.mul_comm _ _
  rw [Nat.add_mul]
  omega
/-! ### shifting back -/
/-- i digits of the number N over 2^n are written -/
structure BackSt (l : List Nat) (n i : Nat) (o : List Nat) : Prop where
  dig : Dig o
  len : o.length = l.length
  same : ∀ j, i ≤ j → dgt o j = dgt l j
  val : vl (o.take i) = vl l / 2 ^ n % 4294967296 ^ i
theorem BackSt.zero {l : List Nat} (hd : Dig l) (n : Nat) : BackSt l n 0 l := ⟨hd, rfl, fun _ _ => rfl, by rw [Nat.pow_zero, Nat.mod_one]; rfl⟩
theorem back_digit {l : List Nat} (hd : Dig l) {n i : Nat} (hn : n < 32) : vl l / 2 ^ n / 4294967296 ^ i % 4294967296 = (dgt l (i + 1) * 4294967296 + dgt l i) / 2 ^ n % 4294967296 := by
  have key : ∀ m, ∃ T, vl (l.take (i + 2 + m)) = vl (l.take i) + 4294967296 ^ i * (dgt l i + 4294967296 * dgt l (i + 1) + 18446744073709551616 * T) := fun m => by
    induction m with
    | zero =>
      refine ⟨0, ?_⟩
      rw [Nat.add_zero, vl_take_dgt, vl_take_dgt, pow_next i, Nat.mul_assoc, Nat.add_assoc, Nat.mul_add, Nat.mul_add, Nat.mul_zero]; rfl
    | succ m ih =>
      obtain ⟨T, ih⟩ := ih
      refine ⟨T + 4294967296 ^ m * dgt l (i + 2 + m), ?_⟩
      rw [← Nat.add_assoc, vl_take_dgt, ih]
      have e : 4294967296 ^ (i + 2 + m) = 4294967296 ^ i * (18446744073709551616 * 4294967296 ^ m) := by rw [Nat.pow_add, Nat.pow_add, Nat.mul_assoc]
      rw [e]
      simp only [Nat.mul_add, Nat.mul_assoc]
      omega
  obtain ⟨T, hT⟩ := key l.length
  rw [vl_take_all (by omega)] at hT
  have hlt : vl (l.take i) < 4294967296 ^ i := Nat.lt_of_lt_of_le (vl_lt (hd.take i)) (pow_mono (by rw [List.length_take]; omega))
  have hp : 0 < 4294967296 ^ i := Nat.pow_pos (by omega)
  have h1 : vl l / 4294967296 ^ i = dgt l i + 4294967296 * dgt l (i + 1) + 18446744073709551616 * T := by
    rw [hT, Nat.add_mul_div_left _ _ hp, Nat.div_eq_of_lt hlt, Nat.zero_add]
  have hdd : vl l / 2 ^ n / 4294967296 ^ i = vl l / 4294967296 ^ i / 2 ^ n := by rw [Nat.div_div_eq_div_mul, Nat.div_div_eq_div_mul, Nat.mul_comm]
  have he : 18446744073709551616 * T = 2 ^ n * (4294967296 * (2 ^ (32 - n) * T)) := by
    have hq : (2 : Nat) ^ n * 2 ^ (32 - n) = 4294967296 := by rw [← Nat.pow_add, show n + (32 - n) = 32 by omega]
    calc 18446744073709551616 * T = 4294967296 * (4294967296 * T) := by omega
      _ = 2 ^ n * 2 ^ (32 - n) * (4294967296 * T) := by rw [hq]
      _ = _ := by rw [Nat.mul_assoc, Nat.mul_left_comm (2 ^ (32 - n))]
  rw [hdd, h1, he, Nat.add_mul_div_left _ _ (Nat.two_pow_pos n), Nat.add_mul_mod_self_left, Nat.mul_comm 4294967296 (dgt l (i + 1)), Nat.add_comm (dgt l i)]
theorem BackSt.step {l : List Nat} (hd : Dig l) {n i d : Nat} (hn : n < 32) {o : List Nat} (hi : i < l.length) (h : BackSt l n i o) (he : d = (dgt o (i + 1) * 4294967296 + dgt o i) / 2 ^ n % 4294967296) : BackSt l n (i + 1) (o.set i d) := by
  have hlt : i < o.length := by rw [h.len]; exact hi
  have hdl : d < 4294967296 := by rw [he]; exact Nat.mod_lt _ (by omega)
  refine ⟨h.dig.set _ _ hdl, by simp [h.len], fun j hj => by rw [dgt_set hlt, if_neg (by omega)]; exact h.same j (by omega), ?_⟩
  rw [vl_take_dgt, dgt_set hlt, if_pos rfl, List.take_set_of_le (Nat.le_refl _), h.val, pow_next, Nat.mod_mul, back_digit hd hn, he, h.same _ (by omega), h.same _ (Nat.le_refl _)]
theorem BackSt.done {l : List Nat} {n k : Nat} {o : List Nat} (h : BackSt l n k o) {R : Nat} (hv : vl l = 2 ^ n * R) (hR : R < 4294967296 ^ k) : vl (o.take k) = R := by
  rw [h.val, hv, Nat.mul_div_cancel_left _ (Nat.two_pow_pos n), Nat.mod_eq_of_lt hR]
end Go.Proofs.YtbgienfcmdgaaaaGreat
/-
  Go's library: bits.Len32 and bits.LeadingZeros32 as the shelf has them. Conditions: the argument is a uint32.
-/
namespace Go.Proofs
open Go.Shelf
def Tryz.lays128_ren : Go.Shelf.Ren := ⟨fun | 128 => 186 | n => n, fun | 51 => 127 | 3 => 3 | 4 => 4 | 46 => 134 | 5 => 5 | 9 => 9 | n => n, fun | n => n⟩
theorem Tryz.lays128 : Go.Proofs.Lays.n128 Tryz.prog Tryz.lays128_ren := {
  mixed := by kernel_rfl
  f128 := Tryz.func186.trans (congrArg some (by kernel_rfl))
  t3 := Tryz.underlying3
  a3 := Tryz.isAgg3
  z3 := Tryz.sizeOf3
  v3 := Tryz.zeroValue3
  t4 := Tryz.underlying4
  a4 := Tryz.isAgg4
  z4 := Tryz.sizeOf4
  v4 := Tryz.zeroValue4
  t5 := Tryz.underlying5
  a5 := Tryz.isAgg5
  z5 := Tryz.sizeOf5
  v5 := Tryz.zeroValue5
  t9 := Tryz.underlying9
  a9 := Tryz.isAgg9
  z9 := Tryz.sizeOf9
  v9 := Tryz.zeroValue9
  t46 := Tryz.underlying134
  a46 := Tryz.isAgg134
  z46 := Tryz.sizeOf134
  v46 := Tryz.zeroValue134
  t51 := Tryz.underlying127
  a51 := Tryz.isAgg127
  z51 := Tryz.sizeOf127
  v51 := Tryz.zeroValue127 }
theorem Tryz.bits_Len32 (x : Int) (w : World) (h0 : 0 ≤ x) (h1 : x ≤ 4294967295) :
    Calls Tryz.prog 186 #[.int .u32 x] w fun e w' => e = .returned (.int .i64 (Lib.bitLen x.toNat)) ∧ w' = w := Any.bits_Len32 Tryz.lays128 x w h0 h1
def Tryz.lays133_ren : Go.Shelf.Ren := ⟨fun | 128 => 186 | 133 => 208 | n => n, fun | 51 => 127 | 3 => 3 | 4 => 4 | 46 => 134 | 5 => 5 | 9 => 9 | n => n, fun | n => n⟩
theorem Tryz.lays133 : Go.Proofs.Lays.n133 Tryz.prog Tryz.lays133_ren := {
  mixed := by kernel_rfl
  f128 := Tryz.func186.trans (congrArg some (by kernel_rfl))
  f133 := Tryz.func208.trans (congrArg some (by kernel_rfl))
  t3 := Tryz.underlying3
  a3 := Tryz.isAgg3
  z3 := Tryz.sizeOf3
  v3 := Tryz.zeroValue3
  t4 := Tryz.underlying4
  a4 := Tryz.isAgg4
  z4 := Tryz.sizeOf4
  v4 := Tryz.zeroValue4
  t5 := Tryz.underlying5
  a5 := Tryz.isAgg5
  z5 := Tryz.sizeOf5
  v5 := Tryz.zeroValue5
  t9 := Tryz.underlying9
  a9 := Tryz.isAgg9
  z9 := Tryz.sizeOf9
  v9 := Tryz.zeroValue9
  t46 := Tryz.underlying134
  a46 := Tryz.isAgg134
  z46 := Tryz.sizeOf134
  v46 := Tryz.zeroValue134
  t51 := Tryz.underlying127
  a51 := Tryz.isAgg127
  z51 := Tryz.sizeOf127
  v51 := Tryz.zeroValue127 }
theorem Tryz.bits_LeadingZeros32 (x : Int) (w : World) (h0 : 0 ≤ x) (h1 : x ≤ 4294967295) :
    Calls Tryz.prog 208 #[.int .u32 x] w fun e w' => e = .returned (.int .i64 (32 - (Lib.bitLen x.toNat : Int))) ∧ w' = w := Any.bits_LeadingZeros32 Tryz.lays133 x w h0 h1
end Go.Proofs
/-
  Package natural: DivMod, its short ways and its set-up. Conditions: the arguments read as digits, lengths bounded.
-/
namespace Go.Proofs.YtbgienfcmdgaaaaGreat
open Go.RowKit Go.MapKept
open Go.ChangeMaps (setBlock)

theorem Rds.off {S : Nat → Prop} {w w' : World} {b o n c : Nat} {l : List Nat} (h : Rds w (.slice (some ⟨b, o, none⟩) n c) l) (hx : Ext S w w') (hb : ¬ S b) : Rds w' (.slice (some ⟨b, o, none⟩) n c) l := by
  obtain ⟨h0, ao, c', e, h1, h2, h3, h4⟩ := h
  cases e
  refine ⟨h0, _, _, rfl, h1, h2, h3, fun hp => ?_⟩
  obtain ⟨b', off, e, hbl, hc⟩ := h4 hp
  cases e
  exact ⟨b, o, rfl, Nat.lt_of_lt_of_le hbl hx.size, fun i d hi => (hx.cell (p := ⟨b, o + i, none⟩) hbl hb).trans (hc i d hi)⟩
theorem Rds.at {w : World} {b o n c : Nat} {l : List Nat} (h : Rds w (.slice (some ⟨b, o, none⟩) n c) l) : n = l.length ∧ ∀ i, i < l.length → w.cell? ⟨b, o + i, none⟩ = some (.int .u32 (dgt l i)) := by
  obtain ⟨h0, ao, c', e, h1, h2, h3, h4⟩ := h
  cases e
  refine ⟨rfl, fun i hi => ?_⟩
  obtain ⟨b', off, e, hbl, hc⟩ := h4 (by omega)
  cases e
  rw [dgt_in hi]
  exact hc i _ (List.getElem?_eq_getElem hi)
/-- the first n digits, the capacity as it was -/
theorem Rds.head {w : World} {ao : Option Addr} {c m : Nat} {l : List Nat} (h : Rds w (.slice ao m c) l) (n : Nat) (hn : n ≤ m) : Rds w (.slice ao n c) (l.take n) := by
  obtain ⟨hd, ao', c', e, h1, h2, h3, h4⟩ := h
  cases e
  have hl : (l.take n).length = n := by rw [List.length_take]; omega
  refine ⟨hd.take n, ao, c, by rw [hl], by omega, h2, h3, fun hp => ?_⟩
  obtain ⟨b, off, e, hb, hc⟩ := h4 (by omega)
  refine ⟨b, off, e, hb, fun i d hi => hc i d ?_⟩
  have hlt := (List.getElem?_eq_some_iff.1 hi).1
  rwa [List.getElem?_take_of_lt (by omega)] at hi
theorem Rds.base {w : World} {ao : Option Addr} {n c : Nat} {l : List Nat} (h : Rds w (.slice ao n c) l) (hp : 0 < l.length) : ∃ b o, ao = some ⟨b, o, none⟩ ∧ b < w.heap.size := by
  obtain ⟨h0, ao, c', e, h1, h2, h3, h4⟩ := h
  cases e
  obtain ⟨b, off, e, hbl, _⟩ := h4 hp
  exact ⟨b, off, e, hbl⟩
theorem Arr.extS {S : Nat → Prop} {w w' : World} {b : Nat} {l : List Nat} (h : Arr w b l) (hx : Ext S w w') (hb : ¬ S b) : Arr w' b l := by
  obtain ⟨cur, h, ht⟩ := h
  exact ⟨cur, (hx.blk (blk_lt h) hb).trans h, ht⟩
theorem bitLenAux_lt : ∀ (f x : Nat), x < 2 ^ f → x < 2 ^ (Lib.bitLenAux f x)
  | 0, x, h => by simpa [Lib.bitLenAux] using h
  | f + 1, x, h => by
    unfold Lib.bitLenAux
    split
    · subst_vars; exact Nat.two_pow_pos _
    · have := bitLenAux_lt f (x / 2) (by rw [Nat.pow_succ] at h; omega)
      rw [Nat.add_comm, Nat.pow_succ]; omega
theorem bitLen_lt {x : Nat} (h : x < 4294967296) : x < 2 ^ (Lib.bitLen x) := bitLenAux_lt 64 x (Nat.lt_trans h (by decide))
/-- leading zeros -/
theorem lead_ok {t : Nat} (h0 : 0 < t) (h : t < 4294967296) : ∃ n : Nat, n < 32 ∧ (32 : Int) - (Lib.bitLen t : Int) = n ∧ 2 ^ n * t < 4294967296 := by
  have h1 := bitLen_lt h
  have h2 : Lib.bitLen t ≤ 32 := Any.bitLen_le32 t (by omega) (by omega)
  generalize Lib.bitLen t = m at *
  have hm : 0 < m := by
    rcases Nat.eq_zero_or_pos m with rfl | h
    · simp at h1; omega
    · exact h
  refine ⟨32 - m, by omega, by omega, ?_⟩
  have h3 : 2 ^ (32 - m) * t < 2 ^ (32 - m) * 2 ^ m := Nat.mul_lt_mul_of_pos_left h1 (Nat.two_pow_pos _)
  rw [← Nat.pow_add, show 32 - m + m = 32 by omega] at h3
  exact h3
def DivPost (w : World) (x y : Nat) (r : Ending) (w' : World) : Prop :=
  if y = 0 then r = .returned (.tuple #[.slice none 0 0, .slice none 0 0, .int .i64 2]) ∧ w' = w
  else ∃ v1 v2, r = .returned (.tuple #[v1, v2, .int .i64 0]) ∧ IsNat w' v1 (x / y) ∧ IsNat w' v2 (x % y) ∧ Ext (fun _ => False) w w'
theorem DivPost.mk {w w' : World} {x y : Nat} {v1 v2 : Value} (h : ¬ y = 0) (h1 : IsNat w' v1 (x / y)) (h2 : IsNat w' v2 (x % y)) (hx : Ext (fun _ => False) w w') : DivPost w x y (.returned (.tuple #[v1, v2, .int .i64 0])) w' := by
  unfold DivPost; rw [if_neg h]; exact ⟨v1, v2, rfl, h1, h2, hx⟩
theorem IsNat.nil (w : World) : IsNat w (.slice none 0 0) 0 := by unfold IsNat; rw [dg_zero]; exact Rds.nil w
theorem dg_one {n : Nat} (h : (dg n).length = 1) : dgt (dg n) 0 = n ∧ 0 < n ∧ n < 4294967296 := by
  obtain ⟨h1, h2, h3⟩ := dg_last (k := 0) h
  have h4 := dg_lt n
  rw [h] at h4
  simp at h2 h3
  omega
theorem dg_mono {a b : Nat} (h : a ≤ b) : (dg a).length ≤ (dg b).length := dg_length_le (Nat.lt_of_le_of_lt h (dg_lt b))
end Go.Proofs.YtbgienfcmdgaaaaGreat
/-
  Package natural: DivMod. Conditions: the arguments read as digits, lengths bounded.
-/
namespace Go.Proofs.YtbgienfcmdgaaaaGreat
open Go.RowKit Go.MapKept
open Go.ChangeMaps (setBlock)

set_option maxRecDepth 100000 in
set_option maxHeartbeats 4000000 in
theorem divmod_any (w : World) (va vb : Value) (a b : List Nat) (ha : Rds w va a) (hb : Rds w vb b) (hal : a.length ≤ 268435455) (hbl : b.length ≤ 268435455) :
    Calls Tryz.prog 195 #[va, vb] w (DivPost w (vl a) (vl b)) := by
  have Ta := Lib.hid (trim_any w va a ha)
  have Tb := Lib.hid (trim_any w vb b hb)
  have la := trimL_length a ha.1
  have lb := trimL_length b hb.1
  unfold trimL at Ta Tb la lb
  generalize vl a = x at *
  generalize vl b = y at *
  obtain ⟨m, hm⟩ : ∃ m, (dg x).length = m := ⟨_, rfl⟩
  obtain ⟨k, hk⟩ : ∃ k, (dg y).length = k := ⟨_, rfl⟩
  have hml : m ≤ 268435455 := by omega
  have hkl : k ≤ 268435455 := by omega
  have Hm := Lib.hid hm
  have Hk := Lib.hid hk
  clear ha hb la lb hal hbl hm hk
  go_enter Tryz.func195, Tryz.ntmps195
  go_wp2_with fail
  refine Ta.out.mono ?_
  rintro r w' ⟨hw, v1, rfl, h1⟩; obtain rfl := hw.symm
  have H1 := Lib.hid h1
  clear hw Ta
  go_wp2_with fail
  refine Tb.out.mono ?_
  rintro r w' ⟨hw, v2, rfl, h2⟩; obtain rfl := hw.symm
  have H2 := Lib.hid h2
  obtain ⟨ao, ca, rfl, _⟩ := h1.2
  obtain ⟨bo, cb, rfl, _⟩ := h2.2
  rw [Hm.out] at H1 ⊢
  rw [Hk.out] at H2 ⊢
  clear hw Tb h1 h2
  by_cases hy : k = 0
  · subst hy
    have hy0 : y = 0 := dg_eq_nil.1 (List.eq_nil_of_length_eq_zero Hk.out)
    have HP : Hid (DivPost w x y (.returned (.tuple #[.slice none 0 0, .slice none 0 0, .int .i64 2])) w) := Lib.hid (by unfold DivPost; rw [if_pos hy0]; exact ⟨rfl, rfl⟩)
    clear hy0
    go_wp2
    go_ret3
    exact HP.out
  · have hy0 : ¬ y = 0 := fun h => hy (by rw [← Hk.out, h, dg_zero]; rfl)
    have k1 : ¬ (k : Int) = 0 := by omega
    have HC := Lib.hid (cmp_any w _ _ _ _ H1.out H2.out (by rw [Hm.out]; omega) (by rw [Hk.out]; omega))
    rw [vl_dg, vl_dg] at HC
    by_cases hxy : x < y
    · have e : cmpN x y = -1 := by unfold cmpN; rw [if_pos hxy]
      rw [e] at HC
      have HCl := Lib.hid (clone_any w _ _ H1.out (by rw [Hm.out]; omega))
      have Hxy := Lib.hid hxy
      have Hy0 := Lib.hid hy0
      clear e hxy hy0
      go_wp2_with fail
      refine HC.out.mono ?_
      rintro r w' ⟨rfl, hw⟩; obtain rfl := hw.symm
      go_wp2_with fail
      refine HCl.out.mono ?_
      rintro r w9 ⟨v9, rfl, ho, hx⟩
      have HP : Hid (DivPost w x y (.returned (.tuple #[.slice none 0 0, v9, .int .i64 0])) w9) := Lib.hid (DivPost.mk Hy0.out (by rw [Nat.div_eq_of_lt Hxy.out]; exact IsNat.nil _) (by rw [Nat.mod_eq_of_lt Hxy.out]; exact ho.rds (dg_dig _)) hx)
      clear ho hx
      go_wp2
      go_ret3
      exact HP.out
    · have e : ¬ cmpN x y < 0 := by unfold cmpN; rw [if_neg hxy]; split <;> omega
      generalize hq : cmpN x y = cq at *
      clear hq
      have hmono := dg_mono (show y ≤ x by omega)
      rw [Hm.out, Hk.out] at hmono
      have Hxy := Lib.hid hxy
      have Hy0 := Lib.hid hy0
      clear hxy hy0
      obtain ⟨bb, ob, rfl, hbb⟩ := H2.out.base (by rw [Hk.out]; omega)
      have hc := H2.out.at.2
      rw [Hk.out] at hc
      by_cases k2 : k = 1
      · subst k2
        obtain ⟨y1, y2, y3⟩ := dg_one Hk.out
        have c0 := hc 0 (by omega)
        rw [y1] at c0
        simp only [Nat.add_zero] at c0
        have HS := Lib.hid (short_any w _ _ H1.out (by rw [Hm.out]; omega) (by rw [Hm.out]; omega) y y2 y3)
        rw [vl_dg] at HS
        clear hc y1
        go_wp2_with fail
        refine HC.out.mono ?_
        rintro r w' ⟨rfl, hw⟩; obtain rfl := hw.symm
        go_wp2_with fail
        refine HS.out.mono ?_
        rintro r w9 ⟨v9, rfl, h9, hx⟩
        have HF := Lib.hid (from_any w9 (x % y) (by have := Nat.mod_lt x y2; omega))
        have H9 := Lib.hid h9
        have HX := Lib.hid hx
        obtain ⟨rr, hrr⟩ : ∃ rr, x % y = rr := ⟨_, rfl⟩
        rw [hrr] at HF ⊢
        have Hrr := Lib.hid hrr
        clear h9 hx hrr
        go_wp2_with fail
        refine HF.out.mono ?_
        rintro r w8 ⟨v8, rfl, h8, hx8⟩
        have HP : Hid (DivPost w x y (.returned (.tuple #[v9, v8, .int .i64 0])) w8) := Lib.hid (DivPost.mk Hy0.out (H9.out.keep hx8) (by rw [Hrr.out]; exact h8) (HX.out.trans hx8))
        clear h8 hx8
        go_wp2
        go_ret3
        exact HP.out
      · obtain ⟨k1', hk1⟩ : ∃ k1', k = k1' + 1 := ⟨k - 1, by omega⟩
        obtain ⟨k2', hk2⟩ : ∃ k2', k1' = k2' + 1 := ⟨k1' - 1, by omega⟩
        have hkd' : (dg y).length = k1' + 1 := by have := Hk.out; omega
        have Hlast := dg_last (n := y) (k := k1') hkd'
        have c0 := hc k1' (by omega)
        obtain ⟨t, ht⟩ : ∃ t, dgt (dg y) k1' = t := ⟨_, rfl⟩
        have htl := dgt_lt (dg_dig y) k1'
        rw [ht] at c0 htl Hlast
        obtain ⟨n, hn, hbit, hnt⟩ := lead_ok Hlast.1 htl
        obtain ⟨hV, hB⟩ := div_norm (n := n) hkd' (by omega) (by rw [ht]; exact hnt)
        obtain ⟨V, hVe⟩ : ∃ V, 2 ^ n * y = V := ⟨_, rfl⟩
        rw [hVe] at hV
        have HL := Lib.hid (Tryz.bits_LeadingZeros32 (t : Int) w (by omega) (by omega))
        rw [Int.toNat_natCast, hbit] at HL
        have HS1 := Lib.hid (shift_any w _ _ H1.out (by rw [Hm.out]; omega) n hn)
        have HV := Lib.hid (And.intro hV (And.intro hB hVe))
        have i0 : (k : Int) - 1 = k1' := by omega
        have i1 : (0 : Int) ≤ (k1' : Int) := by omega
        have i2 : (k1' : Int) < (k : Int) := by omega
        have HK := Lib.hid (And.intro hk1 hk2)
        have hk3 : 2 ≤ k := by omega
        clear hc Hlast hnt hV hB hkd' hbit hVe hk1 hk2
        have Ht := Lib.hid ht
        clear ht
        go_wp2_with fail
        refine HC.out.mono ?_
        rintro r w' ⟨rfl, hw⟩; obtain rfl := hw.symm
        go_wp2_with fail
        refine HL.out.mono ?_
        rintro r w' ⟨rfl, hw⟩; obtain rfl := hw.symm
        clear hw HL HC c0 htl Ht
        go_wp2_with fail
        refine HS1.out.mono ?_
        rintro r w1 ⟨lu, rfl, hA, hd, hl, hv, hx⟩
        have HS2 := Lib.hid (shift_any w1 _ _ (H2.out.keep hx) (by rw [Hk.out]; omega) n hn)
        rw [vl_dg] at hv
        rw [Hm.out] at hl
        obtain ⟨M, hM⟩ : ∃ M, m + 1 = M := ⟨_, rfl⟩
        rw [hM] at hl
        rw [hl]
        have hU1 := hA.lt
        obtain ⟨U, hU⟩ : ∃ U, w.heap.size = U := ⟨_, rfl⟩
        rw [hU] at hA hU1 ⊢
        have HA1 := Lib.hid (And.intro hA (And.intro hd (And.intro hl (And.intro hv hx))))
        clear hA hd hl hv hx
        go_wp2_with fail
        refine HS2.out.mono ?_
        rintro r w2 ⟨lv, rfl, hA, hd, hl, hv, hx⟩
        rw [vl_dg, HV.out.2.2] at hv
        rw [Hk.out] at hl
        have hT := trim_at w2 _ lv (hA.rds hd (by rw [hl]; omega))
        unfold trimL at hT
        rw [hv] at hT
        have HT := Lib.hid hT
        have HX2 := Lib.hid hx
        have hBl := hA.lt
        clear hA hd hl hv hx hT HS2
        obtain ⟨Bv, hBv⟩ : ∃ Bv, w1.heap.size = Bv := ⟨_, rfl⟩
        rw [hBv] at HT hBl ⊢
        have hUB : ¬ Bv = U := by omega
        go_wp2_with fail
        refine HT.out.mono ?_
        rintro r w' ⟨hw, v3, rfl, h3, hcut⟩; obtain rfl := hw.symm
        obtain ⟨n3, rfl⟩ := hcut _ _ _ rfl
        have hn3 := h3.at.1
        rw [HV.out.1, ← HK.out.1] at hn3
        subst hn3
        have H3 := Lib.hid h3
        clear hw h3 hcut HT
        obtain ⟨mm, hmm⟩ : ∃ mm, M - n3 = mm := ⟨_, rfl⟩
        have hmi : (M : Int) - n3 = mm := by omega
        obtain ⟨w3, hmk, hQ, hxq⟩ := run_make_nat w2 mm (by omega)
        obtain ⟨Q, hQe⟩ : ∃ Q, w2.heap.size = Q := ⟨_, rfl⟩
        have hs2 := HX2.out.size
        rw [hQe] at hmk hQ hs2 hBl
        have hUQ : ¬ Q = U := by omega
        have hfirst := div_first (u := lu) (A := x) (B := y) (k := k1') (n := n) (la := m) (m := mm) HA1.out.2.2.2.1 (by have := dg_lt x; rwa [Hm.out] at this) (by rw [HA1.out.2.2.1]; omega) (by have := HK.out.1; omega) HV.out.2.1
        rw [HV.out.2.2] at hfirst
        have hst0 := DivSt.start (m := mm) HA1.out.2.1 hfirst
        rw [HA1.out.2.2.2.1] at hst0
        have HI := Lib.hid (And.intro hst0 (And.intro (HA1.out.1.ext (HX2.out.trans hxq)) (And.intro hQ (And.intro (H3.out.keep hxq) ((HA1.out.2.2.2.2.trans HX2.out).trans hxq)))))
        have HLu := Lib.hid HA1.out.2.2.1
        clear hfirst hst0 hQ hxq hs2 HA1
        go_wp2_with fail
        go_loopg [14] mm (fun g v14 wr => ∃ (i : Nat) (u q : List Nat), i ≤ mm ∧ g = i ∧ v14 = .int .i64 ((i : Int) - 1) ∧ DivSt (2 ^ n * x) V mm i u q ∧ u.length = M ∧ Arr wr U u ∧ Arr wr Q q ∧ Rds wr (.slice (some ⟨Bv, 0, none⟩) n3 n3) (dg V) ∧ Ext (fun _ => False) w wr)
        case atStart => exact ⟨mm, lu, _, Nat.le_refl _, rfl, rfl, HI.out.1, HLu.out, HI.out.2.1, HI.out.2.2.1, HI.out.2.2.2.1, HI.out.2.2.2.2⟩
        case round =>
          obtain ⟨i, u, q, him, hg, rfl, hst, hlu, hAu, hAq, hrv, hx⟩ := hrel
          obtain rfl := hg.symm
          clear HI HLu hmk
          by_cases h0 : i = 0
          · subst h0
            have hdn := hst.done
            rw [← HV.out.2.2, Nat.mul_div_mul_left _ _ (Nat.two_pow_pos n), Nat.mul_mod_mul_left] at hdn
            have HD := Lib.hid hdn
            have HQ := Lib.hid (And.intro hst.qdig (And.intro hst.qlen hAq))
            have HB0 := Lib.hid (And.intro (BackSt.zero hst.udig n) (And.intro hAu hx))
            have Hud := Lib.hid hst.udig
            have p1 : ((0 : Nat) : Int) - 1 = -1 := by omega
            rw [p1]
            have HLu := Lib.hid hlu
            clear hst hdn hlu hAu hAq hrv hx p1 i0 i2 i1
            go_wp2_with fail
            go_loopg [124] n3 (fun g v124 wr2 => ∃ (i : Nat) (o : List Nat), i ≤ n3 ∧ g = n3 - i ∧ v124 = .int .i64 i ∧ BackSt u n i o ∧ Arr wr2 U o ∧ Arr wr2 Q q ∧ Ext (fun _ => False) w wr2)
            case atStart => exact ⟨0, u, Nat.zero_le _, rfl, rfl, HB0.out.1, HB0.out.2.1, HQ.out.2.2, HB0.out.2.2⟩
            case round =>
              obtain ⟨i, o, hi, rfl, rfl, hst, hAo, hAq, hx⟩ := hrel
              clear HB0
              have hlo := hst.len.trans HLu.out
              have hro := hAo.rds' hst.dig (c := M) (by omega) (by unfold maxLen; omega)
              rw [hlo] at hro
              by_cases hin : i < n3
              · have d1 := digit_any wr _ o hro (i + 1) (by omega)
                have d0 := digit_any wr _ o hro i (by omega)
                have l1 := dgt_lt hst.dig (i + 1)
                have l0 := dgt_lt hst.dig i
                have hnx := fun d he => BackSt.step (d := d) Hud.out hn (by have := HLu.out; omega) hst he
                have c2 := hAo.cell i (by omega)
                have f2 := hAo.free i
                generalize dgt o (i + 1) = X at *
                generalize dgt o i = Y at *
                have hor := or_digits l1 l0
                obtain ⟨T, hT⟩ : ∃ T, X * 4294967296 + Y = T := ⟨_, rfl⟩
                rw [hT] at hor hnx
                have HD1 := Lib.hid d1
                have HD0 := Lib.hid d0
                have Hnx := Lib.hid hnx
                have HA := Lib.hid (And.intro hAo (And.intro hAq hx))
                obtain ⟨I1, hI1⟩ : ∃ I1, i + 1 = I1 := ⟨_, rfl⟩
                have i3 : (i : Int) + 1 = I1 := by omega
                rw [hI1] at HD1 Hnx
                have HI1 := Lib.hid hI1
                clear hI1
                clear d1 d0 hnx hst hAo hAq hx hro hT hlo
                go_wp2_with fail
                refine HD1.out.mono ?_
                rintro r w' ⟨rfl, hw⟩; obtain rfl := hw.symm
                go_wp2_with fail
                refine HD0.out.mono ?_
                rintro r w' ⟨rfl, hw⟩; obtain rfl := hw.symm
                go_wp2
                have q1 : (T : Int) / 2 ^ n % 4294967296 = ((T / 2 ^ n % 4294967296 : Nat) : Int) := by rw [Int.natCast_emod, Int.natCast_ediv, Int.natCast_pow]; rfl
                rw [q1]
                go_roundg (n3 - I1)
                case measure => have := HI1.out; omega
                case rel =>
                  have hxs := (Ext.refl (fun z => z = U) wr).setCell (p := ⟨U, i, none⟩) (.int .u32 (T / 2 ^ n % 4294967296 : Nat)) (fun _ => rfl)
                  obtain ⟨h1, h2, h3⟩ := HA.out
                  exact ⟨I1, _, by have := HI1.out; omega, rfl, by go_num, Hnx.out _ rfl, h1.set i _, h2.extS hxs hUQ, h3.own hxs (fun z e => by omega)⟩
              · obtain rfl : i = n3 := by omega
                have hV := dg_lt V
                rw [HV.out.1, ← HK.out.1] at hV
                have hyV : x % y < 4294967296 ^ i := by
                  have h1 := Nat.mod_lt x (Nat.pos_of_ne_zero Hy0.out)
                  have h2 := HV.out.2.2
                  have h3 := Nat.le_mul_of_pos_left y (Nat.two_pow_pos n)
                  omega
                have hR := hst.done HD.out.2 hyV
                have hq := hAq.rds' HQ.out.1 (c := mm) (by rw [HQ.out.2.1]; exact Nat.le_refl _) (by unfold maxLen; omega)
                rw [HQ.out.2.1] at hq
                have HTq := Lib.hid (fun W (hW : Ext (fun _ => False) wr W) => trim_any W _ q (hq.keep hW))
                unfold trimL at HTq
                rw [HD.out.1] at HTq
                have HFu := Lib.hid (fun W (hW : Ext (fun _ => False) wr W) => fresh_any W _ _ ((hro.head i (by omega)).keep hW) (by rw [List.length_take]; omega))
                rw [hR] at HFu
                have HX := Lib.hid hx
                have hiM : (i : Int) ≤ (M : Int) := by omega
                have hi0 : (0 : Int) ≤ (i : Int) := by omega
                clear hst hAo hAq hx hro hlo hin hV hyV hR hq
                go_upto_region 23 with fail
                go_region_law (first
                  | (go_simp; go_at_call 185; (with_reducible refine (HTq.out _ ?_).mono ?_); (repeat (first | exact Ext.refl _ _ | apply Ext.drew | assumption)); rintro r w7 ⟨hw7, v9, rfl, h9⟩; subst hw7)
                  | (go_simp; go_at_call 189; (with_reducible refine (HFu.out _ ?_).mono ?_); (repeat (first | exact Ext.refl _ _ | apply Ext.drew | assumption)); rintro r w8 ⟨v8, rfl, h8, hx8⟩))
                all_goals (have HP : Hid (DivPost w x y (.returned (.tuple #[v9, v8, .int .i64 0])) w8) := Lib.hid (DivPost.mk Hy0.out (h9.keep hx8) h8 (HX.out.drew.trans hx8)))
                all_goals clear h9 h8 hx8
                all_goals go_wp2
                all_goals go_ret3
                all_goals exact HP.out
          · obtain ⟨j, rfl⟩ : ∃ j, i = j + 1 := ⟨i - 1, by omega⟩
            have hk1 := HK.out.1
            have hk2 := HK.out.2
            have hju : j < u.length := by omega
            have hd3 := hst.udig.drop j
            have hnl := hst.next_lt hju
            have hVk := dg_lt V
            rw [HV.out.1] at hVk
            have hXk : vl (u.drop j) < 4294967296 ^ (k2' + 3) := by
              have h1 : 4294967296 * V < 4294967296 * 4294967296 ^ (k1' + 1) := Nat.mul_lt_mul_of_pos_left hVk (by omega)
              rw [Nat.mul_comm 4294967296 (4294967296 ^ (k1' + 1)), ← Nat.pow_succ] at h1
              rw [show k2' + 3 = (k1' + 1).succ by omega]
              exact Nat.lt_trans hnl h1
            have htop := top_three hd3 hXk (by rw [List.length_drop]; omega)
            have hVtop := top_two (n := V) (k := k2') (by rw [HV.out.1]; omega)
            have hVlast := dg_last (n := V) (k := k2' + 1) (by rw [HV.out.1]; omega)
            have hX0 := vl_take_lt hd3 k2'
            have hV0 := vl_take_lt (dg_dig V) k2'
            rw [dgt_drop, dgt_drop, dgt_drop] at htop
            have hXl := dgt_lt hst.udig (j + (k2' + 2))
            have hYl := dgt_lt hst.udig (j + (k2' + 1))
            have hZl := dgt_lt hst.udig (j + k2')
            have hFl := dgt_lt (dg_dig V) (k2' + 1)
            have hSl := dgt_lt (dg_dig V) k2'
            have cx := hAu.cell (j + (k2' + 2)) (by omega)
            have cy := hAu.cell (j + (k2' + 1)) (by omega)
            have cz := hAu.cell (j + k2') (by omega)
            have hvc := hrv.at.2
            have cf := hvc (k2' + 1) (by rw [HV.out.1]; omega)
            have cs := hvc k2' (by rw [HV.out.1]; omega)
            rw [Nat.zero_add] at cf cs
            obtain ⟨hxf, hg1, hg2⟩ := guess_ok hVlast.1 htop hX0 hVtop hV0 hYl hSl hnl
            have hF0 := hVlast.1
            generalize hXe : dgt u (j + (k2' + 2)) = X at *
            generalize hYe : dgt u (j + (k2' + 1)) = Y at *
            generalize hZe : dgt u (j + k2') = Z at *
            generalize hFe : dgt (dg V) (k2' + 1) = F at *
            generalize hSe : dgt (dg V) k2' = S at *
            have HE := Lib.hid (fun W => estimate_any W X Y Z F S hF0 hFl hxf hYl hZl hSl)
            have hGl : guess X Y Z F S < 4294967296 := Nat.lt_of_le_of_lt (Nat.min_le_left _ _) (by omega)
            generalize guess X Y Z F S = G at *
            have hfit : G * vl (dg V) ≤ vl (u.drop j) + vl (dg V) := by
              rw [vl_dg]
              have h1 := Nat.mul_le_mul_right V hg2
              rw [Nat.add_mul, Nat.one_mul] at h1
              have h2 := Nat.div_mul_le_self (vl (u.drop j)) V
              omega
            have HR := Lib.hid (fun N => reduce_any (wr.drewN N) U M M u (.slice (some ⟨Bv, 0, none⟩) n3 n3) (dg V) j G (hAu.ext ((Ext.refl _ wr).drewN N)) hlu hst.udig (fun W hW => (hrv.keep ((Ext.refl _ wr).drewN N)).off hW (by omega)) (k1' + 2) (by rw [HV.out.1]) (by omega) (by omega) hGl (fun i hi => dgt_zero hXk i (by omega)) hfit)
            have hlq : j < q.length := by rw [hst.qlen]; omega
            have HG := Lib.hid (fun (q' : Nat) (u' : List Nat) (h1 : q' ≤ G) h2 h3 h4 h5 h6 => DivSt.step (d := q') (u' := u') hst (show j < mm by omega) h2 hju (by omega) h3 h4 h5 (digit_rest hg1 (show 0 < V by have := HV.out.2.2; have := hVlast.2.1; have := Nat.mul_le_mul (show 1 ≤ 4294967296 ^ (k2' + 1) from Nat.pow_pos (by omega)) hF0; omega) h5 h6))
            obtain ⟨P0, hP0⟩ : ∃ P0, j + (k2' + 2) = P0 := ⟨_, rfl⟩
            obtain ⟨P1, hP1⟩ : ∃ P1, j + (k2' + 1) = P1 := ⟨_, rfl⟩
            obtain ⟨P2, hP2⟩ : ∃ P2, j + k2' = P2 := ⟨_, rfl⟩
            obtain ⟨R1, hR1⟩ : ∃ R1, k2' + 1 = R1 := ⟨_, rfl⟩
            rw [hP0] at cx
            rw [hP1] at cy
            rw [hP2] at cz
            rw [hR1] at cf
            have p1 : ((j + 1 : Nat) : Int) - 1 = j := by omega
            have i0a : (0 : Int) ≤ (j : Int) + n3 := by omega
            have i0b : (j : Int) + n3 < (M : Int) := by omega
            have i0c : ((j : Int) + n3).toNat = P0 := by omega
            have i1a : (0 : Int) ≤ (j : Int) + n3 - 1 := by omega
            have i1b : (j : Int) + n3 - 1 < (M : Int) := by omega
            have i1c : ((j : Int) + n3 - 1).toNat = P1 := by omega
            have i2a : (0 : Int) ≤ (j : Int) + n3 - 2 := by omega
            have i2b : (j : Int) + n3 - 2 < (M : Int) := by omega
            have i2c : ((j : Int) + n3 - 2).toNat = P2 := by omega
            have i3a : (0 : Int) ≤ (n3 : Int) - 1 := by omega
            have i3b : (n3 : Int) - 1 < (n3 : Int) := by omega
            have i3c : ((n3 : Int) - 1).toNat = R1 := by omega
            have i4a : (0 : Int) ≤ (n3 : Int) - 2 := by omega
            have i4b : (n3 : Int) - 2 < (n3 : Int) := by omega
            have i4c : ((n3 : Int) - 2).toNat = k2' := by omega
            have b5 : j < mm := by omega
            have hql := hst.qlen
            have HS := Lib.hid (And.intro hAq (And.intro hql hx))
            have HLu := Lib.hid hlu
            have Hrv := Lib.hid hrv
            rw [p1]
            clear i0 i2 hk1 hk2 hd3 hnl hVk hXk htop hVtop hVlast hX0 hV0 hvc hxf hg1 hg2 hXe hYe hZe hFe hSe hfit hP0 hP1 hP2 hR1 hst hlu hAu hAq hrv hx hql p1 him hju hlq
            go_upto_region 16 with fail
            go_quiet ((go_at_call 210; exact (HE.out _).mono (fun r w' h => ⟨h.1, (by obtain ⟨n, e⟩ := h.2; exact ⟨_, e.trans (World.drewN_drewN _ _ _)⟩)⟩)))
            go_wp2_with fail
            refine (HR.out _).mono ?_
            rintro r w9 ⟨q', u', rfl, hq', hA9, hd9, hl9, hs9, hv9, hdq9, hx9⟩
            rw [vl_dg] at hv9 hdq9
            have hnew := HG.out q' u' hq' hl9 hd9 (fun p hp => hs9 p (.inl hp)) hv9 hdq9
            have hq32 : (q' : Int) % 4294967296 = q' := by omega
            have aq := (HS.out.1.ext ((Ext.refl _ wr).drewN _)).extS hx9 hUQ
            have f2 := aq.free j
            have c2 := aq.cell j (by rw [HS.out.2.1]; omega)
            have HN := Lib.hid (And.intro hnew (And.intro (hl9.trans HLu.out) (And.intro hA9 (And.intro (aq.set j q') (And.intro ((Hrv.out.keep ((Ext.refl _ wr).drewN _)).off hx9 hUB) ((HS.out.2.2.drewN _).own hx9 (fun z e => by omega)))))))
            clear hq' hA9 hd9 hl9 hs9 hv9 hdq9 hx9 hnew aq HE HR HG
            go_wp2
            go_roundg j
            case measure => omega
            case rel =>
              have hxs := (Ext.refl (fun z => z = Q) w9).setCell (p := ⟨Q, j, none⟩) (.int .u32 (q' : Nat)) (fun _ => rfl)
              obtain ⟨h1, h2, h3, h4, h5, h6⟩ := HN.out
              exact ⟨j, u', _, by omega, rfl, by go_num, h1, h2, h3.extS hxs (fun e => hUQ e.symm), h4, h5.off hxs (by omega), h6.own hxs (fun z e => by omega)⟩
end Go.Proofs.YtbgienfcmdgaaaaGreat
/-
  Package natural: Gcd, Bits. Conditions: the arguments read as digits, lengths bounded.
-/
namespace Go.Proofs.YtbgienfcmdgaaaaGreat
open Go.RowKit Go.MapKept
open Go.ChangeMaps (setBlock)

theorem dg_two_lt {n : Nat} (h : (dg n).length ≤ 2) : n < 18446744073709551616 := Nat.lt_of_lt_of_le (dg_lt n) (pow_mono h)
set_option maxRecDepth 100000 in
set_option maxHeartbeats 2000000 in
theorem gcd_any (w : World) (va vb : Value) (a b : List Nat) (ha : Rds w va a) (hb : Rds w vb b) (hal : a.length ≤ 268435455) (hbl : b.length ≤ 268435455) :
    Calls Tryz.prog 164 #[va, vb] w (NatPost w (Nat.gcd (vl a) (vl b))) := by
  have Fa := Lib.hid (fresh_any w va a ha (by omega))
  have Fb := Lib.hid (fun W (hW : Ext (fun _ => False) w W) => fresh_any W vb b (hb.keep hW) (by omega))
  have la := trimL_length a ha.1
  have lb := trimL_length b hb.1
  unfold trimL at la lb
  have hla : (dg (vl a)).length ≤ 268435455 := by omega
  have hlb : (dg (vl b)).length ≤ 268435455 := by omega
  generalize vl a = x0 at *
  generalize vl b = y0 at *
  have HL := Lib.hid (And.intro hla hlb)
  clear ha hb hal hbl la lb hla hlb
  go_enter Tryz.func164, Tryz.ntmps164
  go_wp2_with fail
  refine Fa.out.mono ?_
  rintro r w1 ⟨v1, rfl, h1, hx1⟩
  have Fb1 := Lib.hid (Fb.out w1 hx1)
  have H1 := Lib.hid (And.intro h1 hx1)
  clear h1 hx1 Fa Fb
  go_wp2_with fail
  refine Fb1.out.mono ?_
  rintro r w2 ⟨v2, rfl, h2, hx2⟩
  have HI := Lib.hid (And.intro (H1.out.1.keep hx2) (And.intro h2 (H1.out.2.trans hx2)))
  clear h2 hx2 Fb1 H1
  go_wp2_with fail
  go_loopg [0, 1] y0 (fun g v0 v1 wr => ∃ x y : Nat, g = y ∧ IsNat wr v0 x ∧ IsNat wr v1 y ∧ (dg x).length ≤ 268435455 ∧ (dg y).length ≤ 268435455 ∧ Nat.gcd x y = Nat.gcd x0 y0 ∧ Ext (fun _ => False) w wr)
  case atStart => exact ⟨x0, y0, rfl, HI.out.1, HI.out.2.1, HL.out.1, HL.out.2, rfl, HI.out.2.2⟩
  case round =>
    rename_i v0 v1
    obtain ⟨x, y, hg, h0, h1, hlx, hly, hgc, hx⟩ := hrel
    obtain rfl := hg.symm
    clear HI HL
    have h0' := h0
    have h1' := h1
    obtain ⟨ao, ca, rfl, _⟩ := h0'.2
    obtain ⟨bo, cb, rfl, _⟩ := h1'.2
    by_cases hy : y = 0
    · subst hy
      rw [Nat.gcd_zero_right] at hgc
      rw [dg_zero]
      have HP : Hid (NatPost w (Nat.gcd x0 y0) (.returned (.slice ao (dg x).length ca)) wr) := Lib.hid ⟨_, rfl, by rw [← hgc]; exact h0, hx⟩
      clear h0 h1 h0' h1' hgc hx hlx hly
      generalize (dg x).length = lx at *
      simp only [List.length_nil]
      go_wp2
      go_ret
      exact HP.out
    · obtain ⟨m, hm⟩ : ∃ m, (dg x).length = m := ⟨_, rfl⟩
      obtain ⟨k, hk⟩ : ∃ k, (dg y).length = k := ⟨_, rfl⟩
      have hk0 : 0 < k := by
        rcases Nat.eq_zero_or_pos k with h | h
        · exact absurd (dg_eq_nil.1 (List.eq_nil_of_length_eq_zero (hk.trans h))) hy
        · exact h
      have hki : (0 : Int) < (k : Int) := by omega
      have HD := divmod_any wr _ _ _ _ h0 h1 hlx hly
      have HS := fun h2 h3 => small_any wr _ _ _ _ h0 h1 h2 h3
      rw [vl_dg, vl_dg, hm, hk] at HD HS
      have hlx' := hlx
      have hly' := hly
      rw [hm] at hlx'
      rw [hk] at hly'
      have H0 := Lib.hid (And.intro h0 (And.intro h1 (And.intro hx hgc)))
      have Hm := Lib.hid (And.intro hm (And.intro hk (And.intro hlx hly)))
      rw [hm, hk]
      have Hy := Lib.hid hy
      by_cases h22 : m ≤ 2 ∧ k ≤ 2
      · have HS' := Lib.hid (HS (dg_two_lt (by omega)) (dg_two_lt (by omega)))
        have m2 : (m : Int) ≤ 2 := by omega
        have k2 : (k : Int) ≤ 2 := by omega
        clear h0 h1 h0' h1' hgc hx hlx hly hm hk HD HS h22 hy
        go_wp2_with fail
        refine HS'.out.mono ?_
        rintro r w9 ⟨v9, rfl, h9, hx9⟩
        have HP : Hid (NatPost w (Nat.gcd x0 y0) (.returned v9) w9) := Lib.hid ⟨_, rfl, by rw [← H0.out.2.2.2]; exact h9, H0.out.2.2.1.trans hx9⟩
        clear h9 hx9
        go_wp2
        go_ret
        exact HP.out
      · have hD' : DivPost wr x y = fun r w' => ∃ v1 v2, r = .returned (.tuple #[v1, v2, .int .i64 0]) ∧ IsNat w' v1 (x / y) ∧ IsNat w' v2 (x % y) ∧ Ext (fun _ => False) wr w' := by
          funext r w'; unfold DivPost; rw [if_neg hy]
        rw [hD'] at HD
        have HD' := Lib.hid HD
        have hlt := Nat.mod_lt x (Nat.pos_of_ne_zero hy)
        have hmono := dg_mono (Nat.le_of_lt hlt)
        have hgn : Nat.gcd y (x % y) = Nat.gcd x0 y0 := by rw [← hgc, Nat.gcd_comm y, ← Nat.gcd_rec, Nat.gcd_comm]
        have HN := Lib.hid (And.intro hlt (And.intro hgn (Nat.le_trans hmono hly)))
        have hcase : ¬ (m : Int) ≤ 2 ∨ ((m : Int) ≤ 2 ∧ ¬ (k : Int) ≤ 2) := by omega
        clear h0 h1 h0' h1' hgc hx hlx hly hm hk HD HS h22 hy hD' hlt hmono hgn
        rcases hcase with m2 | ⟨m2, k2⟩
        all_goals
          go_wp2_with fail
          refine HD'.out.mono ?_
          rintro r w9 ⟨v8, v9, rfl, _, h9, hx9⟩
          have HF : Hid (IsNat w9 (.slice bo k cb) y ∧ IsNat w9 v9 (x % y) ∧ Ext (fun _ => False) w w9) := Lib.hid ⟨by have := H0.out.2.1.keep hx9; rw [Hm.out.2.1] at this; exact this, h9, H0.out.2.2.1.trans hx9⟩
          clear h9 hx9
          go_wp2
          go_roundg (x % y)
        case measure => exact HN.out.1
        case rel => exact ⟨y, x % y, rfl, HF.out.1, HF.out.2.1, Hm.out.2.2.2, HN.out.2.2, HN.out.2.1, HF.out.2.2⟩
        case measure => exact HN.out.1
        case rel => exact ⟨y, x % y, rfl, HF.out.1, HF.out.2.1, Hm.out.2.2.2, HN.out.2.2, HN.out.2.1, HF.out.2.2⟩
/-- Bits, as far as its callers ask: 0 for 0 alone -/
def BitsPost (w : World) (n : Nat) (r : Ending) (w' : World) : Prop := ∃ m : Nat, r = .returned (.int .i64 m) ∧ w' = w ∧ (m = 0 ↔ n = 0)
set_option maxRecDepth 100000 in
set_option maxHeartbeats 2000000 in
theorem bits_any (w : World) (v : Value) (l : List Nat) (h : Rds w v l) (hl : l.length ≤ 268435455) : Calls Tryz.prog 150 #[v] w (BitsPost w (vl l)) := by
  have HT := Lib.hid (trim_any w v l h)
  have ll := trimL_length l h.1
  unfold trimL at HT ll
  generalize vl l = n at *
  have hl2 : (dg n).length ≤ 268435455 := by omega
  clear h ll hl
  go_enter Tryz.func150, Tryz.ntmps150
  go_wp2_with fail
  refine HT.out.mono ?_
  rintro r w' ⟨hw, v1, rfl, h1⟩; obtain rfl := hw.symm
  obtain ⟨ao, c, rfl, _⟩ := id h1.2
  obtain ⟨k, hk⟩ : ∃ k, (dg n).length = k := ⟨_, rfl⟩
  rw [hk] at h1 hl2 ⊢
  by_cases h0 : k = 0
  · subst h0
    have hn : n = 0 := dg_eq_nil.1 (List.eq_nil_of_length_eq_zero hk)
    have HP : Hid (BitsPost w n (.returned (.int .i64 0)) w) := Lib.hid ⟨0, rfl, rfl, by simp [hn]⟩
    clear hn h1 hk HT
    go_wp2
    go_ret
    exact HP.out
  · obtain ⟨j, hj⟩ : ∃ j, k = j + 1 := ⟨k - 1, by omega⟩
    obtain ⟨bb, ob, rfl, hbb⟩ := h1.base (by omega)
    have c0 := h1.at.2 j (by omega)
    obtain ⟨hp, _, _⟩ := dg_last (n := n) (k := j) (by omega)
    have htl := dgt_lt (dg_dig n) j
    generalize dgt (dg n) j = t at *
    have HL := Lib.hid (Tryz.bits_Len32 (t : Int) w (by omega) (by omega))
    rw [Int.toNat_natCast] at HL
    have hbl := bitLen_lt htl
    have hb32 := Any.bitLen_le32 t (by omega) (by omega)
    rw [Int.toNat_natCast] at hb32
    generalize Lib.bitLen t = q at *
    have hq0 : 0 < q := by
      rcases Nat.eq_zero_or_pos q with rfl | h
      · simp at hbl; omega
      · exact h
    have hne : ¬ n = 0 := fun h => h0 (by rw [← hk, h, dg_zero]; rfl)
    obtain ⟨S, hS⟩ : ∃ S, 32 * j + q = S := ⟨_, rfl⟩
    have HP : Hid (BitsPost w n (.returned (.int .i64 S)) w) := Lib.hid ⟨S, rfl, rfl, by constructor <;> intro h <;> omega⟩
    have i0 : (k : Int) - 1 = j := by omega
    have i1 : (j : Int) < (k : Int) := by omega
    have i2 : (32 : Int) * j + q = S := by omega
    have i3 : ¬ (k : Int) = 0 := by omega
    clear h1 hk HT hj hp hbl hS hne
    go_wp2_with fail
    refine HL.out.mono ?_
    rintro r w' ⟨rfl, hw⟩; obtain rfl := hw.symm
    clear hw HL c0
    go_wp2
    go_ret
    exact HP.out
end Go.Proofs.YtbgienfcmdgaaaaGreat
/-
  Package integer: how its numbers read; signed. Conditions: the magnitude is in its only form.
-/
namespace Go.Proofs.YtbgienfcmdgaaaaGreat
open Go.RowKit Go.MapKept
open Go.ChangeMaps (setBlock)

def sg (neg : Bool) (n : Nat) : Int := if neg then -(n : Int) else n
theorem sg_natAbs (neg : Bool) (n : Nat) : (sg neg n).natAbs = n := by unfold sg; split <;> omega
theorem sg_neg (neg : Bool) (n : Nat) : decide (sg neg n < 0) = (neg && decide (0 < n)) := by
  unfold sg
  cases neg
  · simp
  · simp
/-- a value reads as the integer z, in at most L digits -/
def Rint (w : World) (v : Value) (z : Int) (L : Nat) : Prop := ∃ neg mag l, v = .agg #[.bool neg, mag] ∧ Rds w mag l ∧ l.length ≤ L ∧ z = sg neg (vl l)
/-- a value in the only form -/
def IsInt (w : World) (v : Value) (z : Int) : Prop := ∃ mag, v = .agg #[.bool (decide (z < 0)), mag] ∧ IsNat w mag z.natAbs
def IntPost (w : World) (z : Int) (r : Ending) (w' : World) : Prop := ∃ v, r = .returned v ∧ IsInt w' v z ∧ Ext (fun _ => False) w w'
theorem IsNat.keep {w w' : World} {v : Value} {n : Nat} (h : IsNat w v n) (hx : Ext (fun _ => False) w w') : IsNat w' v n := Rds.keep h hx
theorem Rint.keep {w w' : World} {v : Value} {z : Int} {L : Nat} (h : Rint w v z L) (hx : Ext (fun _ => False) w w') : Rint w' v z L := by
  obtain ⟨neg, mag, l, h1, h2, h3⟩ := h
  exact ⟨neg, mag, l, h1, h2.keep hx, h3⟩
theorem IsInt.keep {w w' : World} {v : Value} {z : Int} (h : IsInt w v z) (hx : Ext (fun _ => False) w w') : IsInt w' v z := by
  obtain ⟨mag, h1, h2⟩ := h
  exact ⟨mag, h1, h2.keep hx⟩
theorem IsInt.reads {w : World} {v : Value} {z : Int} {L : Nat} (h : IsInt w v z) (hl : (dg z.natAbs).length ≤ L) : Rint w v z L := by
  obtain ⟨mag, h1, h2⟩ := h
  refine ⟨_, mag, _, h1, h2, hl, ?_⟩
  rw [vl_dg]
  unfold sg
  split
  · rename_i h; have := of_decide_eq_true h; omega
  · rename_i h; have : ¬ z < 0 := fun h' => h (decide_eq_true h'); omega
theorem IsInt.mk {w : World} {mag : Value} {n : Nat} (neg : Bool) (h : IsNat w mag n) : IsInt w (.agg #[.bool (neg && decide (0 < n)), mag]) (sg neg n) :=
  ⟨mag, by rw [sg_neg], by rw [sg_natAbs]; exact h⟩
theorem IsNat.shape {w : World} {v : Value} {n : Nat} (h : IsNat w v n) : ∃ ao c, v = .slice ao (dg n).length c := by
  obtain ⟨ao, c, h, _⟩ := h.2
  exact ⟨ao, c, h⟩
set_option maxRecDepth 100000 in
set_option maxHeartbeats 2000000 in
theorem signed_any (w : World) (neg : Bool) (mag : Value) (n : Nat) (h : IsNat w mag n) (hl : (dg n).length ≤ 268435455) :
    Calls Tryz.prog 152 #[.bool neg, mag] w (IntPost w (sg neg n)) := by
  have HB := Lib.hid (fun W (hW : Ext (fun _ => False) w W) => bits_any W mag _ (h.keep hW) hl)
  rw [vl_dg] at HB
  have HI := Lib.hid (IsInt.mk neg h)
  obtain ⟨ao, c, rfl⟩ := h.shape
  clear h
  generalize (dg n).length = m at *
  go_enter Tryz.func152, Tryz.ntmps152
  cases neg
  · go_wp2
    refine bodyPost_ret (v := .agg #[.bool false, .slice ao m c]) (by simp [results, Tryz.results152, go_sem]) rfl ⟨_, rfl, ?_, ?_⟩
    · have := HI.out.keep ((Ext.refl _ w).alloc (.cells #[.bool false, .slice ao m c] 29))
      rwa [Bool.false_and] at this
    · exact (Ext.refl _ w).alloc _
  · go_wp2_with fail
    refine (HB.out _ ((Ext.refl _ w).alloc _)).mono ?_
    rintro r w' ⟨q, rfl, hw, hq⟩
    subst hw
    have hd : decide (0 < n) = decide ((0 : Int) < (q : Int)) := by
      by_cases h0 : n = 0
      · rw [h0, hq.2 h0]; rfl
      · have : ¬ q = 0 := fun h => h0 (hq.1 h)
        rw [decide_eq_true (by omega : 0 < n), decide_eq_true (by omega : (0 : Int) < (q : Int))]
    have HI' := Lib.hid HI.out
    rw [hd, Bool.true_and] at HI'
    clear hd hq HI HB
    go_wp2
    refine bodyPost_ret (v := .agg #[.bool (decide ((0 : Int) < (q : Int))), .slice ao m c]) (by simp [results, Tryz.results152, go_sem]) rfl ⟨_, rfl, ?_, ?_⟩
    · exact HI'.out.keep (by repeat (first | exact Ext.refl _ _ | apply Ext.alloc))
    · repeat (first | exact Ext.refl _ _ | apply Ext.alloc)
end Go.Proofs.YtbgienfcmdgaaaaGreat
