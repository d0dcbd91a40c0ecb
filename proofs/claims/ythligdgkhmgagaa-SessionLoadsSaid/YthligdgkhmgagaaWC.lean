/-
  Package wire: AppendInt, AppendText. Conditions: the slice is the caller's own; its length bounded.
-/
import Derived.Test.YthligdgkhmgagaaWA
import Derived.Laws.Bits64
namespace Go.Proofs.Ythligdgkhmgagaa
open Go.RowKit Go.MapKept
open Go.ChangeMaps (setBlock)

def zz (n : Int) : Nat := if 0 ≤ n then 2 * n.toNat else 2 * (-n).toNat - 1
def encInt (n : Int) : List UInt8 := encNum (zz n)
theorem xor_ones (x : Nat) (h : x < 18446744073709551616) : x ^^^ 18446744073709551615 = 18446744073709551615 - x := by
  have e : 18446744073709551615 - x = 2 ^ 64 - (x + 1) := by omega
  rw [e]
  apply Nat.eq_of_testBit_eq
  intro i
  rw [Nat.testBit_two_pow_sub_succ (by omega), Nat.testBit_xor, show (18446744073709551615 : Nat) = 2 ^ 64 - 1 from rfl, Nat.testBit_two_pow_sub_one]
  by_cases hi : i < 64
  · simp [hi]
  · have : x.testBit i = false := Nat.testBit_lt_two_pow (Nat.lt_of_lt_of_le (show x < 2 ^ 64 from h) (Nat.pow_le_pow_right (by decide) (by omega)))
    simp [hi, this]
theorem zz_le (n : Int) (h1 : -9223372036854775808 ≤ n) (h2 : n ≤ 9223372036854775807) : zz n ≤ 18446744073709551615 := by unfold zz; split <;> omega
theorem wrapU (x : Int) : IntKind.u64.wrap x = x % 18446744073709551616 := by simp [IntKind.wrap, IntKind.bits, IntKind.signed]
theorem zz_bits (n : Int) (h1 : -9223372036854775808 ≤ n) (h2 : n ≤ 9223372036854775807) :
    bits BinOp.xor IntKind.u64 (IntKind.u64.wrap (IntKind.u64.wrap n * 2)) (IntKind.u64.wrap (n / 9223372036854775808)) = (zz n : Nat) := by
  simp only [wrapU]
  by_cases h : 0 ≤ n
  · rw [show n % 18446744073709551616 * 2 % 18446744073709551616 = ((2 * n.toNat : Nat) : Int) by omega, show n / 9223372036854775808 % 18446744073709551616 = ((0 : Nat) : Int) by omega, bits_xor_u64_nat _ _ (by omega) (by omega)]
    simp [zz, h]
  · rw [show n % 18446744073709551616 * 2 % 18446744073709551616 = ((18446744073709551616 - 2 * (-n).toNat : Nat) : Int) by omega, show n / 9223372036854775808 % 18446744073709551616 = ((18446744073709551615 : Nat) : Int) by omega, bits_xor_u64_nat _ _ (by omega) (by omega), xor_ones _ (by omega)]
    simp only [zz, if_neg h]
    omega
set_option maxRecDepth 100000 in
set_option maxHeartbeats 1000000 in
theorem appendInt_any (w : World) (v : Value) (l : List UInt8) (n : Int) (hb : IsBytes w v l) (h1 : -9223372036854775808 ≤ n) (h2 : n ≤ 9223372036854775807) (hl : l.length ≤ 1073741824) :
    Calls Try.prog 48 #[v, .int .i64 n] w (AppPost w v (l ++ encInt n)) := by
  obtain ⟨ao, cap, rfl⟩ := hb.shape
  have Hb := Lib.hid hb
  clear hb
  go_enter Try.func48, Try.ntmps48
  go_wp2_with fail
  rw [zz_bits n h1 h2]
  refine (appendNumber_any _ _ _ _ Hb.out (zz_le n h1 h2) hl).mono ?_
  rintro r w' ⟨v', rfl, hb', hx, ha⟩
  have HP : Hid (AppPost w (Value.slice ao l.length cap) (l ++ encInt n) (.returned v') w') := Lib.hid ⟨v', rfl, hb', hx, ha⟩
  clear hb' hx ha
  go_wp2
  go_ret
  exact HP.out
theorem strCells_bv (s : ByteArray) : Lib.strCells s = s.data.toList.map bv := rfl
theorem run_append_string (w : World) (g cap : Nat) (l : List UInt8) (hb : IsBytes w (.slice (some ⟨g, 0, none⟩) l.length cap) l) (s : ByteArray) (hl : l.length + s.size ≤ 140737488355328) (ty : TypeId) :
    ∃ g' cap' w', (Builtin.append_ #[80, 9] ty #[.slice (some ⟨g, 0, none⟩) l.length cap, .string s]).run Try.prog w = .ok (.slice (some ⟨g', 0, none⟩) (l.length + s.size) cap') w' ∧
      IsBytes w' (.slice (some ⟨g', 0, none⟩) (l.length + s.size) cap') (l ++ s.data.toList) ∧ Ext (fun b => g = b) w w' ∧ (g' = g ∨ g' = w.heap.size) := by
  obtain ⟨i, hi, hz0, hz1, hz2⟩ := info_parts Try.infoU8
  have hown : w.ownsRow 0 5 1 (.slice (some ⟨g, 0, none⟩) l.length cap) l.length (l.map bv) := hb
  obtain ⟨v', w', hr, h2, h3, _⟩ := Lib.run_append_own_string (P := Try.prog) w 0 80 9 ty 5 i Try.underlying80 Try.underlying9 hi hz0 hz1 hz2 _ _ _ hown s (by simp only [maxLen]; omega) hl (Nat.zero_le _)
  have hx : Ext (fun b => g = b) w w' := (Ext.refl _ w).grown h3 (fun y hy _ => Option.some.inj (show some g = some y from hy))
  have h2' : IsBytes w' v' (l ++ s.data.toList) := by
    unfold IsBytes
    rw [List.map_append, List.length_append, ← strCells_bv]
    have e : s.data.toList.length = s.size := rfl
    rw [e]; exact h2
  rcases hown.2 with ⟨h, _⟩ | ⟨g1, cap1, cur, h, _, hg, hnc, hcm, hcs, htake⟩
  · cases h
  · cases h
    by_cases hroom : l.length + s.size ≤ cap
    · have hr2 := Lib.run_append_room_string (P := Try.prog) w 80 9 ty 5 i Try.underlying80 Try.underlying9 hi hz1 g l.length cap cur hg s hroom (by omega)
      rw [hr] at hr2
      cases hr2
      exact ⟨g, cap, _, hr, h2', hx, .inl rfl⟩
    · have hr2 := Lib.run_append_grow_string (P := Try.prog) w 80 9 ty 5 i (.int .u8 0) Try.underlying80 Try.underlying9 hi hz0 ⟨g, 0, none⟩ l.length cap (l.map bv) (by rw [hz1]; simp) (World.ownsRow.cells hown (g := g) rfl) s (by omega) (by omega) (by rw [hz2]; exact growslice_fits (by omega) (by omega))
      rw [hr] at hr2
      cases hr2
      exact ⟨_, _, _, hr, h2', hx, .inr rfl⟩
theorem wpList_append_string {w : World} {ops : Array Oper} {rest : List Oper} {o : Oper} {a : Act} {Q : Exit → Act → World → Prop} (hgd : o.guard = none) (sl x : Operand)
    (ho : o.op = .call { callee := .builtin .append, args := #[sl, x], argTypes := #[80, 9] })
    (g cap N : Nat) (l : List UInt8) (hN : l.length = N) (hs : a.eval sl = .slice (some ⟨g, 0, none⟩) N cap) (hb : IsBytes w (.slice (some ⟨g, 0, none⟩) N cap) l) (s : ByteArray) (hx : a.eval x = .string s) (hl : N + s.size ≤ 140737488355328)
    (h : ∀ g' cap' w', IsBytes w' (.slice (some ⟨g', 0, none⟩) (N + s.size) cap') (l ++ s.data.toList) → Ext (fun b => g = b) w w' → (g' = g ∨ g' = w.heap.size) → wpList Try.prog ops Q rest (a.put o.dst (.slice (some ⟨g', 0, none⟩) (N + s.size) cap')) w') : wpList Try.prog ops Q (o :: rest) a w := by
  subst hN
  refine wpList_plain hgd fun K hK => ?_
  obtain ⟨g', cap', w', hr, h2, h3, h4⟩ := run_append_string w g cap l hb s hl o.type
  unfold Oper.wp execOp
  simp only [ho, resolve, invoke, builtin, Sem.run_bind, Sem.run_pure, Result.andThen_ok, List.map_toArray, List.map_cons, List.map_nil, hs, hx, hr]
  exact hK _ _ (h g' cap' w' h2 h3 h4)
set_option maxRecDepth 100000 in
set_option maxHeartbeats 1000000 in
theorem appendText_any (w : World) (v : Value) (l : List UInt8) (s : ByteArray) (hb : IsBytes w v l) (hs : s.size ≤ 1073741824) (hl : l.length ≤ 1073741800) :
    Calls Try.prog 44 #[v, .string s] w (AppPost w v (l ++ (encNum s.size ++ s.data.toList))) := by
  obtain ⟨ao, cap, rfl⟩ := hb.shape
  have Hb := Lib.hid hb
  clear hb
  go_enter Try.func44, Try.ntmps44
  go_wp2_with fail
  refine (appendNumber_any _ _ _ _ Hb.out (by omega) (by omega)).mono ?_
  rintro r w' ⟨v', rfl, hb', hx, ha⟩
  obtain ⟨g, c, rfl⟩ : ∃ g c, v' = .slice (some ⟨g, 0, none⟩) (l ++ encNum s.size).length c := by
    rcases hb'.2 with ⟨_, h2⟩ | ⟨g, c, cur, h1, _⟩
    · simp [encNum] at h2
    · exact ⟨_, _, h1⟩
  have hle : (l ++ encNum s.size).length ≤ 1073741824 := by
    have := nbytes_le s.size (by omega)
    simp [encNum, beB_length]; omega
  obtain ⟨N, hN⟩ : ∃ N, (l ++ encNum s.size).length = N := ⟨_, rfl⟩
  rw [hN] at hb' hle ha ⊢
  have HN := Lib.hid hN
  have Hb' := Lib.hid hb'
  have Hx' := Lib.hid hx
  have Ha' := Lib.hid ha
  clear hN hb' hx ha
  go_wp2_with (at_builtin; refine wpList_append_string rfl _ _ rfl g c N _ HN.out rfl Hb'.out s rfl (by omega) ?_; intro g' cap' w4 hb4 hx4 hg4)
  have hx := Hx'.out
  have ha := Ha'.out
  have hB : IsBytes w4 (.slice (some ⟨g', 0, none⟩) (N + s.size) cap') (l ++ (encNum s.size ++ s.data.toList)) := by rw [← List.append_assoc]; exact hb4
  have hX : Ext (fun b => (Value.slice ao l.length cap).ownBlock = some b) w w4 := hx.trans' hx4 (fun k hk e => by subst e; exact (ha g rfl).elim id (fun h => absurd hk (by omega)))
  have hA : (Value.slice ao l.length cap).ownBlock = some g' ∨ w.heap.size ≤ g' := by
    have := hx.size
    rcases hg4 with rfl | rfl
    · exact ha _ rfl
    · exact .inr this
  have HB := Lib.hid hB
  have HX := Lib.hid hX
  have HA := Lib.hid hA
  clear hx ha hb4 hx4 hg4 hB hX hA
  go_ret
  refine ⟨_, rfl, HB.out, HX.out, fun y hy => ?_⟩
  have e : g' = y := Option.some.inj hy
  subst e
  exact HA.out
/-- 'string(b)' -/
theorem run_bytes_string {w : World} {v : Value} {l : List UInt8} (h : IsBytes w v l) : (convert 80 9 v).run Try.prog w = .ok (.string ⟨l.toArray⟩) w := by
  have hown : w.ownsRow 0 5 1 v l.length (l.map bv) := h
  rcases hown.2 with ⟨h1, h2⟩ | ⟨g, cap, cur, h1, _⟩
  · have : l = [] := List.eq_nil_of_length_eq_zero h2
    subst this h1
    exact run_convert_bytes_nil w 80 5 Try.underlying80 Try.underlying5 0 0 9 Try.underlying9
  · subst h1
    have hc := World.ownsRow.cells hown (g := g) rfl
    exact run_convert_bytes_back w 80 9 5 ⟨g, 0, none⟩ cap l Try.underlying80 Try.underlying5 Try.underlying9 (fun j hj => hc j _ (by rw [List.getElem?_map, List.getElem?_eq_getElem hj]; rfl))
end Go.Proofs.Ythligdgkhmgagaa
