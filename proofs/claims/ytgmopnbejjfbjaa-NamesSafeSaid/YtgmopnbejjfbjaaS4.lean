/-
  Contracts of the clock and of mod. Conditions: as each says.
-/
import Derived.Test.YtgmopnbejjfbjaaS3
namespace Go.Proofs.Ytgmopnbejjfbjaa
open Go.RowKit Go.MapKept
open Go.ChangeMaps (setBlock)

def ClkPost (w : World) (r : Ending) (w' : World) : Prop :=
  ∃ b, r = .returned (ptr b) ∧ blk w' b = some (.cells #[.int .i64 0, .int .i64 0] 98 (0, 0)) ∧ Ext (fun _ => False) w w' ∧ w.heap.size ≤ b
theorem clocknew_any (w : World) : Calls Try.prog 16 #[] w (ClkPost w) := by
  go_enter Try.func16, Try.ntmps16
  go_wp2
  go_ret
  exact ⟨_, rfl, blk_alloc_at _ _, (Ext.refl _ _).alloc _, Nat.le_refl _⟩
theorem now_any (b : Nat) (w : World) (u t : Int) (hb : blk w b = some (.cells #[.int .i64 u, .int .i64 t] 98 (0, 0))) (h0 : 0 ≤ u) (h1 : u < 9223372036854775808) :
    Calls Try.prog 20 #[ptr b] w fun e w' => e = .returned (.int .i64 (u / 64)) ∧ w' = w := by
  have c0 := cell_of_cells hb 0
  simp at c0
  have hq : u.tdiv 64 = u / 64 := Int.tdiv_eq_ediv_of_nonneg h0
  have hw := IntWalk.i64_in (u / 64) (by omega)
  unfold ptr
  clear hb
  go_enter Try.func20, Try.ntmps20
  go_wp2
  go_ret
  exact ⟨by simp [hq], rfl⟩
theorem mod_any (n m : Int) (w : World) (h0 : 1 ≤ m) (h1 : m ≤ 1000) :
    Calls Try.prog 18 #[.int .i64 n, .int .i64 m] w fun e w' => e = .returned (.int .i64 (n % m)) ∧ w' = w := by
  have hm0 : m ≠ 0 := by omega
  have e1 := Int.emod_nonneg n hm0
  have e2 := Int.emod_lt_of_pos n (show 0 < m by omega)
  have e3 : n.tmod m = n % m ∨ n.tmod m = n % m - m := by
    rw [Int.tmod_eq_emod]
    split
    · left; omega
    · right; omega
  have hw := IntWalk.i64_in (n.tmod m) (by omega)
  have hw2 := IntWalk.i64_in (n.tmod m + m) (by omega)
  have hr : (n.tmod m + m).tmod m = n % m := by
    rw [Int.tmod_eq_emod_of_nonneg (by omega), Int.add_emod_right]
    rcases e3 with e | e
    · rw [e, Int.emod_emod]
    · rw [e, Int.sub_emod_right, Int.emod_emod]
  have e4 : 0 ≤ n.tmod m + m := by omega
  have hr' : (n.tmod m + m) % m = n % m := by rw [← hr]; exact (Int.tmod_eq_emod_of_nonneg e4).symm
  have hw3 := IntWalk.i64_in ((n.tmod m + m).tmod m) (by rw [hr]; have := Int.emod_nonneg n hm0; have := Int.emod_lt_of_pos n (show 0 < m by omega); omega)
  have Hr := Lib.hid hr'
  have Hr2 := Lib.hid hr
  clear hr hr' e3
  go_enter Try.func18, Try.ntmps18
  go_wp2
  go_ret
  exact ⟨ret_int (by first | exact Hr.out | exact Hr2.out), rfl⟩
def AdvPost (w : World) (b : Nat) (u t : Int) (r : Ending) (w' : World) : Prop :=
  r = .returned (.int .i64 0) ∧ blk w' b = some (.cells #[.int .i64 u, .int .i64 t] 98 (0, 0)) ∧ Ext (fun k => k = b) w w'
theorem advance_any (b : Nat) (w : World) (u t D r : Int) (hb : blk w b = some (.cells #[.int .i64 u, .int .i64 t] 98 (0, 0))) (h0 : 0 ≤ u) (h1 : u ≤ 1000000000000) (t0 : 0 ≤ t) (t1 : t ≤ 1000000000) (d0 : 0 ≤ D) (d1 : D ≤ 400) (r0 : 63 ≤ r) (r1 : r ≤ 65) :
    Calls Try.prog 17 #[ptr b, .int .i64 D, .int .i64 r] w (AdvPost w b (u + D * r) (t + D)) := by
  have c0 := cell_of_cells hb 0
  have c1 := cell_of_cells hb 1
  simp at c0 c1
  have hf0 := free_of_cells hb 0
  have hf1 := free_of_cells hb 1
  have hm0 : 0 ≤ D * r := Int.mul_nonneg d0 (by omega)
  have hm1 : D * r ≤ 400 * 65 := Int.mul_le_mul d1 r1 (by omega) (by omega)
  have hw := IntWalk.i64_in (D * r) (by omega)
  have Hb := Lib.hid hb
  have hlt := blk_lt hb
  unfold ptr
  clear hb
  go_enter Try.func17, Try.ntmps17
  go_wp2
  go_ret
  have hy : Ext (fun k => k = b) w ((w.setCell ⟨b, 0, none⟩ (.int .i64 (u + D * r))).setCell ⟨b, 1, none⟩ (.int .i64 (t + D))) := by
    refine Ext.setCell (Ext.setCell (Ext.refl _ _) (p := ⟨b, 0, none⟩) _ ?_) (p := ⟨b, 1, none⟩) _ ?_ <;> exact fun _ => rfl
  have hz := blk_setCell_same (blk_setCell_same Hb.out 0 (.int .i64 (u + D * r))) 1 (.int .i64 (t + D))
  exact ⟨rfl, by simpa using hz, hy⟩
end Go.Proofs.Ytgmopnbejjfbjaa
