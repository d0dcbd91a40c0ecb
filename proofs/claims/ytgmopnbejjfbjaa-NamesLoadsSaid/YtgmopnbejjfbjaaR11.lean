/-
  The reference of package names: Publish. Conditions: IsRef45.
-/
import Derived.Test.YtgmopnbejjfbjaaR10
namespace Go.Proofs.Ytgmopnbejjfbjaa
open Go.RowKit Go.MapKept
open Go.ChangeMaps (setBlock)

theorem Try.infoEpoch : (Try.prog.info? 110).map (fun i => (i.zero, i.size, i.bytes)) = some (some (.agg #[.int .i64 0, .int .i64 0, .int .i64 0]), 3, 24) := by kernel_rfl
/-- a row as a source of append -/
theorem row_source {w : World} {e : TypeId} {size : Nat} {ao : Option Addr} {n cap : Nat} {xs : List Value} (h : w.ownsRow 0 e size (.slice ao n cap) n xs) : (ao = none → cap = 0) ∧ Lies w ao n xs ∧ ∀ ad, ao = some ad → ad.block < w.heap.size := by
  rcases h.2 with ⟨h1, h2⟩ | ⟨g, c, cur, h1, _, h3, _⟩
  · cases h1
    exact ⟨fun _ => rfl, .inl rfl, fun ad e => by cases e⟩
  · cases h1
    refine ⟨(fun e => by cases e), .inr ⟨_, rfl, fun j u hu => ?_⟩, fun ad e => by cases e; exact (Array.getElem?_eq_some_iff.1 h3).1⟩
    exact World.ownsRow.cells h (g := g) rfl j u hu
theorem eps_one (l : List Ep) : ∀ u ∈ eps l, u.oneCell' = true := fun u hu => by
  obtain ⟨x, _, hx⟩ := List.mem_flatMap.1 hu
  simp [Ep.cs] at hx
  rcases hx with rfl | rfl | rfl <;> rfl
def RPubPost (w : World) (m : List (ByteArray × List Ep) × Int × Int) (r : Ending) (w' : World) : Prop :=
  ∃ v', r = .returned (.tuple #[v', .int .i64 m.2.1, .int .i64 m.2.2]) ∧ IsRef45 w' v' m.1 ∧ Ext (fun _ => False) w w'

set_option maxRecDepth 100000 in
set_option maxHeartbeats 2000000 in
theorem rpublish_arg (w : World) (v : Value) (M : List (ByteArray × List Ep)) (hr : IsRef45 w v M) (n : ByteArray) (a t now : Int) (hns : n.size ≤ 9223372036854775807) (hb : (isNameB n && validB a t && readB now) = false) :
    Calls Try.prog 54 #[v, .string n, .int .i64 a, .int .i64 t, .int .i64 now] w (RPubPost w (M, 0, 1)) := by
  have hfin : RPubPost w (M, 0, 1) (.returned (.tuple #[v, .int .i64 0, .int .i64 1])) w := ⟨v, rfl, hr, Ext.refl _ _⟩
  have Hfin := Lib.hid hfin
  clear hfin hr
  by_cases h1 : (n.size : Int) < 1
  · clear hb
    go_enter Try.func54, Try.ntmps54
    go_wp2
    exact bodyPost_ret (v := .tuple #[v, .int .i64 0, .int .i64 1]) (by simp [results, Try.results54, go_sem]) rfl Hfin.out
  by_cases h2 : (31 : Int) < n.size
  · clear hb
    go_enter Try.func54, Try.ntmps54
    go_wp2
    exact bodyPost_ret (v := .tuple #[v, .int .i64 0, .int .i64 1]) (by simp [results, Try.results54, go_sem]) rfl Hfin.out
  by_cases h3 : a < 1
  · clear hb
    go_enter Try.func54, Try.ntmps54
    go_wp2
    exact bodyPost_ret (v := .tuple #[v, .int .i64 0, .int .i64 1]) (by simp [results, Try.results54, go_sem]) rfl Hfin.out
  by_cases h4 : 1099511627776 < a
  · clear hb
    go_enter Try.func54, Try.ntmps54
    go_wp2
    exact bodyPost_ret (v := .tuple #[v, .int .i64 0, .int .i64 1]) (by simp [results, Try.results54, go_sem]) rfl Hfin.out
  by_cases h5 : t < 1
  · clear hb
    go_enter Try.func54, Try.ntmps54
    go_wp2
    exact bodyPost_ret (v := .tuple #[v, .int .i64 0, .int .i64 1]) (by simp [results, Try.results54, go_sem]) rfl Hfin.out
  by_cases h6 : 65536 < t
  · clear hb
    go_enter Try.func54, Try.ntmps54
    go_wp2
    exact bodyPost_ret (v := .tuple #[v, .int .i64 0, .int .i64 1]) (by simp [results, Try.results54, go_sem]) rfl Hfin.out
  have h7 : readB now = false := by
    have e1 : isNameB n = true := by unfold isNameB; simp; omega
    have e2 : validB a t = true := by unfold validB; simp; omega
    simpa [e1, e2] using hb
  clear hb
  go_enter Try.func54, Try.ntmps54
  go_wp2_with (first | (go_at_call 41; refine (rreading_any _ _).mono ?_; rintro r w' ⟨rfl, hw⟩; obtain rfl := hw.symm; rw [h7]))
  exact bodyPost_ret (v := .tuple #[v, .int .i64 0, .int .i64 1]) (by simp [results, Try.results54, go_sem]) rfl Hfin.out
end Go.Proofs.Ytgmopnbejjfbjaa
