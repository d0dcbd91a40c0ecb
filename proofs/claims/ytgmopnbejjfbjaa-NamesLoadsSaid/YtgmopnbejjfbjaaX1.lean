/-
  cmp.Compare and cmp.Or on ints return what cmpI and orI say. Conditions: for Or, two arguments.
-/
import Derived.Test.YtgmopnbejjfbjaaRows
import Derived.Test.YtgmopnbejjfbjaaBase
import Derived.Deep.RegionHeld3
import Derived.Deep.RegionWith
namespace Go.Proofs.Ytgmopnbejjfbjaa
open Go.RowKit Go.MapKept
open Go.ChangeMaps (setBlock)

def cmpI (a b : Int) : Int := if a < b then -1 else if b < a then 1 else 0

theorem compare_any (a b : Int) (w : World) :
    Calls Try.prog 34 #[.int .i64 a, .int .i64 b] w fun e w' => e = .returned (.int .i64 (cmpI a b)) ∧ w' = w := by
  have h0 : (a != a) = false := by simp
  have h1 : (b != b) = false := by simp
  rcases Int.lt_trichotomy a b with h | h | h
  · have hr : cmpI a b = -1 := by simp [cmpI, h]
    go_enter Try.func34, Try.ntmps34
    go_wp2
    go_ret
    exact ⟨by rw [hr]; rfl, rfl⟩
  · subst h
    go_enter Try.func34, Try.ntmps34
    go_wp2
    go_ret
    exact ⟨by simp [cmpI], rfl⟩
  · have hr : cmpI a b = 1 := by simp [cmpI, h]; omega
    go_enter Try.func34, Try.ntmps34
    go_wp2
    go_ret
    exact ⟨by rw [hr]; rfl, rfl⟩

def orI (a b : Int) : Int := if a = 0 then b else a

theorem or_any (a b : Int) (g : Nat) (w : World) (h0 : w.cell? ⟨g, 0, none⟩ = some (.int .i64 a)) (h1 : w.cell? ⟨g, 1, none⟩ = some (.int .i64 b)) :
    Calls Try.prog 33 #[.slice (some ⟨g, 0, none⟩) 2 2] w fun e w' => e = .returned (.int .i64 (orI a b)) ∧ w' = w := by
  by_cases ha : a = 0
  · subst ha
    by_cases hb : b = 0
    · subst hb
      go_enter Try.func33, Try.ntmps33
      go_wp2
      refine wp_loop_rounds 3 ?_
      rw [rounds_succ]; go_wp2
      rw [rounds_succ]; go_wp2
      rw [rounds_succ]; go_wp2
      go_ret
      exact ⟨rfl, rfl⟩
    · have t2 : (b != 0) = true := by simp [hb]
      have hr : orI 0 b = b := by simp [orI]
      clear hb
      go_enter Try.func33, Try.ntmps33
      go_wp2
      refine wp_loop_rounds 2 ?_
      rw [rounds_succ]; go_wp2
      rw [rounds_succ]; go_wp2
      go_ret
      exact ⟨by rw [hr]; rfl, rfl⟩
  · have t2 : (a != 0) = true := by simp [ha]
    have hr : orI a b = a := by simp [orI, ha]
    clear ha
    go_enter Try.func33, Try.ntmps33
    go_wp2
    refine wp_loop_rounds 1 ?_
    rw [rounds_succ]; go_wp2
    go_ret
    exact ⟨by rw [hr]; rfl, rfl⟩

end Go.Proofs.Ytgmopnbejjfbjaa
