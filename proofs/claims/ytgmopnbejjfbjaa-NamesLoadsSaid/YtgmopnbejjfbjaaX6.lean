/-
  isName, valid, reading and clock.Margin return what their Lean functions say. Conditions: the lengths and ticks are ints that do not overflow.
-/
import Derived.Test.YtgmopnbejjfbjaaX5
import Derived.Deep.RegionHeld3
namespace Go.Proofs.Ytgmopnbejjfbjaa
open Go.RowKit Go.MapKept
open Go.ChangeMaps (setBlock)

structure Ep where
  a : Int
  t : Int
  g : Int
def Ep.cs (y : Ep) : List Value := [.int .i64 y.a, .int .i64 y.t, .int .i64 y.g]
def eps (l : List Ep) : List Value := l.flatMap Ep.cs
theorem eps_length (l : List Ep) : (eps l).length = l.length * 3 := by
  induction l with
  | nil => rfl
  | cons y r ih => simp only [eps, List.flatMap_cons, List.length_append] at *; rw [ih]; simp [Ep.cs]; omega
theorem eps_get (l : List Ep) (i : Nat) (h : i < l.length) (j : Nat) (hj : j < 3) : (eps l)[i * 3 + j]? = (l[i]).cs[j]? := by
  induction l generalizing i with
  | nil => simp at h
  | cons y r ih =>
    have hy : y.cs.length = 3 := rfl
    cases i with
    | zero => simp only [eps, List.flatMap_cons, Nat.zero_mul, Nat.zero_add]; rw [List.getElem?_append_left (by omega)]; rfl
    | succ i =>
      simp only [eps, List.flatMap_cons]
      rw [List.getElem?_append_right (by omega), show (i + 1) * 3 + j - y.cs.length = i * 3 + j by omega]
      exact ih i (by simpa using h)
theorem eps_append (a b : List Ep) : eps (a ++ b) = eps a ++ eps b := by simp [eps]

def isNameB (n : ByteArray) : Bool := decide (1 ≤ n.size) && decide (n.size ≤ 31)
def validB (a t : Int) : Bool := decide (1 ≤ a) && decide (a ≤ 1099511627776) && decide (1 ≤ t) && decide (t ≤ 65536)
def readB (n : Int) : Bool := decide (0 ≤ n) && decide (n ≤ 1099511627776)

theorem isName_any (n : ByteArray) (w : World) (hs : n.size ≤ 9223372036854775807) : Calls Try.prog 35 #[.string n] w fun e w' => e = .returned (.bool (isNameB n)) ∧ w' = w := by
  by_cases h1 : 1 ≤ n.size
  · by_cases h2 : n.size ≤ 31
    · have hr : isNameB n = true := by simp [isNameB, h1, h2]
      rw [hr]; clear hr
      go_enter Try.func35, Try.ntmps35
      go_wp2
      go_ret
      exact ⟨ret_bool (by first | rfl | (simp; omega)), rfl⟩
    · have hr : isNameB n = false := by simp [isNameB, h1, h2]
      rw [hr]; clear hr
      have h3 : (31 : Int) < n.size := by omega
      go_enter Try.func35, Try.ntmps35
      go_wp2
      go_ret
      exact ⟨ret_bool (by first | rfl | (simp; omega)), rfl⟩
  · have hr : isNameB n = false := by simp [isNameB, h1]
    rw [hr]; clear hr
    go_enter Try.func35, Try.ntmps35
    go_wp2
    go_ret
    exact ⟨ret_bool (by first | rfl | (simp; omega)), rfl⟩

theorem reading_any (n : Int) (w : World) : Calls Try.prog 37 #[.int .i64 n] w fun e w' => e = .returned (.bool (readB n)) ∧ w' = w := by
  by_cases h1 : 0 ≤ n
  · by_cases h2 : n ≤ 1099511627776
    · have hr : readB n = true := by simp [readB, h1, h2]
      rw [hr]; clear hr
      go_enter Try.func37, Try.ntmps37
      go_wp2
      go_ret
      exact ⟨rfl, rfl⟩
    · have hr : readB n = false := by simp [readB, h2]
      rw [hr]; clear hr
      go_enter Try.func37, Try.ntmps37
      go_wp2
      go_ret
      exact ⟨rfl, rfl⟩
  · have hr : readB n = false := by simp [readB, h1]
    rw [hr]; clear hr
    go_enter Try.func37, Try.ntmps37
    go_wp2
    go_ret
    exact ⟨rfl, rfl⟩

def ValPost (w : World) (b : Bool) (r : Ending) (w' : World) : Prop := r = .returned (.bool b) ∧ Ext (fun _ => False) w w'
theorem valid_any (a t g : Int) (w : World) : Calls Try.prog 36 #[.agg #[.int .i64 a, .int .i64 t, .int .i64 g]] w (ValPost w (validB a t)) := by
  by_cases h1 : 1 ≤ a
  · by_cases h2 : a ≤ 1099511627776
    · by_cases h3 : 1 ≤ t
      · by_cases h4 : t ≤ 65536
        · have hr : validB a t = true := by simp [validB, h1, h2, h3, h4]
          rw [hr]; clear hr
          go_enter Try.func36, Try.ntmps36
          go_wp2
          go_ret
          exact ⟨rfl, (Ext.refl _ _).alloc _⟩
        · have hr : validB a t = false := by simp [validB, h1, h2, h3, h4]
          rw [hr]; clear hr
          go_enter Try.func36, Try.ntmps36
          go_wp2
          go_ret
          exact ⟨rfl, (Ext.refl _ _).alloc _⟩
      · have hr : validB a t = false := by simp [validB, h1, h2, h3]
        rw [hr]; clear hr
        go_enter Try.func36, Try.ntmps36
        go_wp2
        go_ret
        exact ⟨rfl, (Ext.refl _ _).alloc _⟩
    · have hr : validB a t = false := by simp [validB, h1, h2]
      rw [hr]; clear hr
      go_enter Try.func36, Try.ntmps36
      go_wp2
      go_ret
      exact ⟨rfl, (Ext.refl _ _).alloc _⟩
  · have hr : validB a t = false := by simp [validB, h1]
    rw [hr]; clear hr
    go_enter Try.func36, Try.ntmps36
    go_wp2
    go_ret
    exact ⟨rfl, (Ext.refl _ _).alloc _⟩

def marginI (t : Int) : Int := max t 0 + (max t 0) / 16 + 2
theorem margin_any (t : Int) (w : World) (h : t ≤ 4611686018427387904) (h0 : -9223372036854775808 ≤ t) : Calls Try.prog 27 #[.int .i64 t] w fun e w' => e = .returned (.int .i64 (marginI t)) ∧ w' = w := by
  by_cases h1 : 0 ≤ t
  · have hr : marginI t = t + t / 16 + 2 := by unfold marginI; omega
    have hb : t / 16 ≤ t := by omega
    have hb0 : 0 ≤ t / 16 := by omega
    rw [hr]; clear hr
    go_enter Try.func27, Try.ntmps27
    go_wp2
    go_ret
    exact ⟨rfl, rfl⟩
  · have hr : marginI t = 2 := by unfold marginI; omega
    rw [hr]; clear hr
    go_enter Try.func27, Try.ntmps27
    go_wp2
    go_ret
    exact ⟨rfl, rfl⟩
end Go.Proofs.Ytgmopnbejjfbjaa
