/-
  The reference of package store: what lies in memory (IsRows); Find, Get. Conditions: none beyond IsRows.
-/
import Derived.Test.YthipbmppmgkklaaC1
import Derived.Deep.LoopGhost
import Derived.Deep.CutBlock
import Derived.Deep.DeepCutAuto
import Derived.Deep.RegionHeld3
import Derived.Deep.AppendLies
namespace Go.Proofs.Ythipbmppmgkklaa
open Go.RowKit Go.MapKept
open Go.ChangeMaps (setBlock)

def cellsP (p : ByteArray × Int) : List Value := [.string p.1, .int .i64 p.2]
theorem cellsP_len : ∀ p, (cellsP p).length = 2 := fun _ => rfl
theorem cellsP_one : ∀ p, ∀ u ∈ cellsP p, u.oneCell' = true := fun p u hu => by
  simp [cellsP] at hu
  rcases hu with rfl | rfl <;> rfl
/-- the reference's rows: the keys in order, each one's value -/
def IsRows (w : World) (v : Value) (R : KM) : Prop := w.ownsRow 0 89 2 v R.length (R.flatMap cellsP)
theorem IsRows.keep {w w' : World} {v : Value} {R : KM} (h : IsRows w v R) (hx : Ext (fun _ => False) w w') : IsRows w' v R := ownsRow_keep h hx
def Rising (R : KM) : Prop := R.Pairwise (ltK leS)
def posN (R : KM) (n : ByteArray) : Nat := (kpre leS R n).length
def StayPost (w : World) (v : Value) (r : Ending) (w' : World) : Prop := r = .returned v ∧ Ext (fun _ => False) w w'
theorem posN_some {R : KM} (h : Rising R) {n : ByteArray} {v : Int} (hv : kget R n = some v) : R[posN R n]? = some (n, v) := by
  rcases krest_eq linS h n with ⟨h1, _⟩ | ⟨v', h1, h2, _⟩
  · rw [hv] at h1; cases h1
  · rw [hv] at h1; cases h1; exact h2
theorem posN_none {R : KM} (h : Rising R) {n : ByteArray} (hv : kget R n = none) : ∀ p, R[posN R n]? = some p → p.1 ≠ n := by
  rcases krest_eq linS h n with ⟨h1, _, h3⟩ | ⟨v', h1, _⟩
  · exact h3
  · rw [hv] at h1; cases h1
set_option maxRecDepth 100000 in
set_option maxHeartbeats 2000000 in
theorem find_any (w : World) (v : Value) (R : KM) (hr : IsRows w v R) (hg : Rising R) (hl : R.length ≤ 1000000) (n : ByteArray) :
    Calls Try.prog 66 #[v, .string n] w (StayPost w (.tuple #[.int .i64 (posN R n), .bool (kget R n).isSome])) := by
  obtain ⟨ao, cap, rfl⟩ := ownsRow_shape hr
  have hpos : ∀ j, (∀ i p, i < j → R[i]? = some p → leS n p.1 = false) → j ≤ R.length → (∀ p, R[j]? = some p → leS n p.1 = true) → posN R n = j := fun j h1 h2 h3 => kpre_step h1 h2 h3
  have hyes : ∀ v, kget R n = some v → R[posN R n]? = some (n, v) := fun v hv => posN_some hg hv
  have hno : kget R n = none → ∀ p, R[posN R n]? = some p → p.1 ≠ n := fun hv => posN_none hg hv
  have hc := hr
  unfold IsRows at hc
  have Hpos := Lib.hid hpos
  have Hyes := Lib.hid hyes
  have Hno := Lib.hid hno
  generalize hP : posN R n = P at *
  obtain ⟨N, hN⟩ : ∃ N, R.length = N := ⟨_, rfl⟩
  rw [hN] at hc hl ⊢
  generalize hO : kget R n = O at *
  have HSl := Lib.hid hN
  have Hc := Lib.hid hc
  have Hat : Hid (∀ g, ao = some ⟨g, 0, none⟩ → ∀ i p, R[i]? = some p → w.cell? ⟨g, i * 2, none⟩ = some (.string p.1)) := Lib.hid (fun g e i p hp => by subst e; exact row_at cellsP_len hc i hp 0 (by omega) rfl)
  clear hc hr hpos hyes hno hN hP hO hg
  go_enter Try.func66, Try.ntmps66
  go_wp2_with fail
  go_loopg [6] N (fun g v6 wr => wr = w ∧ ∃ j : Nat, j ≤ N ∧ g = N - j ∧ v6 = .int .i64 j ∧ ∀ i p, i < j → R[i]? = some p → leS n p.1 = false)
  case atStart => exact ⟨rfl, 0, Nat.zero_le _, rfl, rfl, fun i p h => by omega⟩
  case round =>
    obtain ⟨hwr, j, hj, rfl, rfl, hlow⟩ := hrel
    obtain rfl := hwr.symm
    have Hlow := Lib.hid hlow
    clear hlow
    by_cases hjN : j < N
    · obtain ⟨g, rfl, hg2⟩ := row_form Hc.out (by omega)
      obtain ⟨p, hp⟩ : ∃ p, R[j]? = some p := ⟨_, List.getElem?_eq_getElem (by rw [HSl.out]; exact hjN)⟩
      have hcell := Hat.out g rfl j p hp
      obtain ⟨k, a⟩ := p
      have Hp := Lib.hid hp
      simp only at hcell
      clear hp
      have hls := less_leS k n
      cases hk : leS n k with
      | false =>
        rw [hk] at hls
        have Hk := Lib.hid hk
        clear hk
        go_wp2_with fail
        go_roundg (N - (j + 1))
        case measure => omega
        case rel =>
          refine ⟨rfl, j + 1, by omega, rfl, by go_num, fun i p hi hp => ?_⟩
          by_cases e : i = j
          · subst e; rw [Hp.out] at hp; cases hp; exact Hk.out
          · exact Hlow.out i p (by omega) hp
      | true =>
        rw [hk] at hls
        have hP : P = j := Hpos.out j Hlow.out (by rw [HSl.out]; exact hj) (fun p hp => by rw [Hp.out] at hp; cases hp; exact hk)
        have hB : (k.toList == n.toList) = O.isSome := by
          cases hO : O with
          | some v =>
            have := Hyes.out v hO
            rw [hP, Hp.out] at this
            cases this; simp
          | none =>
            have := Hno.out hO (k, a) (by rw [hP]; exact Hp.out)
            exact bytes_ne this
        subst hP
        have HB := Lib.hid hB
        clear hB hk
        have j1 : decide ((P : Int) < (N : Int)) = true := by simp; omega
        go_wp2_with fail
        go_quiet (fail)
        go_wp2
        go_ret2
        refine ⟨?_, (Ext.refl _ w).drewN _⟩
        rw [← HB.out]
        rfl
    · have hP : P = j := Hpos.out j Hlow.out (by rw [HSl.out]; exact hj) (fun p hp => by have := (List.getElem?_eq_some_iff.1 hp).1; rw [HSl.out] at this; omega)
      have hO : O = none := by
        cases hO : O with
        | none => rfl
        | some v =>
          have := (List.getElem?_eq_some_iff.1 (Hyes.out v hO)).1
          rw [HSl.out, hP] at this; omega
      subst hP hO
      have j1 : decide ((P : Int) < (N : Int)) = false := by simp; omega
      go_wp2_with fail
      go_quiet (fail)
      go_wp2
      go_ret2
      exact ⟨rfl, (Ext.refl _ w).drewN _⟩
set_option maxRecDepth 100000 in
set_option maxHeartbeats 2000000 in
theorem rget_any (w : World) (v : Value) (R : KM) (hr : IsRows w v R) (hg : Rising R) (hl : R.length ≤ 1000000) (n : ByteArray) :
    Calls Try.prog 43 #[v, .string n] w (StayPost w (.tuple #[.int .i64 ((kget R n).getD 0), .bool (kget R n).isSome])) := by
  have hfind := fun (W : World) (hx : Ext (fun _ => False) w W) => find_any W v R (hr.keep hx) hg hl n
  obtain ⟨ao, cap, rfl⟩ := ownsRow_shape hr
  have hc := hr
  unfold IsRows at hc
  have hyes : ∀ s, kget R n = some s → R[posN R n]? = some (n, s) := fun s hs => posN_some hg hs
  obtain ⟨N, hN⟩ : ∃ N, R.length = N := ⟨_, rfl⟩
  rw [hN] at hfind hl hc ⊢
  generalize posN R n = P at *
  have Hfind := Lib.hid hfind
  have Hc := Lib.hid hc
  cases hk : kget R n with
  | none =>
    rw [hk] at Hfind
    clear hfind hyes hN hg hr hc hk
    go_enter Try.func43, Try.ntmps43
    go_wp2_with fail
    refine (Hfind.out _ (Ext.refl _ w)).mono ?_
    rintro r w3 ⟨rfl, hx3⟩
    have Hx3 := Lib.hid hx3
    clear hx3
    go_wp2
    go_ret2
    exact ⟨rfl, Hx3.out⟩
  | some s =>
    rw [hk] at Hfind
    have hp := hyes s hk
    obtain ⟨hP, _⟩ := List.getElem?_eq_some_iff.1 hp
    rw [hN] at hP
    obtain ⟨g, rfl, hlt⟩ := row_form hc (by omega)
    have e1 : w.cell? ⟨g, P * 2 + 1, none⟩ = some (.int .i64 s) := row_at cellsP_len hc P hp 1 (by omega) rfl
    have He := Lib.hid e1
    clear hfind hyes hN hg hr hc hk hp e1
    go_enter Try.func43, Try.ntmps43
    go_wp2_with fail
    refine (Hfind.out _ (Ext.refl _ w)).mono ?_
    rintro r w3 ⟨rfl, hx3⟩
    have e2 := (hx3.cell (p := ⟨g, P * 2 + 1, none⟩) hlt id).trans He.out
    have Hx3 := Lib.hid hx3
    have j0 : (0 : Int) ≤ (P : Int) := by omega
    have j1 : (P : Int) < (N : Int) := by omega
    clear hx3
    go_wp2
    go_ret2
    exact ⟨rfl, Hx3.out⟩
end Go.Proofs.Ythipbmppmgkklaa
