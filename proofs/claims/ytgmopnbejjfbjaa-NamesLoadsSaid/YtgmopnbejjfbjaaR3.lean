/-
  The reference of package names: what lies in memory (IsRef45); find. Conditions: none beyond IsRef45.
-/
import Derived.Test.YtgmopnbejjfbjaaR2
import Derived.Deep.LoopGhost
import Derived.Deep.CutBlock
import Derived.Deep.DeepCutAuto
import Derived.Deep.RegionHeld3
import Derived.Deep.AppendLies
namespace Go.Proofs.Ytgmopnbejjfbjaa
open Go.RowKit Go.MapKept
open Go.ChangeMaps (setBlock)

def cellsN (p : ByteArray × Slot) : List Value := [.string p.1, p.2.v]
theorem cellsN_len : ∀ p, (cellsN p).length = 2 := fun _ => rfl
/-- the reference's rows: the names in order, each one's epochs in a row -/
def IsRows45 (w : World) (v : Value) (R : List (ByteArray × Slot)) : Prop :=
  w.ownsRow 0 122 2 v R.length (R.flatMap cellsN) ∧ ∀ p ∈ R, w.ownsRow 0 110 3 p.2.v p.2.l.length (eps p.2.l)
theorem IsRows45.keep {w w' : World} {v : Value} {R : List (ByteArray × Slot)} (h : IsRows45 w v R) (hx : Ext (fun _ => False) w w') : IsRows45 w' v R :=
  ⟨ownsRow_keep h.1 hx, fun p hp => ownsRow_keep (h.2 p hp) hx⟩
def Rising (R : List (ByteArray × Slot)) : Prop := R.Pairwise (ltK leS)
def posN (R : List (ByteArray × Slot)) (n : ByteArray) : Nat := (kpre leS R n).length
def StayPost (w : World) (v : Value) (r : Ending) (w' : World) : Prop := r = .returned v ∧ Ext (fun _ => False) w w'
theorem rising_get {R : List (ByteArray × Slot)} (h : Rising R) {i : Nat} {p : ByteArray × Slot} (hp : R[i]? = some p) : kget R p.1 = some p.2 := by
  refine kget_of_mem ?_ (List.mem_of_getElem? hp)
  refine List.pairwise_map.2 (h.imp (fun {a b} hab e => ?_))
  unfold ltK at hab
  rw [e] at hab
  exact linS.lt_irrefl _ hab
theorem posN_some {R : List (ByteArray × Slot)} (h : Rising R) {n : ByteArray} {v : Slot} (hv : kget R n = some v) : R[posN R n]? = some (n, v) := by
  rcases krest_eq linS h n with ⟨h1, _⟩ | ⟨v', h1, h2, _⟩
  · rw [hv] at h1; cases h1
  · rw [hv] at h1; cases h1; exact h2
theorem posN_none {R : List (ByteArray × Slot)} (h : Rising R) {n : ByteArray} (hv : kget R n = none) : ∀ p, R[posN R n]? = some p → p.1 ≠ n := by
  rcases krest_eq linS h n with ⟨h1, _, h3⟩ | ⟨v', h1, _⟩
  · exact h3
  · rw [hv] at h1; cases h1
set_option maxRecDepth 100000 in
set_option maxHeartbeats 2000000 in
theorem find_any (w : World) (v : Value) (R : List (ByteArray × Slot)) (hr : IsRows45 w v R) (hg : Rising R) (hl : R.length ≤ 1000000) (n : ByteArray) :
    Calls Try.prog 64 #[v, .string n] w (StayPost w (.tuple #[.int .i64 (posN R n), .bool (kget R n).isSome])) := by
  obtain ⟨ao, cap, rfl⟩ := ownsRow_shape hr.1
  have hpos : ∀ j, (∀ i p, i < j → R[i]? = some p → leS n p.1 = false) → j ≤ R.length → (∀ p, R[j]? = some p → leS n p.1 = true) → posN R n = j := fun j h1 h2 h3 => kpre_step h1 h2 h3
  have hyes : ∀ v, kget R n = some v → R[posN R n]? = some (n, v) := fun v hv => posN_some hg hv
  have hno : kget R n = none → ∀ p, R[posN R n]? = some p → p.1 ≠ n := fun hv => posN_none hg hv
  have hc := hr.1
  have Hpos := Lib.hid hpos
  have Hyes := Lib.hid hyes
  have Hno := Lib.hid hno
  generalize hP : posN R n = P at *
  obtain ⟨N, hN⟩ : ∃ N, R.length = N := ⟨_, rfl⟩
  rw [hN] at hc hl ⊢
  generalize hO : kget R n = O at *
  have HSl := Lib.hid hN
  have Hc := Lib.hid hc
  have Hat : Hid (∀ g, ao = some ⟨g, 0, none⟩ → ∀ i p, R[i]? = some p → w.cell? ⟨g, i * 2, none⟩ = some (.string p.1)) := Lib.hid (fun g e i p hp => by subst e; exact row_at cellsN_len hc i hp 0 (by omega) rfl)
  clear hc hr hpos hyes hno hN hP hO hg
  go_enter Try.func64, Try.ntmps64
  go_wp2_with fail
  go_loopg [6] N (fun g v6 wr => wr = w ∧ ∃ j : Nat, j ≤ N ∧ g = N - j ∧ v6 = .int .i64 j ∧ ∀ i p, i < j → R[i]? = some p → leS n p.1 = false)
  case atStart => exact ⟨rfl, 0, Nat.zero_le _, rfl, rfl, fun i p h => by omega⟩
  case round =>
    obtain ⟨hwr, j, hj, rfl, rfl, hlow⟩ := hrel
    obtain rfl := hwr.symm
    have Hlow := Lib.hid hlow
    clear hlow
    by_cases hjN : j < N
    · obtain ⟨g, rfl, hg2⟩ := row_form Hc.out (by omega)
      obtain ⟨p, hp⟩ : ∃ p, R[j]? = some p := ⟨_, List.getElem?_eq_getElem (by rw [HSl.out]; exact hjN)⟩
      have hcell := Hat.out g rfl j p hp
      obtain ⟨k, a⟩ := p
      have Hp := Lib.hid hp
      simp only at hcell
      clear hp
      have hls := less_leS k n
      cases hk : leS n k with
      | false =>
        rw [hk] at hls
        have Hk := Lib.hid hk
        clear hk
        go_wp2_with fail
        go_roundg (N - (j + 1))
        case measure => omega
        case rel =>
          refine ⟨rfl, j + 1, by omega, rfl, by go_num, fun i p hi hp => ?_⟩
          by_cases e : i = j
          · subst e; rw [Hp.out] at hp; cases hp; exact Hk.out
          · exact Hlow.out i p (by omega) hp
      | true =>
        rw [hk] at hls
        have hP : P = j := Hpos.out j Hlow.out (by rw [HSl.out]; exact hj) (fun p hp => by rw [Hp.out] at hp; cases hp; exact hk)
        have hB : (k.toList == n.toList) = O.isSome := by
          cases hO : O with
          | some v =>
            have := Hyes.out v hO
            rw [hP, Hp.out] at this
            cases this; simp
          | none =>
            have := Hno.out hO (k, a) (by rw [hP]; exact Hp.out)
            exact bytes_ne this
        subst hP
        have HB := Lib.hid hB
        clear hB hk
        have j1 : decide ((P : Int) < (N : Int)) = true := by simp; omega
        go_wp2_with fail
        go_quiet (fail)
        go_wp2
        go_ret2
        refine ⟨?_, (Ext.refl _ w).drewN _⟩
        rw [← HB.out]
        rfl
    · have hP : P = j := Hpos.out j Hlow.out (by rw [HSl.out]; exact hj) (fun p hp => by have := (List.getElem?_eq_some_iff.1 hp).1; rw [HSl.out] at this; omega)
      have hO : O = none := by
        cases hO : O with
        | none => rfl
        | some v =>
          have := (List.getElem?_eq_some_iff.1 (Hyes.out v hO)).1
          rw [HSl.out, hP] at this; omega
      subst hP hO
      have j1 : decide ((P : Int) < (N : Int)) = false := by simp; omega
      go_wp2_with fail
      go_quiet (fail)
      go_wp2
      go_ret2
      exact ⟨rfl, (Ext.refl _ w).drewN _⟩
end Go.Proofs.Ytgmopnbejjfbjaa
