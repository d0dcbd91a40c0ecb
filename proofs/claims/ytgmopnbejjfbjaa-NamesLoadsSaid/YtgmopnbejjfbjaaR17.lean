/-
  The laws on package names: same. Conditions: IsReg, IsRef45, small.
-/
import Derived.Test.YtgmopnbejjfbjaaR16
namespace Go.Proofs.Ytgmopnbejjfbjaa
open Go.RowKit Go.MapKept
open Go.ChangeMaps (setBlock)

set_option maxRecDepth 100000 in
set_option maxHeartbeats 2000000 in
theorem same_any (w : World) (rb mb : Nat) (L : List (ByteArray × Slot)) (v : Value) (hR : IsReg w rb mb L) (hr : IsRef45 w v (regM L)) (hM : Small (regM L)) :
    Calls Try.prog 30 #[.pointer (some ⟨rb, 0, none⟩), v] w (StayPost w (.bool true)) := by
  have hLl : (regM L).length = L.length := by simp [regM]
  have hl1000 : L.length ≤ 1000 := by rw [← hLl]; exact hM.len
  have hnames := names_any w rb mb L hR (by omega)
  have hsave := fun (W : World) (hx : Ext (fun _ => False) w W) => save_any W rb mb L (hR.ext hx (fun _ _ h => h)) hM
  have hrsave := fun (W : World) (hx : Ext (fun _ => False) w W) => rsave_any W v (regM L) (hr.keep hx) hM
  obtain ⟨R, hr, hRM⟩ := hr
  have hlen := ref_length hRM
  have hat : ∀ (j : Nat) (p : ByteArray × Slot), R[j]? = some p → (namesM (regM L))[j]? = some p.1 := fun j p hp => by
    unfold namesM
    rw [← hRM, List.map_map, List.getElem?_map, hp]; rfl
  have hnl : (namesM (regM L)).length = R.length := by unfold namesM; rw [← hRM]; simp
  have hrow := hr.1
  obtain ⟨a1, c1, rfl⟩ := ownsRow_shape hrow
  obtain ⟨N, hN⟩ : ∃ N, R.length = N := ⟨_, rfl⟩
  rw [hN] at hrow hnl hlen
  rw [hN] at hrsave ⊢
  have hN1000 : N ≤ 1000 := by omega
  have HN := Lib.hid hN
  have Hrow := Lib.hid hrow
  have Hat := Lib.hid hat
  have Hnl := Lib.hid hnl
  have Hnames := Lib.hid hnames
  have Hsave := Lib.hid hsave
  have Hrsave := Lib.hid hrsave
  generalize namesM (regM L) = S at *
  clear hN hr hrow hat hnl hnames hsave hrsave hRM hR hM hlen hLl
  go_enter Try.func30, Try.ntmps30
  go_wp2_with fail
  refine Hnames.out.mono ?_
  rintro r w1 ⟨vn, rfl, hvn, hx1, _⟩
  rw [Hnl.out] at hvn
  obtain ⟨an, cn, rfl⟩ := ownsRow_shape hvn
  have Hvn := Lib.hid hvn
  have Hx1 := Lib.hid hx1
  clear hvn hx1
  go_wp2_with fail
  go_loopg [16] N (fun q v16 wr => ∃ j nq : Nat, j ≤ N ∧ q = N - j ∧ v16 = .int .i64 j ∧ wr = w1.drewN nq)
  case atStart => exact ⟨0, 0, Nat.zero_le _, rfl, rfl, rfl⟩
  case round =>
    obtain ⟨j, nq, hj, rfl, rfl, rfl⟩ := hrel
    by_cases hjN : j < N
    · obtain ⟨g, rfl, hgl⟩ := row_form Hrow.out (by omega)
      obtain ⟨gn, rfl, _⟩ := row_form Hvn.out (by omega)
      obtain ⟨p, hp⟩ : ∃ p, R[j]? = some p := ⟨_, List.getElem?_eq_getElem (by rw [HN.out]; exact hjN)⟩
      have e0 := (Hx1.out.cell (p := ⟨g, j * 2 + 0, none⟩) hgl id).trans (row_at (f := cellsN) cellsN_len Hrow.out j hp 0 (by omega) rfl)
      have e1 : w1.cell? ⟨gn, j, none⟩ = some (.string p.1) := by
        have := World.ownsRow.cells Hvn.out (g := gn) rfl j (.string p.1) (by rw [List.getElem?_map, Hat.out j p hp]; rfl)
        rwa [Addr.add_lit, Nat.zero_add] at this
      obtain ⟨k, a⟩ := p
      simp only [Nat.add_zero] at e0 e1
      have j0 : (0 : Int) ≤ (j : Int) := by omega
      have j1 : (j : Int) < (N : Int) := by omega
      clear hp
      go_wp2_with fail
      go_quiet (fail)
      go_wp2
      go_roundg (N - (j + 1))
      case measure => omega
      case rel => exact ⟨j + 1, _, by omega, rfl, by go_num, rfl⟩
    · have hX := Hx1.out.drewN nq
      have HX := Lib.hid hX
      clear hX
      generalize w1.drewN nq = w2 at *
      go_wp2_with fail
      refine (Hsave.out w2 HX.out).mono ?_
      rintro r w3 ⟨rfl, hx3⟩
      have HX3 := Lib.hid (HX.out.trans hx3)
      clear hx3
      go_wp2_with fail
      refine (Hrsave.out w3 HX3.out).mono ?_
      rintro r w4 ⟨rfl, hx4⟩
      have HX4 := Lib.hid (HX3.out.trans hx4)
      clear hx4
      go_wp2
      go_ret
      exact ⟨by simp, HX4.out⟩
end Go.Proofs.Ytgmopnbejjfbjaa
