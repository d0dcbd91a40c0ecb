/-
  The laws on package session: the reference's Ints; same. Conditions: IsTable, IsRef; lengths bounded.
-/
import Derived.Test.YthligdgkhmgagaaSY
namespace Go.Proofs.Ythligdgkhmgagaa
open Go.RowKit Go.MapKept
open Go.ChangeMaps (setBlock)

set_option maxRecDepth 100000 in
set_option maxHeartbeats 2000000 in
theorem ints_any (w : World) (v vk : Value) (T : Tbl) (hr : IsRef w v T) (hN : (sC T).length ≤ 1000) (hk : w.ownsRow 0 3 1 vk (sC T).length (((sC T).map Prod.fst).map (Value.int .i64))) :
    Calls Try.prog 31 #[vk, v] w (StayPost w (.bool true)) := by
  obtain ⟨vc, vs, rfl, hc, _⟩ := hr
  obtain ⟨ac, cc, rfl⟩ := ownsRow_shape hc
  obtain ⟨ak, ck, rfl⟩ := ownsRow_shape hk
  generalize sC T = S at *
  have Hc := Lib.hid hc
  have Hk := Lib.hid hk
  clear hc hk
  go_enter Try.func31, Try.ntmps31
  go_wp2_with fail
  obtain ⟨w1, hw1⟩ : ∃ w1, w1 = w.alloc (.cells #[.slice ac S.length cc, .int .i64 T.gen, vs] 39) := ⟨_, rfl⟩
  have hb1 : blk w1 w.heap.size = some (.cells #[.slice ac S.length cc, .int .i64 T.gen, vs] 39 (0, 0)) := by rw [hw1]; exact blk_alloc_at _ _
  have hx1 : Ext (fun _ => False) w w1 := by rw [hw1]; exact (Ext.refl _ w).alloc _
  rw [← hw1]
  obtain ⟨b0, _⟩ := box_cells hb1
  have Hx1 := Lib.hid hx1
  clear hb1 hx1 hw1
  go_loopg [5] S.length (fun q v5 wr => ∃ j nq : Nat, j ≤ S.length ∧ q = S.length - j ∧ v5 = .int .i64 j ∧ wr = w1.drewN nq)
  case atStart => exact ⟨0, 0, Nat.zero_le _, rfl, rfl, rfl⟩
  case round =>
    obtain ⟨j, nq, hj, rfl, rfl, rfl⟩ := hrel
    by_cases hjN : j < S.length
    · obtain ⟨gc, rfl, hgc⟩ := row_form Hc.out (by omega)
      obtain ⟨gk, rfl, hgk⟩ := row_form Hk.out (by omega)
      obtain ⟨p, hp⟩ : ∃ p, S[j]? = some p := ⟨_, List.getElem?_eq_getElem hjN⟩
      have e0 := (Hx1.out.cell (p := ⟨gc, j * 3, none⟩) hgc id).trans (row_at cellsC_len Hc.out j hp 0 (by omega) rfl)
      have e1 : w1.cell? ⟨gk, j, none⟩ = some (.int .i64 p.1) := by
        have := World.ownsRow.cells Hk.out (g := gk) rfl j (.int .i64 p.1) (by rw [List.getElem?_map, List.getElem?_map, hp]; rfl)
        rw [Addr.add_lit, Nat.zero_add] at this
        exact (Hx1.out.cell (p := ⟨gk, j, none⟩) hgk id).trans this
      obtain ⟨k, a⟩ := p
      simp only at e0 e1
      have j0 : (0 : Int) ≤ (j : Int) := by omega
      have j1 : (j : Int) < (S.length : Int) := by omega
      clear hp
      go_wp2_with fail
      go_quiet (fail)
      go_wp2
      go_roundg (S.length - (j + 1))
      case measure => omega
      case rel => exact ⟨j + 1, _, by omega, rfl, by go_num, rfl⟩
    · go_wp2
      go_ret
      exact ⟨rfl, Hx1.out.drewN _⟩
end Go.Proofs.Ythligdgkhmgagaa
