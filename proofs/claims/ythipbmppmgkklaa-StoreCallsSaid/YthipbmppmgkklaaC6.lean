/-
  The laws on package store: same. Conditions: IsStore, IsRows, the state is good and small.
-/
import Derived.Test.YthipbmppmgkklaaC5
namespace Go.Proofs.Ythipbmppmgkklaa
open Go.RowKit Go.MapKept
open Go.ChangeMaps (setBlock)

theorem Good.small {m : KM} (h : Good m) : ∀ p ∈ m, p.1.size ≤ 1000 := fun p hp => by have := (h.key p hp).2; omega
theorem ksort_good {m : KM} (h : Good m) : ∀ p ∈ ksort leS m, p.1.size ≤ 1000 ∧ InR p.2 := fun p hp => by
  have h1 := (ksort_perm m).mem_iff.1 hp
  exact ⟨h.small p h1, h.val p h1⟩
set_option maxRecDepth 100000 in
set_option maxHeartbeats 2000000 in
theorem same_any (w : World) (sb mb : Nat) (m : KM) (v : Value) (hs : IsStore w sb mb m) (hr : IsRows w v (ksort leS m)) (hg : Good m) (hm : m.length ≤ 1000) :
    Calls Try.prog 24 #[.pointer (some ⟨sb, 0, none⟩), v] w (StayPost w (.bool true)) := by
  have hkeys := keys_any w sb mb m hs (fun p hp => by have := hg.small p hp; omega) (by omega)
  have hlenc := fun (W : World) (hx : Ext (fun _ => False) w W) => len_any W sb mb m (hs.ext hx id id)
  have hget := fun (W : World) (hx : Ext (fun _ => False) w W) (k : ByteArray) => getkey_any W sb mb m (hs.ext hx id id) k
  have hsave := fun (W : World) (hx : Ext (fun _ => False) w W) => save_any W sb mb m (hs.ext hx id id) hg.small hg.val (by omega)
  have hrsave := fun (W : World) (hx : Ext (fun _ => False) w W) => rsave_any W v (ksort leS m) (hr.keep hx) (by rw [ksort_length]; omega) (ksort_good hg)
  have hlen : (ksort leS m).length = m.length := ksort_length m
  have hsv := saveM_rows hg.nodup
  have hat : ∀ (j : Nat) (p : ByteArray × Int), (ksort leS m)[j]? = some p → (keysM m)[j]? = some p.1.data.toList := fun j p hp => by
    rw [keysM_sort, List.getElem?_map, hp]; rfl
  have hval : ∀ (j : Nat) (p : ByteArray × Int), (ksort leS m)[j]? = some p → assoc m p.1 = some p.2 := fun j p hp => by
    rw [assoc_k]; exact kget_of_mem hg.nodup ((ksort_perm m).mem_iff.1 (List.mem_of_getElem? hp))
  have hnl : (keysM m).length = m.length := keysM_length m
  unfold SavePost at hsave
  unfold RSavePost at hrsave
  rw [← hsv] at hrsave
  generalize ksort leS m = R at *
  obtain ⟨a1, c1, rfl⟩ := ownsRow_shape hr
  have hrow := hr
  unfold IsRows at hrow
  rw [hlen] at hrow hrsave ⊢
  obtain ⟨N, hN⟩ : ∃ N, m.length = N := ⟨_, rfl⟩
  rw [hN] at hrow hrsave hlenc hnl hm hlen ⊢
  unfold KeysPost at hkeys
  rw [hN] at hkeys
  have HN := Lib.hid hlen
  have Hrow := Lib.hid hrow
  have Hat := Lib.hid hat
  have Hval := Lib.hid hval
  have Hnl := Lib.hid hnl
  have Hkeys := Lib.hid hkeys
  have Hlenc := Lib.hid hlenc
  have Hget := Lib.hid hget
  have Hsave := Lib.hid hsave
  have Hrsave := Lib.hid hrsave
  generalize keysM m = S at *
  generalize saveM m = B at *
  clear hN hr hrow hat hval hnl hkeys hlenc hget hsave hrsave hs hg hlen hsv
  go_enter Try.func24, Try.ntmps24
  go_wp2_with fail
  refine Hkeys.out.mono ?_
  rintro r w1 ⟨vn, rfl, hvn, _, hx1⟩
  obtain ⟨an, cn, rfl⟩ := ownsRow_shape hvn
  have Hvn := Lib.hid hvn
  have Hx1 := Lib.hid hx1
  clear hvn hx1
  have hL1 := (Hlenc.out w1 Hx1.out)
  have HL1 := Lib.hid hL1
  clear hL1
  go_wp2_with fail
  refine HL1.out.mono ?_
  rintro r w' ⟨rfl, hw⟩; obtain rfl := hw.symm; clear hw
  clear HL1
  go_wp2_with fail
  go_loopg [25] N (fun q v25 wr => ∃ j nq : Nat, j ≤ N ∧ q = N - j ∧ v25 = .int .i64 j ∧ wr = w1.drewN nq)
  case atStart => exact ⟨0, 0, Nat.zero_le _, rfl, rfl, rfl⟩
  case round =>
    obtain ⟨j, nq, hj, rfl, rfl, rfl⟩ := hrel
    by_cases hjN : j < N
    · obtain ⟨g, rfl, hgl⟩ := row_form Hrow.out (by omega)
      obtain ⟨gn, rfl, _⟩ := row_form Hvn.out (by omega)
      obtain ⟨p, hp⟩ : ∃ p, R[j]? = some p := ⟨_, List.getElem?_eq_getElem (by rw [HN.out]; exact hjN)⟩
      have e0 := (Hx1.out.cell (p := ⟨g, j * 2 + 0, none⟩) hgl id).trans (row_at (f := cellsP) cellsP_len Hrow.out j hp 0 (by omega) rfl)
      have e2 := (Hx1.out.cell (p := ⟨g, j * 2 + 1, none⟩) hgl id).trans (row_at (f := cellsP) cellsP_len Hrow.out j hp 1 (by omega) rfl)
      have e1 : w1.cell? ⟨gn, j, none⟩ = some (.string p.1) := by
        have := World.ownsRow.cells Hvn.out (g := gn) rfl j (.string p.1) (by rw [List.getElem?_map, Hat.out j p hp]; rfl)
        rwa [Addr.add_lit, Nat.zero_add] at this
      have hv := Hval.out j p hp
      have hget := Hget.out (w1.drewN nq) (Hx1.out.drewN nq) p.1
      rw [hv] at hget
      obtain ⟨k, a⟩ := p
      simp only [Nat.add_zero, Option.getD_some, Option.isSome_some] at e0 e1 e2 hget
      have Hg := Lib.hid hget
      have j0 : (0 : Int) ≤ (j : Int) := by omega
      have j1 : (j : Int) < (N : Int) := by omega
      clear hp hv hget
      go_wp2_with fail
      refine Hg.out.mono ?_
      rintro r w' ⟨rfl, hw⟩; obtain rfl := hw.symm; clear hw
      go_wp2_with fail
      go_quiet (fail)
      go_wp2
      go_roundg (N - (j + 1))
      case measure => omega
      case rel => exact ⟨j + 1, _, by omega, rfl, by go_num, by first | rfl | (rw [World.drewN_drewN]) | simp⟩
    · have hX := Hx1.out.drewN nq
      have HX := Lib.hid hX
      clear hX
      generalize w1.drewN nq = w2 at *
      go_wp2_with fail
      refine (Hsave.out w2 HX.out).mono ?_
      rintro r w3 ⟨rfl, hx3⟩
      have HX3 := Lib.hid (HX.out.trans hx3)
      clear hx3
      go_wp2_with fail
      refine (Hrsave.out w3 HX3.out).mono ?_
      rintro r w4 ⟨rfl, hx4⟩
      have HX4 := Lib.hid (HX3.out.trans hx4)
      clear hx4
      go_wp2
      go_ret
      exact ⟨by simp, HX4.out⟩
end Go.Proofs.Ythipbmppmgkklaa
