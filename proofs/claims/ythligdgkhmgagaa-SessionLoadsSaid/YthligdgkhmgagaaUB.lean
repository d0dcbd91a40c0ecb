/-
  The laws on package session: same. Conditions: IsTable, IsRef, Small.
-/
import Derived.Test.YthligdgkhmgagaaUA
namespace Go.Proofs.Ythligdgkhmgagaa
open Go.RowKit Go.MapKept
open Go.ChangeMaps (setBlock)

theorem last_at {T : Tbl} (hg : TGood T) {i : Nat} {p : Int × Ans} (hp : (sC T)[i]? = some p) : lastM T p.1 = p.2.n := by
  have hm : p ∈ T.cl := (ksort_perm T.cl).mem_iff.1 (List.mem_of_getElem? hp)
  have : iget T.cl p.1 = some p.2 := by rw [iget_k]; exact kget_of_mem hg.nodup hm
  rw [lastM_eq, this]; rfl

set_option maxRecDepth 100000 in
set_option maxHeartbeats 2000000 in
theorem same_any (w : World) (tb cb sb : Nat) (v : Value) (T : Tbl) (hs : IsTable w tb cb sb T) (hr : IsRef w v T) (hT : Small T) :
    Calls Try.prog 15 #[.pointer (some ⟨tb, 0, none⟩), v] w (StayPost w (.bool true)) := by
  obtain ⟨a1, m1, p1, a2, m2, p2, rfl⟩ := hr.shape
  have hr' := hr
  obtain ⟨vc, vs, hv, hc, _⟩ := hr'
  cases hv
  obtain ⟨_, _, hvc⟩ := ownsRow_shape hc
  cases hvc
  have hNb : (sC T).length ≤ 1000 := by have : (sC T).length = T.cl.length := ksort_length _; have := hT.cl; omega
  have Hc := Lib.hid hc
  have Hs := Lib.hid hs
  have Hr := Lib.hid hr
  have HT := Lib.hid hT
  clear hs hr hT hc
  go_enter Try.func15, Try.ntmps15
  go_wp2_with fail
  obtain ⟨w1, hw1⟩ : ∃ w1, w1 = w.alloc (.cells #[.slice a1 (sC T).length p1, .int .i64 T.gen, .slice a2 m2 p2] 39) := ⟨_, rfl⟩
  have hb1 : blk w1 w.heap.size = some (.cells #[.slice a1 (sC T).length p1, .int .i64 T.gen, .slice a2 m2 p2] 39 (0, 0)) := by rw [hw1]; exact blk_alloc_at _ _
  have hx1 : Ext (fun _ => False) w w1 := by rw [hw1]; exact (Ext.refl _ w).alloc _
  rw [← hw1]
  obtain ⟨b0, b1, b2⟩ := box_cells hb1
  have Hx1 := Lib.hid hx1
  have Hb1 := Lib.hid hb1
  have hlt1 := blk_lt hb1
  clear hb1 hx1 hw1
  go_loopg [9] (sC T).length (fun q v9 wr => ∃ j nq : Nat, j ≤ (sC T).length ∧ q = (sC T).length - j ∧ v9 = .int .i64 j ∧ wr = w1.drewN nq)
  case atStart => exact ⟨0, 0, Nat.zero_le _, rfl, rfl, rfl⟩
  case round =>
    obtain ⟨j, nq, hj, rfl, rfl, rfl⟩ := hrel
    by_cases hjN : j < (sC T).length
    · obtain ⟨gc, rfl, hgc⟩ := row_form Hc.out (by omega)
      obtain ⟨p, hp⟩ : ∃ p, (sC T)[j]? = some p := ⟨_, List.getElem?_eq_getElem hjN⟩
      have e0 := (Hx1.out.cell (p := ⟨gc, j * 3, none⟩) hgc id).trans (row_at cellsC_len Hc.out j hp 0 (by omega) rfl)
      have e1 := (Hx1.out.cell (p := ⟨gc, j * 3 + 1, none⟩) hgc id).trans (row_at cellsC_len Hc.out j hp 1 (by omega) rfl)
      have hla := last_at HT.out.ok.good hp
      obtain ⟨k, a⟩ := p
      simp only at e0 e1 hla
      have hlast : ∀ n, Calls Try.prog 13 #[.pointer (some ⟨tb, 0, none⟩), .int .i64 k] (w1.drewN (nq + n)) fun e w'' => e = .returned (.int .i64 a.n) ∧ ∃ m, w'' = w1.drewN (nq + m) := fun n => by
        rw [← World.drewN_drewN]
        simp only [← World.drewN_drewN]
        have := last_any ((w1.drewN nq).drewN n) tb cb sb T (Hs.out.keep ((Hx1.out.drewN _).drewN _)) k
        rw [hla] at this
        exact Calls.quiet_of_same this
      have Hlast := Lib.hid hlast
      have j0 : (0 : Int) ≤ (j : Int) := by omega
      have j1 : (j : Int) < ((sC T).length : Int) := by omega
      clear hp hla hlast Hr Hs HT
      go_wp2_with fail
      go_quiet ((go_at_call 13; exact Hlast.out _))
      go_wp2
      go_roundg ((sC T).length - (j + 1))
      case measure => omega
      case rel => exact ⟨j + 1, _, by omega, rfl, by go_num, rfl⟩
    · have hX := Hx1.out.drewN nq
      have hB := (((Ext.refl (fun _ => False) w1).drewN nq).blk hlt1 id).trans Hb1.out
      clear b0 b1 b2
      obtain ⟨b0, b1, b2⟩ := box_cells hB
      have hlt2 := blk_lt hB
      generalize w1.drewN nq = w2 at *
      have HX := Lib.hid hX
      have HB := Lib.hid hB
      clear hX hB Hx1 Hb1 hlt1
      go_upto_region 7 with fail
      have hTs := HT.out
      have hk5 : ∀ p ∈ T.cl, InR p.1 := fun p hp => by have := hTs.ok.good.key p hp; unfold InR; omega
      have hl5 := hTs.cl
      have HS2 := Lib.hid (Hs.out.keep HX.out)
      have HR2 := Lib.hid (Hr.out.keep HX.out)
      have Hk5 := Lib.hid hk5
      have Hnod := Lib.hid hTs.ok.good.nodup
      have HNl : Hid (T.cl.length = (sC T).length) := Lib.hid (ksort_length _).symm
      clear hk5 hTs Hs Hr Hc
      go_region_held3 (fun w' => w'.cell? ⟨w.heap.size, 0, none⟩ = some (.slice a1 (sC T).length p1) ∧ w'.cell? ⟨w.heap.size, 1, none⟩ = some (.int .i64 T.gen) ∧ w'.cell? ⟨w.heap.size, 2, none⟩ = some (.slice a2 m2 p2))
        (first | exact ⟨by assumption, by assumption, by assumption⟩ | go_keep)
        (first
          | (go_at_call 17; (with_reducible refine (generation_any _ tb cb sb T (by first | exact HS2.out | exact HS2.out.keep ((Ext.refl _ _).drew))).mono ?_); rintro r w' ⟨rfl, hw⟩; obtain rfl := hw.symm)
          | (go_at_call 12; (with_reducible refine (clients_any _ tb cb sb T (by first | exact HS2.out | exact HS2.out.keep ((Ext.refl _ _).drew)) Hk5.out (by omega)).mono ?_); rintro r w5 ⟨v5, rfl, hk5, _, hx5⟩; have hX5 : Ext (fun _ => False) w2 w5 := (by first | exact hx5 | exact ((Ext.refl _ w2).drew).trans hx5); obtain ⟨x0, x1, x2⟩ := box_cells ((hX5.blk hlt2 id).trans HB.out); rw [ikeys_length, ikeys_k Hnod.out, HNl.out] at hk5; have Hq5 := Lib.hid (ownsRow_mono hk5 (Nat.zero_le _)); have HX5 := Lib.hid hX5; clear hx5 hk5 hX5)
          | (go_at_call 31; have q3 := ints_any w5 _ v5 T (HR2.out.keep HX5.out) hNb Hq5.out; (with_reducible refine q3.mono ?_); clear q3; rintro r w6 ⟨rfl, hx6⟩; have hX6 : Ext (fun _ => False) w2 w6 := HX5.out.trans hx6; obtain ⟨y0, y1, y2⟩ := box_cells ((hX6.blk hlt2 id).trans HB.out); have HX6 := Lib.hid hX6; clear hx6 hX6)
          | (go_at_call 22; have q3 := save_any w6 tb cb sb T (HS2.out.keep HX6.out) HT.out; (with_reducible refine q3.mono ?_); clear q3; rintro r w7 ⟨rfl, hx7⟩; have hX7 : Ext (fun _ => False) w2 w7 := HX6.out.trans hx7; obtain ⟨z0, z1, z2⟩ := box_cells ((hX7.blk hlt2 id).trans HB.out); have HX7 := Lib.hid hX7; clear hx7 hX7)
          | (go_at_call 32; have q3 := rsave_any w7 _ T (HR2.out.keep HX7.out) HT.out; (with_reducible refine q3.mono ?_); clear q3; rintro r w8 ⟨rfl, hx8⟩; have hX8 : Ext (fun _ => False) w2 w8 := HX7.out.trans hx8; obtain ⟨t0, t1, t2⟩ := box_cells ((hX8.blk hlt2 id).trans HB.out); have HX8 := Lib.hid hX8; clear hx8 hX8))
      go_wp2
      go_ret
      exact ⟨rfl, HX.out.trans HX8.out⟩
end Go.Proofs.Ythligdgkhmgagaa
