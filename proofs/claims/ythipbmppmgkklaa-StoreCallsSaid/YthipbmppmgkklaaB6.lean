/-
  Apply: the store's, the reference's. Conditions: IsStore, IsRows, the state is good and small, the text is small.
-/
import Derived.Test.YthipbmppmgkklaaB5
import Derived.Test.YthipbmppmgkklaaC4
namespace Go.Proofs.Ythipbmppmgkklaa
open Go.RowKit Go.MapKept
open Go.ChangeMaps (setBlock)

/-- what a text does -/
def applyM (m : KM) (l : List UInt8) : KM × List UInt8 := if endM (decOpM ⟨l, 0⟩).2 = 0 then ((doM m (decOpM ⟨l, 0⟩).1).1, encResM (doM m (decOpM ⟨l, 0⟩).1).2) else (m, encResM ⟨11, false, 0⟩)
theorem intM_in (s : RS) : InR (intM s).1 := by
  have := unzz_in (numberM_lt s)
  exact this
theorem textM_len (s : RS) : (textM s).1.length ≤ s.l.length := by
  unfold textM
  split
  · cases h : textR s.l with
    | none => simp
    | some tr =>
      obtain ⟨t, r⟩ := tr
      simp only
      unfold textR at h
      split at h
      · split at h
        · cases h; rw [List.length_take]
          rename_i n t' hg _
          have := getNum_inv hg
          rw [this.1]; simp
          omega
        · cases h
      · cases h
  · simp
theorem numberM_len (s : RS) : (numberM s).2.l.length ≤ s.l.length := by
  unfold numberM
  split
  · cases h : getNum s.l with
    | none => simp
    | some nt =>
      obtain ⟨n, t⟩ := nt
      have := (getNum_inv h).1
      simp only
      rw [this]; simp
  · exact Nat.le_refl _
theorem decOp_in (s : RS) : InR (decOpM s).1.k ∧ InR (decOpM s).1.v ∧ InR (decOpM s).1.o ∧ (decOpM s).1.key.size ≤ s.l.length := by
  refine ⟨intM_in _, intM_in _, intM_in _, ?_⟩
  show (textM (intM s).2).1.toArray.size ≤ _
  rw [List.size_toArray]
  exact Nat.le_trans (textM_len _) (numberM_len s)
theorem doM_in {m : KM} (hg : Good m) {x : OpV} (hv : InR x.v) : InR (doM m x).2.c ∧ InR (doM m x).2.v := by
  have h0 : InR 0 := by unfold InR; omega
  have h1 : InR 1 := by unfold InR; omega
  have h8 : InR 8 := by unfold InR; omega
  have ha : InR ((assoc m x.key).getD 0) := by
    rcases assoc_mem' (m := m) (k := x.key) with h | ⟨p, hp, h⟩
    · rw [h]; exact h0
    · rw [← h]; exact hg.val p hp
  have hw := wrap64_in' ((assoc m x.key).getD 0 + x.v)
  unfold doM getM putM casM addM setM
  repeat' split
  all_goals first | exact ⟨h1, h0⟩ | exact ⟨h0, ha⟩ | exact ⟨h0, hv⟩ | exact ⟨h8, h0⟩ | exact ⟨h0, hw⟩
def RApPost (w : World) (p : KM × List UInt8) (r : Ending) (w' : World) : Prop := ∃ v', r = .returned (.tuple #[v', .string ⟨p.2.toArray⟩]) ∧ IsRows w' v' (ksort leS p.1) ∧ Ext (fun _ => False) w w'
def ApPost (w : World) (sb mb : Nat) (p : KM × List UInt8) (r : Ending) (w' : World) : Prop := r = .returned (.string ⟨p.2.toArray⟩) ∧ IsStore w' sb mb p.1 ∧ Ext (fun b => b = mb) w w'
set_option maxRecDepth 100000 in
set_option maxHeartbeats 4000000 in
theorem rapply_any (w : World) (v : Value) (m : KM) (hr : IsRows w v (ksort leS m)) (hg : Good m) (hm : m.length ≤ 100000) (b : ByteArray) (hs : b.size ≤ 1000000) :
    Calls Try.prog 33 #[v, .string b] w (RApPost w (applyM m b.data.toList)) := by
  have hdec := rdecodeOp_any w b hs
  have hin := decOp_in ⟨b.data.toList, 0⟩
  have hbl : b.data.toList.length = b.size := Array.length_toList
  simp only [hbl] at hin
  unfold applyM
  generalize decOpM ⟨b.data.toList, 0⟩ = d at *
  obtain ⟨x, s⟩ := d
  simp only at hin ⊢
  obtain ⟨i1, i2, i3, i4⟩ := hin
  have hri := doM_in hg (x := x) i2
  have hdo := fun (W : World) (hx : Ext (fun _ => False) w W) => rdo_any W v m (hr.keep hx) hg hm x (by omega)
  generalize doM m x = p at *
  obtain ⟨pm, pc, pf, pv⟩ := p
  simp only at hri ⊢
  obtain ⟨r1, r2⟩ := hri
  have henc := fun (W : World) => rencodeResult_any W pc pf pv r1 r2
  have henc11 := fun (W : World) => rencodeResult_any W 11 false 0 (by omega) (by omega)
  have Hr := Lib.hid hr
  obtain ⟨ao, cap, rfl⟩ := ownsRow_shape hr
  generalize (ksort leS m).length = N at *
  have Hdec := Lib.hid hdec
  have Hdo := Lib.hid hdo
  have Henc := Lib.hid henc
  have Henc11 := Lib.hid henc11
  clear hdec hdo henc henc11 hr hg hm i1 i2 i3 i4 hbl r1 r2
  by_cases he : endM s = 0
  · rw [if_pos he]
    have He := Lib.hid he
    clear he
    go_enter Try.func33, Try.ntmps33
    go_wp2_with fail
    refine Hdec.out.mono ?_
    rintro r w2 ⟨hx2, hd⟩
    have hd : r = .returned (.tuple #[x.val, .bool true]) := by
      rcases hd with ⟨_, e⟩ | ⟨h, _⟩
      · exact e
      · exact absurd He.out h
    subst hd
    obtain ⟨xk, key, xv, xo⟩ := x
    simp only [OpV.val] at *
    have Hx2 := Lib.hid hx2
    clear hx2
    obtain ⟨w3, hw3⟩ : ∃ w3, w3 = w2.alloc (.cells #[.int .i64 xk, .string key, .int .i64 xv, .int .i64 xo] 24) := ⟨_, rfl⟩
    have hb3 : blk w3 w2.heap.size = some (.cells #[.int .i64 xk, .string key, .int .i64 xv, .int .i64 xo] 24 (0, 0)) := by rw [hw3]; exact blk_alloc_at _ _
    have hx3 : Ext (fun _ => False) w2 w3 := by rw [hw3]; exact (Ext.refl _ w2).alloc _
    go_upto_region 2 with fail
    rw [← hw3]
    obtain ⟨q0, q1, q2, q3⟩ := box4 hb3
    have hlt3 := blk_lt hb3
    have Hx3 := Lib.hid (Hx2.out.trans hx3)
    generalize w2.heap.size = X at *
    clear hw3 hx3 hb3 Hx2
    go_wp2_with fail
    refine (Hdo.out w3 Hx3.out).mono ?_
    rintro r w4 ⟨v4, rfl, hr4, hx4⟩
    obtain ⟨a4, n4, c4, rfl, _⟩ := row_shape' hr4
    have Hr4 := Lib.hid hr4
    have Hx4 := Lib.hid (Hx3.out.trans hx4)
    clear hr4 hx4 q0 q1 q2 q3 hlt3 Hx3 Hdo
    simp only [Rs.val]
    obtain ⟨w5, hw5⟩ : ∃ w5, w5 = w4.alloc (.cells #[.int .i64 pc, .bool pf, .int .i64 pv] 31) := ⟨_, rfl⟩
    have hb5 : blk w5 w4.heap.size = some (.cells #[.int .i64 pc, .bool pf, .int .i64 pv] 31 (0, 0)) := by rw [hw5]; exact blk_alloc_at _ _
    have hx5 : Ext (fun _ => False) w4 w5 := by rw [hw5]; exact (Ext.refl _ w4).alloc _
    go_upto_region 5 with fail
    rw [← hw5]
    obtain ⟨q0, q1, q2⟩ := box_cells hb5
    have hlt5 := blk_lt hb5
    have Hx5 := Lib.hid (Hx4.out.trans hx5)
    have Hr5 := Lib.hid (Hr4.out.keep hx5)
    generalize w4.heap.size = Y at *
    clear hw5 hx5 hb5 Hx4 Hr4
    go_wp2_with fail
    refine (Henc.out w5).mono ?_
    rintro r w6 ⟨rfl, hx6⟩
    have Hfin := Lib.hid (And.intro (Hr5.out.keep hx6) (Hx5.out.trans hx6))
    clear hx6 Hx5 Hr5 q0 q1 q2 hlt5
    go_wp2
    go_ret2
    exact ⟨_, rfl, Hfin.out.1, Hfin.out.2⟩
  · rw [if_neg he]
    have He := Lib.hid he
    clear he
    go_enter Try.func33, Try.ntmps33
    go_wp2_with fail
    refine Hdec.out.mono ?_
    rintro r w2 ⟨hx2, hd⟩
    have hd : r = .returned (.tuple #[.agg #[.int .i64 0, .string { data := #[] }, .int .i64 0, .int .i64 0], .bool false]) := by
      rcases hd with ⟨h, _⟩ | ⟨_, e⟩
      · exact absurd h He.out
      · exact e
    subst hd
    have Hx2 := Lib.hid hx2
    clear hx2
    go_wp2_with fail
    have hx3 : Ext (fun _ => False) w2 (w2.alloc (.cells #[.int .i64 0, .string { data := #[] }, .int .i64 0, .int .i64 0] 24)) := (Ext.refl _ w2).alloc _
    have Hx3 := Lib.hid (Hx2.out.trans hx3)
    generalize w2.alloc (.cells #[.int .i64 0, .string { data := #[] }, .int .i64 0, .int .i64 0] 24) = w3 at *
    clear hx3 Hx2
    refine (Henc11.out w3).mono ?_
    rintro r w4 ⟨rfl, hx4⟩
    have Hfin := Lib.hid (And.intro (Hr.out.keep (Hx3.out.trans hx4)) (Hx3.out.trans hx4))
    clear hx4 Hx3 Hr
    go_wp2
    go_ret2
    exact ⟨_, rfl, Hfin.out.1, Hfin.out.2⟩
set_option maxRecDepth 100000 in
set_option maxHeartbeats 4000000 in
theorem apply_any (w : World) (sb mb : Nat) (m : KM) (hs : IsStore w sb mb m) (hg : Good m) (hm : m.length ≤ 1000000) (b : ByteArray) (hsz : b.size ≤ 1000000) :
    Calls Try.prog 21 #[.pointer (some ⟨sb, 0, none⟩), .string b] w (ApPost w sb mb (applyM m b.data.toList)) := by
  have hdec := decodeOp_any w b hsz
  have hin := decOp_in ⟨b.data.toList, 0⟩
  have hbl : b.data.toList.length = b.size := Array.length_toList
  simp only [hbl] at hin
  unfold applyM
  generalize decOpM ⟨b.data.toList, 0⟩ = d at *
  obtain ⟨x, s⟩ := d
  simp only at hin ⊢
  obtain ⟨i1, i2, i3, i4⟩ := hin
  have hri := doM_in hg (x := x) i2
  have hdo := fun (W : World) (hx : Ext (fun _ => False) w W) => do_any W sb mb m (hs.ext hx id id) hm x (by omega)
  generalize doM m x = p at *
  obtain ⟨pm, pc, pf, pv⟩ := p
  simp only at hri ⊢
  obtain ⟨r1, r2⟩ := hri
  have henc := fun (W : World) => encodeResult_any W pc pf pv r1 r2
  have henc11 := fun (W : World) => encodeResult_any W 11 false 0 (by omega) (by omega)
  have hlt := hs.lt
  have Hlt := Lib.hid hlt
  have Hs := Lib.hid hs
  have Hdec := Lib.hid hdec
  have Hdo := Lib.hid hdo
  have Henc := Lib.hid henc
  have Henc11 := Lib.hid henc11
  clear hdec hdo henc henc11 hs hg hm i1 i2 i3 i4 hbl r1 r2 hlt
  by_cases he : endM s = 0
  · rw [if_pos he]
    have He := Lib.hid he
    clear he
    go_enter Try.func21, Try.ntmps21
    go_wp2_with fail
    refine Hdec.out.mono ?_
    rintro r w2 ⟨hx2, hd⟩
    have hd : r = .returned (.tuple #[x.val, .int .i64 0]) := by
      rcases hd with ⟨_, e⟩ | ⟨h, _⟩
      · exact e
      · exact absurd He.out h
    subst hd
    obtain ⟨xk, key, xv, xo⟩ := x
    simp only [OpV.val] at *
    have Hx2 := Lib.hid hx2
    clear hx2
    obtain ⟨w3, hw3⟩ : ∃ w3, w3 = w2.alloc (.cells #[.int .i64 xk, .string key, .int .i64 xv, .int .i64 xo] 24) := ⟨_, rfl⟩
    have hb3 : blk w3 w2.heap.size = some (.cells #[.int .i64 xk, .string key, .int .i64 xv, .int .i64 xo] 24 (0, 0)) := by rw [hw3]; exact blk_alloc_at _ _
    have hx3 : Ext (fun _ => False) w2 w3 := by rw [hw3]; exact (Ext.refl _ w2).alloc _
    go_upto_region 2 with fail
    rw [← hw3]
    obtain ⟨q0, q1, q2, q3⟩ := box4 hb3
    have hlt3 := blk_lt hb3
    have Hx3 := Lib.hid (Hx2.out.trans hx3)
    generalize w2.heap.size = X at *
    clear hw3 hx3 hb3 Hx2
    go_wp2_with fail
    refine (Hdo.out w3 Hx3.out).mono ?_
    rintro r w4 ⟨rfl, hs4, hx4⟩
    have Hs4 := Lib.hid hs4
    have Hx4 := Lib.hid ((ext_any Hx3.out (fun b => b = mb)).trans hx4)
    clear hs4 hx4 q0 q1 q2 q3 hlt3 Hx3 Hdo
    simp only [Rs.val]
    go_wp2_with fail
    refine (Henc.out w4).mono ?_
    rintro r w6 ⟨rfl, hx6⟩
    have Hfin := Lib.hid (And.intro (Hs4.out.ext hx6 id id) (Hx4.out.trans (ext_any hx6 (fun b => b = mb))))
    clear hx6 Hx4 Hs4
    go_wp2
    go_ret
    exact ⟨rfl, Hfin.out.1, Hfin.out.2⟩
  · rw [if_neg he]
    have He := Lib.hid he
    clear he
    go_enter Try.func21, Try.ntmps21
    go_wp2_with fail
    refine Hdec.out.mono ?_
    rintro r w2 ⟨hx2, hd⟩
    have hd : r = .returned (.tuple #[.agg #[.int .i64 0, .string { data := #[] }, .int .i64 0, .int .i64 0], .int .i64 11]) := by
      rcases hd with ⟨h, _⟩ | ⟨_, e⟩
      · exact absurd h He.out
      · exact e
    subst hd
    have Hx2 := Lib.hid hx2
    clear hx2
    go_wp2_with fail
    have hx3 : Ext (fun _ => False) w2 (w2.alloc (.cells #[.int .i64 0, .string { data := #[] }, .int .i64 0, .int .i64 0] 24)) := (Ext.refl _ w2).alloc _
    have Hx3 := Lib.hid (Hx2.out.trans hx3)
    generalize w2.alloc (.cells #[.int .i64 0, .string { data := #[] }, .int .i64 0, .int .i64 0] 24) = w3 at *
    clear hx3 Hx2
    refine (Henc11.out w3).mono ?_
    rintro r w4 ⟨rfl, hx4⟩
    have Hfin := Lib.hid (And.intro (Hs.out.ext (Hx3.out.trans hx4) id id) (ext_any (Hx3.out.trans hx4) (fun b => b = mb)))
    clear hx4 Hx3 Hs
    go_wp2
    go_ret
    exact ⟨rfl, Hfin.out.1, Hfin.out.2⟩
end Go.Proofs.Ythipbmppmgkklaa
