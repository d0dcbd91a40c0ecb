/-
  Package store: DecodeOp, DecodeResult. Conditions: the text is small.
-/
import Derived.Test.YthipbmppmgkklaaQ3
namespace Go.Proofs.Ythipbmppmgkklaa
open Go.RowKit Go.MapKept
open Go.ChangeMaps (setBlock)

def set4 (w : World) (R : Nat) (u0 u1 u2 u3 : Value) : World := (((w.setCell ⟨R, 0, none⟩ u0).setCell ⟨R, 1, none⟩ u1).setCell ⟨R, 2, none⟩ u2).setCell ⟨R, 3, none⟩ u3
theorem box4 {w : World} {b : Nat} {v0 v1 v2 v3 : Value} {t : TypeId} {f : Nat × Nat} (h : blk w b = some (.cells #[v0, v1, v2, v3] t f)) : w.cell? ⟨b, 0, none⟩ = some v0 ∧ w.cell? ⟨b, 1, none⟩ = some v1 ∧ w.cell? ⟨b, 2, none⟩ = some v2 ∧ w.cell? ⟨b, 3, none⟩ = some v3 :=
  ⟨by simpa using cell_of_cells h 0, by simpa using cell_of_cells h 1, by simpa using cell_of_cells h 2, by simpa using cell_of_cells h 3⟩
theorem set4_done {w : World} {R : Nat} {v0 v1 v2 v3 : Value} {t : TypeId} (h : blk w R = some (.cells #[v0, v1, v2, v3] t (0, 0))) (u0 u1 u2 u3 : Value) :
    blk (set4 w R u0 u1 u2 u3) R = some (.cells #[u0, u1, u2, u3] t (0, 0)) ∧ Ext (fun b => b = R) w (set4 w R u0 u1 u2 u3) := by
  unfold set4
  exact ⟨by simpa using blk_setCell_same (blk_setCell_same (blk_setCell_same (blk_setCell_same h 0 u0) 1 u1) 2 u2) 3 u3, ((((Ext.refl (fun b => b = R) w).setCell (p := ⟨R, 0, none⟩) _ (fun _ => rfl)).setCell (p := ⟨R, 1, none⟩) _ (fun _ => rfl)).setCell (p := ⟨R, 2, none⟩) _ (fun _ => rfl)).setCell (p := ⟨R, 3, none⟩) _ (fun _ => rfl)⟩
/-- what a text decodes to -/
def decOpM (s : RS) : OpV × RS := (⟨(intM s).1, ofLs (textM (intM s).2).1, (intM (textM (intM s).2).2).1, (intM (intM (textM (intM s).2).2).2).1⟩, (intM (intM (textM (intM s).2).2).2).2)
  where ofLs (l : List UInt8) : ByteArray := ⟨l.toArray⟩
def DecOpPost (w : World) (m : OpV × RS) (r : Ending) (w' : World) : Prop :=
  Ext (fun _ => False) w w' ∧ ((endM m.2 = 0 ∧ r = .returned (.tuple #[m.1.val, .int .i64 0])) ∨ (¬ endM m.2 = 0 ∧ r = .returned (.tuple #[.agg #[.int .i64 0, .string { data := #[] }, .int .i64 0, .int .i64 0], .int .i64 11])))
/-- the reader, and the call's own boxes -/
structure DeSt (w wi : World) (p C : Nat) (s : RS) : Prop where
  ext : Ext (fun _ => False) w wi
  rd : IsRd wi p s
  np : w.heap.size ≤ p
  c : blk wi C = some (.cells #[.int .i64 0, .string { data := #[] }, .int .i64 0, .int .i64 0] 24 (0, 0))
theorem DeSt.step {w wi w' : World} {p C : Nat} {s s' : RS} (h : DeSt w wi p C s) (hr : IsRd w' p s') (hx : Ext (fun b => b = p) wi w') : DeSt w w' p C s' := by
  have hne : ¬ C = p := fun e => by
    obtain ⟨v, hp, _⟩ := h.rd
    have hc := h.c
    rw [e, hp] at hc; cases hc
  exact ⟨h.ext.trans' hx (fun k hk (e : k = p) => absurd h.np (by omega)), hr, h.np, (hx.blk (blk_lt h.c) hne).trans h.c⟩
set_option maxRecDepth 100000 in
set_option maxHeartbeats 4000000 in
theorem decodeOp_any (w : World) (b : ByteArray) (hs : b.size ≤ 1000000) : Calls Try.prog 27 #[.string b] w (DecOpPost w (decOpM ⟨b.data.toList, 0⟩)) := by
  obtain ⟨w0, hw0⟩ : ∃ w0, w0 = w.alloc (.cells #[.int .i64 0, .string { data := #[] }, .int .i64 0, .int .i64 0] 24) := ⟨_, rfl⟩
  have hx0 : Ext (fun _ => False) w w0 := by rw [hw0]; exact (Ext.refl _ w).alloc _
  have hc0 : blk w0 w.heap.size = some (.cells #[.int .i64 0, .string { data := #[] }, .int .i64 0, .int .i64 0] 24 (0, 0)) := by rw [hw0]; exact blk_alloc_at _ _
  obtain ⟨cap, w1, hcv, hb1, hx1⟩ := run_string_bytesAt w0 b hs
  have hnew := newreader_any w1 _ _ _ _ hb1 (by rw [show b.data.toList.length = b.size from Array.length_toList]; exact hs)
  have i1 := fun (W : World) (p : Nat) (h : IsRd W p ⟨b.data.toList, 0⟩) => int_any W p _ h
  have hm : decOpM ⟨b.data.toList, 0⟩ = (⟨(intM ⟨b.data.toList, 0⟩).1, ⟨(textM (intM ⟨b.data.toList, 0⟩).2).1.toArray⟩, (intM (textM (intM ⟨b.data.toList, 0⟩).2).2).1, (intM (intM (textM (intM ⟨b.data.toList, 0⟩).2).2).2).1⟩, (intM (intM (textM (intM ⟨b.data.toList, 0⟩).2).2).2).2) := rfl
  rw [hm]
  clear hm
  obtain ⟨s0, hs0⟩ : ∃ s, (⟨b.data.toList, 0⟩ : RS) = s := ⟨_, rfl⟩
  rw [hs0]
  simp only [hs0] at i1
  have Hs0 := Lib.hid hs0
  clear hs0
  obtain ⟨⟨k, s1⟩, h1⟩ : ∃ m, intM s0 = m := ⟨_, rfl⟩
  rw [h1]
  simp only [h1] at i1
  simp only
  have i2 := fun (W : World) (p : Nat) (h : IsRd W p s1) => text_any W p _ h
  obtain ⟨⟨tl, s2⟩, h2⟩ : ∃ m, textM s1 = m := ⟨_, rfl⟩
  rw [h2]
  simp only [h2] at i2
  simp only
  have i3 := fun (W : World) (p : Nat) (h : IsRd W p s2) => int_any W p _ h
  obtain ⟨⟨v, s3⟩, h3⟩ : ∃ m, intM s2 = m := ⟨_, rfl⟩
  rw [h3]
  simp only [h3] at i3
  simp only
  have i4 := fun (W : World) (p : Nat) (h : IsRd W p s3) => int_any W p _ h
  obtain ⟨⟨o, s4⟩, h4⟩ : ∃ m, intM s3 = m := ⟨_, rfl⟩
  rw [h4]
  simp only [h4] at i4
  simp only
  have hC0 := (hx1.blk (blk_lt hc0) id).trans hc0
  have Hnew := Lib.hid hnew
  have I1 := Lib.hid i1
  have I2 := Lib.hid i2
  have I3 := Lib.hid i3
  have I4 := Lib.hid i4
  have Hx1 := Lib.hid (hx0.trans hx1)
  have HC0 := Lib.hid hC0
  clear hnew i1 i2 i3 i4 h1 h2 h3 h4 hx0 hc0 hx1 hb1 hC0
  go_enter Try.func27, Try.ntmps27
  go_upto_region 1 with fail
  rw [← hw0]
  clear hw0
  go_wp2_with fail
  refine Hnew.out.mono ?_
  rintro r w2 ⟨p, rfl, hrd2, hx2, hp2⟩
  have HS := Lib.hid (show DeSt w w2 p w.heap.size s0 from ⟨Hx1.out.trans hx2, by rw [← Hs0.out]; exact hrd2, Nat.le_trans Hx1.out.size hp2, (hx2.blk (blk_lt HC0.out) id).trans HC0.out⟩)
  clear hrd2 hx2 hp2 hcv Hnew Hx1 HC0
  go_wp2_with fail
  refine (I1.out w2 p HS.out.rd).mono ?_
  rintro r w3 ⟨rfl, hr, hx⟩
  have HS3 := Lib.hid (HS.out.step hr hx)
  clear hr hx HS I1
  go_wp2_with fail
  refine (I2.out w3 p HS3.out.rd).mono ?_
  rintro r w4 ⟨rfl, hr, hx⟩
  have HS4 := Lib.hid (HS3.out.step hr hx)
  clear hr hx HS3 I2
  go_wp2_with fail
  refine (I3.out w4 p HS4.out.rd).mono ?_
  rintro r w5 ⟨rfl, hr, hx⟩
  have HS5 := Lib.hid (HS4.out.step hr hx)
  clear hr hx HS4 I3
  go_wp2_with fail
  refine (I4.out w5 p HS5.out.rd).mono ?_
  rintro r w6 ⟨rfl, hr, hx⟩
  have HS6 := Lib.hid (HS5.out.step hr hx)
  clear hr hx HS5 I4
  simp only at HS6 ⊢
  generalize (⟨tl.toArray⟩ : ByteArray) = t at *
  go_upto_region 3 with fail
  obtain ⟨w7, hw7⟩ : ∃ w7, w7 = w6.alloc (.cells #[.int .i64 k, .string t, .int .i64 v, .int .i64 o] 24) := ⟨_, rfl⟩
  have hx7 : Ext (fun _ => False) w6 w7 := by rw [hw7]; exact (Ext.refl _ w6).alloc _
  have hb7 : blk w7 w6.heap.size = some (.cells #[.int .i64 k, .string t, .int .i64 v, .int .i64 o] 24 (0, 0)) := by rw [hw7]; exact blk_alloc_at _ _
  rw [← hw7]
  clear hw7
  have hc7 := (hx7.blk (blk_lt HS6.out.c) id).trans HS6.out.c
  have hend := end_any w7 p s4 (HS6.out.rd.keep hx7)
  have hxw := HS6.out.ext.trans hx7
  have hne : ¬ w.heap.size = w6.heap.size := by have := blk_lt HS6.out.c; omega
  have hne2 : ¬ w6.heap.size = w.heap.size := fun e => hne e.symm
  generalize w6.heap.size = X at *
  obtain ⟨x0, x1, x2, x3⟩ := box4 hb7
  obtain ⟨y0, y1, y2, y3⟩ := box4 hc7
  have f0 := free_of_cells hc7 0
  have f1 := free_of_cells hc7 1
  have f2 := free_of_cells hc7 2
  have f3 := free_of_cells hc7 3
  have hltC := blk_lt hc7
  have hltX := blk_lt hb7
  have Hend := Lib.hid hend
  have Hxw := Lib.hid hxw
  have Hc7 := Lib.hid hc7
  clear hend hxw hx7 hb7 hc7 HS6
  by_cases he : endM s4 = 0
  · have hq := set4_done Hc7.out (.int .i64 k) (.string t) (.int .i64 v) (.int .i64 o)
    obtain ⟨z0, z1, z2, z3⟩ := box4 hq.1
    have hfin : DecOpPost w (⟨k, t, v, o⟩, s4) (.returned (.tuple #[.agg #[.int .i64 k, .string t, .int .i64 v, .int .i64 o], .int .i64 0])) (set4 w7 w.heap.size (.int .i64 k) (.string t) (.int .i64 v) (.int .i64 o)) :=
      ⟨Hxw.out.trans' hq.2 (fun k hk (e : k = w.heap.size) => absurd hk (by omega)), .inl ⟨he, rfl⟩⟩
    have Hfin := Lib.hid hfin
    unfold set4 at Hfin z0 z1 z2 z3
    rw [he] at Hend
    clear hq hfin he
    go_wp2_with fail
    refine Hend.out.mono ?_
    rintro r w' ⟨rfl, hw⟩; obtain rfl := hw.symm; clear hw
    go_wp2
    exact bodyPost_ret (v := .tuple #[.agg #[.int .i64 k, .string t, .int .i64 v, .int .i64 o], .int .i64 0]) (by simp [results, Try.results27, go_sem, z0, z1, z2, z3]) rfl Hfin.out
  · have hq := set4_done Hc7.out (.int .i64 0) (.string { data := #[] }) (.int .i64 0) (.int .i64 0)
    obtain ⟨z0, z1, z2, z3⟩ := box4 hq.1
    have hfin : DecOpPost w (⟨k, t, v, o⟩, s4) (.returned (.tuple #[.agg #[.int .i64 0, .string { data := #[] }, .int .i64 0, .int .i64 0], .int .i64 11])) (set4 w7 w.heap.size (.int .i64 0) (.string { data := #[] }) (.int .i64 0) (.int .i64 0)) :=
      ⟨Hxw.out.trans' hq.2 (fun k hk (e : k = w.heap.size) => absurd hk (by omega)), .inr ⟨he, rfl⟩⟩
    have Hfin := Lib.hid hfin
    unfold set4 at Hfin z0 z1 z2 z3
    have he' : (endM s4 == 0) = false := by simpa using he
    generalize endM s4 = en at *
    clear hq hfin he
    go_wp2_with fail
    refine Hend.out.mono ?_
    rintro r w' ⟨rfl, hw⟩; obtain rfl := hw.symm; clear hw
    go_wp2
    exact bodyPost_ret (v := .tuple #[.agg #[.int .i64 0, .string { data := #[] }, .int .i64 0, .int .i64 0], .int .i64 11]) (by simp [results, Try.results27, go_sem, z0, z1, z2, z3]) rfl Hfin.out
end Go.Proofs.Ythipbmppmgkklaa
