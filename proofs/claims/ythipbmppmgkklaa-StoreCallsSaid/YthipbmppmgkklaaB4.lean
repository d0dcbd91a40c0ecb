/-
  The reference of package store: DecodeOp. Conditions: the text is small.
-/
import Derived.Test.YthipbmppmgkklaaB3
namespace Go.Proofs.Ythipbmppmgkklaa
open Go.RowKit Go.MapKept
open Go.ChangeMaps (setBlock)

/-- the reader's box, and the result's -/
structure RdSt (w wi : World) (C R : Nat) (cs : Array Value) (t : TypeId) (u : Value) (s : RS) : Prop where
  ext : Ext (fun _ => False) w wi
  c : blk wi C = some (.cells cs t (0, 0))
  r : blk wi R = some (.cells #[u, .int .i64 s.c] 97 (0, 0))
  at' : BytesAt wi u s.l
  ge : w.heap.size ≤ R
  ne : ¬ C = R
theorem RdSt.value {w wi : World} {C R : Nat} {cs : Array Value} {t : TypeId} {u : Value} {s : RS} (h : RdSt w wi C R cs t u s) : IsRs wi (.agg #[u, .int .i64 s.c]) s := ⟨u, rfl, h.at'⟩
theorem RdSt.keep {w wi w' : World} {C R : Nat} {cs : Array Value} {t : TypeId} {u : Value} {s : RS} (h : RdSt w wi C R cs t u s) (hx : Ext (fun _ => False) wi w') : RdSt w w' C R cs t u s :=
  ⟨h.ext.trans hx, (hx.blk (blk_lt h.c) id).trans h.c, (hx.blk (blk_lt h.r) id).trans h.r, h.at'.keep hx, h.ge, h.ne⟩
theorem RdSt.put {w wi w' : World} {C R : Nat} {cs : Array Value} {t : TypeId} {u u' : Value} {s s' : RS} (h : RdSt w wi C R cs t u s) (hx : Ext (fun _ => False) wi w') (hb : BytesAt w' u' s'.l) : RdSt w (set2 w' R u' (.int .i64 s'.c)) C R cs t u' s' := by
  have hr := (hx.blk (blk_lt h.r) id).trans h.r
  have hc := (hx.blk (blk_lt h.c) id).trans h.c
  have hq := set2_done hr u' (.int .i64 s'.c)
  exact ⟨(h.ext.trans hx).trans' hq.2 (fun k hk (e : k = R) => absurd h.ge (by omega)), (hq.2.blk (blk_lt hc) h.ne).trans hc, hq.1, hb.ext hq.2 (fun g cur hc e => by subst e; exact hc.ne hr (by decide)), h.ge, h.ne⟩
/-- the reader's box is laid -/
theorem RdSt.new {w w2 : World} {C : Nat} {cs : Array Value} {t : TypeId} {u : Value} {s : RS} (hx : Ext (fun _ => False) w w2) (hc : blk w2 C = some (.cells cs t (0, 0))) (hb : BytesAt w2 u s.l) :
    RdSt w (w2.alloc (.cells #[u, .int .i64 s.c] 97)) C w2.heap.size cs t u s := by
  have hx2 : Ext (fun _ => False) w2 (w2.alloc (.cells #[u, .int .i64 s.c] 97)) := (Ext.refl _ w2).alloc _
  have hlt := blk_lt hc
  exact ⟨hx.trans hx2, (hx2.blk hlt id).trans hc, blk_alloc_at w2 (.cells #[u, .int .i64 s.c] 97), hb.keep hx2, hx.size, fun e => by omega⟩
def RDecOpPost (w : World) (m : OpV × RS) (r : Ending) (w' : World) : Prop :=
  Ext (fun _ => False) w w' ∧ ((endM m.2 = 0 ∧ r = .returned (.tuple #[m.1.val, .bool true])) ∨ (¬ endM m.2 = 0 ∧ r = .returned (.tuple #[.agg #[.int .i64 0, .string { data := #[] }, .int .i64 0, .int .i64 0], .bool false])))
set_option maxRecDepth 100000 in
set_option maxHeartbeats 4000000 in
theorem rdecodeOp_any (w : World) (b : ByteArray) (hs : b.size ≤ 1000000) : Calls Try.prog 31 #[.string b] w (RDecOpPost w (decOpM ⟨b.data.toList, 0⟩)) := by
  obtain ⟨w0, hw0⟩ : ∃ w0, w0 = w.alloc (.cells #[.int .i64 0, .string { data := #[] }, .int .i64 0, .int .i64 0] 24) := ⟨_, rfl⟩
  have hx0 : Ext (fun _ => False) w w0 := by rw [hw0]; exact (Ext.refl _ w).alloc _
  have hc0 : blk w0 w.heap.size = some (.cells #[.int .i64 0, .string { data := #[] }, .int .i64 0, .int .i64 0] 24 (0, 0)) := by rw [hw0]; exact blk_alloc_at _ _
  obtain ⟨cap, w1, hcv, hb1, hx1⟩ := run_string_bytesAt w0 b hs
  have i1 : Calls Try.prog 56 #[.agg #[.slice (some ⟨w0.heap.size, 0, none⟩) b.size cap, .int .i64 0]] w1 (IrPost w1 (intM ⟨b.data.toList, 0⟩)) := rgetint_any w1 _ ⟨b.data.toList, 0⟩ ⟨_, rfl, hb1⟩
  have hm : decOpM ⟨b.data.toList, 0⟩ = (⟨(intM ⟨b.data.toList, 0⟩).1, ⟨(textM (intM ⟨b.data.toList, 0⟩).2).1.toArray⟩, (intM (textM (intM ⟨b.data.toList, 0⟩).2).2).1, (intM (intM (textM (intM ⟨b.data.toList, 0⟩).2).2).2).1⟩, (intM (intM (textM (intM ⟨b.data.toList, 0⟩).2).2).2).2) := rfl
  rw [hm]
  clear hm
  obtain ⟨s0, hs0⟩ : ∃ s, (⟨b.data.toList, 0⟩ : RS) = s := ⟨_, rfl⟩
  rw [hs0] at i1 ⊢
  clear hs0
  obtain ⟨⟨k, s1⟩, h1⟩ : ∃ m, intM s0 = m := ⟨_, rfl⟩
  rw [h1]
  simp only [h1] at i1
  simp only
  have i2 := fun (W : World) (v : Value) (h : IsRs W v s1) => rtxt_any W v _ h
  obtain ⟨⟨tl, s2⟩, h2⟩ : ∃ m, textM s1 = m := ⟨_, rfl⟩
  rw [h2]
  simp only [h2] at i2
  simp only
  have i3 := fun (W : World) (v : Value) (h : IsRs W v s2) => rgetint_any W v _ h
  obtain ⟨⟨v, s3⟩, h3⟩ : ∃ m, intM s2 = m := ⟨_, rfl⟩
  rw [h3]
  simp only [h3] at i3
  simp only
  have i4 := fun (W : World) (v : Value) (h : IsRs W v s3) => rgetint_any W v _ h
  obtain ⟨⟨o, s4⟩, h4⟩ : ∃ m, intM s3 = m := ⟨_, rfl⟩
  rw [h4]
  simp only [h4] at i4
  simp only
  have i5 := fun (W : World) (v : Value) (h : IsRs W v s4) => rend_any W v _ h
  have hC1 := (hx1.blk (blk_lt hc0) id).trans hc0
  have I1 := Lib.hid i1
  have I2 := Lib.hid i2
  have I3 := Lib.hid i3
  have I4 := Lib.hid i4
  have I5 := Lib.hid i5
  have Hx1 := Lib.hid (hx0.trans hx1)
  have HC1 := Lib.hid hC1
  clear hC1 hx0 hc0 hx1 hb1 i1 i2 i3 i4 i5 h1 h2 h3 h4
  go_enter Try.func31, Try.ntmps31
  go_upto_region 1 with fail
  rw [← hw0]
  clear hw0
  go_wp2_with fail
  refine I1.out.mono ?_
  rintro r w2 ⟨v2, rfl, hr2, hx2⟩
  obtain ⟨a2, c2, rfl, hb2⟩ := hr2.shape
  have hS0 := RdSt.new (Hx1.out.trans hx2) ((hx2.blk (blk_lt HC1.out) id).trans HC1.out) hb2
  obtain ⟨l1, e1⟩ := s1
  simp only at hS0 I2 ⊢
  clear hr2 hb2 hx2 hcv Hx1 HC1 I1
  go_upto_region 2 with fail
  obtain ⟨w3, hw3⟩ : ∃ w3, w3 = w2.alloc (.cells #[.slice a2 l1.length c2, .int .i64 e1] 97) := ⟨_, rfl⟩
  rw [← hw3] at hS0 ⊢
  generalize w2.heap.size = R at *
  have HS1 := Lib.hid hS0
  clear hw3 hS0
  have hv := HS1.out.value
  simp only at hv
  obtain ⟨y0, y1⟩ := box2 HS1.out.r
  simp only at y1
  have hltR := blk_lt HS1.out.r
  have hc2 := I2.out _ _ hv
  have Hc2 := Lib.hid hc2
  clear hv hc2 I2
  go_wp2_with fail
  refine Hc2.out.mono ?_
  rintro r w4 ⟨v3, rfl, hr, hx⟩
  obtain ⟨a3, c3, rfl, hb⟩ := hr.shape
  have hk := HS1.out.keep hx
  have hS := HS1.out.put hx hb
  clear y0 y1 hltR
  obtain ⟨y0, y1⟩ := box2 hk.r
  simp only at y1
  have g0 := free_of_cells hk.r 0
  have g1 := free_of_cells hk.r 1
  have hltR := blk_lt hk.r
  unfold set2 at hS
  obtain ⟨l2, e2⟩ := s2
  simp only at hS I3 ⊢
  have HS2 := Lib.hid hS
  clear hr hb hx hk hS HS1 Hc2
  go_upto_region 3 with fail
  clear y0 y1 g0 g1 hltR
  generalize (w4.setCell ⟨R, 0, none⟩ (.slice a3 l2.length c3)).setCell ⟨R, 1, none⟩ (.int .i64 e2) = w4' at *
  have hv := HS2.out.value
  simp only at hv
  obtain ⟨y0, y1⟩ := box2 HS2.out.r
  simp only at y1
  have hltR := blk_lt HS2.out.r
  have hc3 := I3.out _ _ hv
  have Hc3 := Lib.hid hc3
  clear hv hc3 I3
  go_wp2_with fail
  refine Hc3.out.mono ?_
  rintro r w5 ⟨v4, rfl, hr, hx⟩
  obtain ⟨a4, c4, rfl, hb⟩ := hr.shape
  have hk := HS2.out.keep hx
  have hS := HS2.out.put hx hb
  clear y0 y1 hltR
  obtain ⟨y0, y1⟩ := box2 hk.r
  simp only at y1
  have g0 := free_of_cells hk.r 0
  have g1 := free_of_cells hk.r 1
  have hltR := blk_lt hk.r
  unfold set2 at hS
  obtain ⟨l3, e3⟩ := s3
  simp only at hS I4 ⊢
  have HS3 := Lib.hid hS
  clear hr hb hx hk hS HS2 Hc3
  go_upto_region 4 with fail
  clear y0 y1 g0 g1 hltR
  generalize (w5.setCell ⟨R, 0, none⟩ (.slice a4 l3.length c4)).setCell ⟨R, 1, none⟩ (.int .i64 e3) = w5' at *
  have hv := HS3.out.value
  simp only at hv
  obtain ⟨y0, y1⟩ := box2 HS3.out.r
  simp only at y1
  have hltR := blk_lt HS3.out.r
  have hc4 := I4.out _ _ hv
  have Hc4 := Lib.hid hc4
  clear hv hc4 I4
  go_wp2_with fail
  refine Hc4.out.mono ?_
  rintro r w6 ⟨v5, rfl, hr, hx⟩
  obtain ⟨a5, c5, rfl, hb⟩ := hr.shape
  have hk := HS3.out.keep hx
  have hS := HS3.out.put hx hb
  clear y0 y1 hltR
  obtain ⟨y0, y1⟩ := box2 hk.r
  simp only at y1
  have g0 := free_of_cells hk.r 0
  have g1 := free_of_cells hk.r 1
  have hltR := blk_lt hk.r
  unfold set2 at hS
  obtain ⟨l4, e4⟩ := s4
  simp only at hS I5 ⊢
  have HS4 := Lib.hid hS
  clear hr hb hx hk hS HS3 Hc4
  go_upto_region 5 with fail
  clear y0 y1 g0 g1 hltR
  generalize (w6.setCell ⟨R, 0, none⟩ (.slice a5 l4.length c5)).setCell ⟨R, 1, none⟩ (.int .i64 e4) = w6' at *
  generalize (⟨tl.toArray⟩ : ByteArray) = t at *
  have hv := HS4.out.value
  simp only at hv
  obtain ⟨y0, y1⟩ := box2 HS4.out.r
  simp only at y1
  have hltR := blk_lt HS4.out.r
  have hend := I5.out _ _ hv
  have Hend := Lib.hid hend
  clear hv hend I5
  have Hmod := Lib.hid (rfl : endM (⟨l4, e4⟩ : RS) = endM ⟨l4, e4⟩)
  generalize hen : endM (⟨l4, e4⟩ : RS) = en at Hend
  go_wp2_with fail
  refine Hend.out.mono ?_
  rintro r w9 ⟨rfl, hx9⟩
  have hk := HS4.out.keep hx9
  clear y0 y1 hltR
  obtain ⟨x0, x1, x2, x3⟩ := box4 hk.c
  have g0 := free_of_cells hk.c 0
  have g1 := free_of_cells hk.c 1
  have g2 := free_of_cells hk.c 2
  have g3 := free_of_cells hk.c 3
  have hltC := blk_lt hk.c
  have Hk := Lib.hid hk
  clear hx9 hk HS4 Hend Hmod
  by_cases he : en = 0
  · subst he
    have hq := set4_done Hk.out.c (.int .i64 k) (.string t) (.int .i64 v) (.int .i64 o)
    obtain ⟨z0, z1, z2, z3⟩ := box4 hq.1
    have hfin : RDecOpPost w (⟨k, t, v, o⟩, ⟨l4, e4⟩) (.returned (.tuple #[.agg #[.int .i64 k, .string t, .int .i64 v, .int .i64 o], .bool true])) (set4 w9 w.heap.size (.int .i64 k) (.string t) (.int .i64 v) (.int .i64 o)) :=
      ⟨Hk.out.ext.trans' hq.2 (fun k hk (e : k = w.heap.size) => absurd hk (by omega)), .inl ⟨hen, rfl⟩⟩
    have Hfin := Lib.hid (And.intro hq.1 hfin)
    unfold set4 at Hfin
    clear hq hfin hen z0 z1 z2 z3
    go_wp2
    obtain ⟨hq, hfin⟩ := Hfin.out
    obtain ⟨z0, z1, z2, z3⟩ := box4 hq
    exact bodyPost_ret (v := .tuple #[.agg #[.int .i64 k, .string t, .int .i64 v, .int .i64 o], .bool true]) (by simp [results, Try.results31, go_sem, z0, z1, z2, z3]) rfl hfin
  · have he' : (en == 0) = false := by simpa using he
    have hq := set4_done Hk.out.c (.int .i64 0) (.string { data := #[] }) (.int .i64 0) (.int .i64 0)
    have hfin : RDecOpPost w (⟨k, t, v, o⟩, ⟨l4, e4⟩) (.returned (.tuple #[.agg #[.int .i64 0, .string { data := #[] }, .int .i64 0, .int .i64 0], .bool false])) (set4 w9 w.heap.size (.int .i64 0) (.string { data := #[] }) (.int .i64 0) (.int .i64 0)) :=
      ⟨Hk.out.ext.trans' hq.2 (fun k hk (e : k = w.heap.size) => absurd hk (by omega)), .inr ⟨by rw [hen]; exact he, rfl⟩⟩
    have Hfin := Lib.hid (And.intro hq.1 hfin)
    unfold set4 at Hfin
    clear hq hfin hen he
    go_wp2
    obtain ⟨hq, hfin⟩ := Hfin.out
    obtain ⟨z0, z1, z2, z3⟩ := box4 hq
    exact bodyPost_ret (v := .tuple #[.agg #[.int .i64 0, .string { data := #[] }, .int .i64 0, .int .i64 0], .bool false]) (by simp [results, Try.results31, go_sem, z0, z1, z2, z3]) rfl hfin
end Go.Proofs.Ythipbmppmgkklaa
