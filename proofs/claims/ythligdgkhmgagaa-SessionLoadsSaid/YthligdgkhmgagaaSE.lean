/-
  Package session: Note at a new generation; Note. Conditions: none beyond IsTable.
-/
import Derived.Test.YthligdgkhmgagaaSD
namespace Go.Proofs.Ythligdgkhmgagaa
open Go.RowKit Go.MapKept
open Go.ChangeMaps (setBlock)

set_option maxRecDepth 100000 in
set_option maxHeartbeats 1000000 in
theorem note_high (w : World) (tb cb sb : Nat) (T : Tbl) (hs : IsTable w tb cb sb T) (g s c : Int) (h : inB g s = true) (h1 : T.gen < g) :
    Calls Try.prog 19 #[.pointer (some ⟨tb, 0, none⟩), .int .i64 g, .int .i64 s, .int .i64 c] w (NotePost w tb cb sb (noteM T g s c)) := by
  obtain ⟨hA, hN⟩ := noteM_high (c := c) h h1
  have hadm := admin_any w tb cb sb T hs g s
  rw [hA] at hadm
  rw [hN]
  have Hin := Lib.hid (fun g cap W a b => in_yes h g cap W a b)
  have Hs := Lib.hid hs
  have Hadm := Lib.hid hadm
  have hmm := @run_makeMap Try.prog
  clear hA hN hadm hs h
  go_enter Try.func19, Try.ntmps19
  go_wp2_with fail
  refine Hadm.out.mono ?_
  rintro r w1 ⟨rfl, hx1⟩
  have Hx1 := Lib.hid hx1
  have hc0 := cell_of_cells (Hs.out.keep hx1).1 0
  have hc1 := cell_of_cells (Hs.out.keep hx1).1 1
  have hc2 := cell_of_cells (Hs.out.keep hx1).1 2
  have hf := free_of_cells (Hs.out.keep hx1).1
  have hf1 := hf 1
  have hf2 := hf 2
  simp at hc0 hc1 hc2
  obtain ⟨ht, _⟩ := (Hs.out.keep hx1).lt
  generalize T.gen = G at *
  clear hx1
  go_wp2_with fail
  obtain ⟨es', clock', hup, hl', hst'⟩ := run_update_int (P := Try.prog) (b := w1.heap.size) (clock := 0) (es := #[]) (l := []) Try.underlying58 Try.underlying3 rfl (stamped_empty 0) s (codeV c)
  have hup' := hup (((w1.setCell ⟨tb, 1, none⟩ (.int .i64 g)).setCell ⟨tb, 2, none⟩ (.map (some w1.heap.size))).alloc (.map #[] 0)) (by simpa using blk_alloc_at ((w1.setCell ⟨tb, 1, none⟩ (.int .i64 g)).setCell ⟨tb, 2, none⟩ (.map (some w1.heap.size))) (.map #[] 0))
  simp only [codeV] at hup'
  rw [hup']
  have hl2 : IntMap es' (imap codeV [(s, c)]) := hl'
  have Hl := Lib.hid (And.intro hl2 hst')
  clear hup hup' hl' hst' hl2 hmm hc0 hc1 hc2 hf1 hf2 hf
  obtain ⟨w2, hw2⟩ : ∃ w2, w2 = ((w1.setCell ⟨tb, 1, none⟩ (.int .i64 g)).setCell ⟨tb, 2, none⟩ (.map (some w1.heap.size))).alloc (.map #[] 0) := ⟨_, rfl⟩
  rw [← hw2]
  have Hw2 := Lib.hid hw2
  clear hw2
  go_wp2
  go_ret
  have hs1 := Hs.out.keep Hx1.out
  have hw2 := Hw2.out
  have hne := hs1.ne
  obtain ⟨_, hcb1, hsb1⟩ := hs1.lt
  have hx2 : Ext (fun k => k = tb) w1 w2 := by
    rw [hw2]
    exact (((Ext.refl (fun k => k = tb) w1).setCell (p := ⟨tb, 1, none⟩) _ (fun _ => rfl)).setCell (p := ⟨tb, 2, none⟩) _ (fun _ => rfl)).alloc _
  have hb2 : blk w2 w1.heap.size = some (.map #[] 0) := by
    rw [hw2]
    simpa using blk_alloc_at ((w1.setCell ⟨tb, 1, none⟩ (.int .i64 g)).setCell ⟨tb, 2, none⟩ (.map (some w1.heap.size))) (.map #[] 0)
  have ht2 : blk w2 tb = some (.cells #[.map (some cb), .int .i64 g, .map (some w1.heap.size)] 60 (0, 0)) := by
    rw [hw2, blk_alloc_past _ _ _ (by simpa using ht)]
    simpa using blk_setCell_same (blk_setCell_same hs1.1 1 (.int .i64 g)) 2 (.map (some w1.heap.size))
  have hx3 : Ext (fun k => k = w1.heap.size) w2 (setBlock w2 w1.heap.size (.map es' clock')) := (Ext.refl _ w2).setBlock _ _ (fun _ => rfl)
  refine ⟨w1.heap.size, rfl, ⟨(hx3.blk (blk_lt ht2) (by omega)).trans ht2, (hs1.2.1.ext hx2 (fun e => hne.1 e.symm)).ext hx3 (by omega), ⟨es', clock', blk_setBlock_same hb2 _, Hl.out⟩, by omega⟩, ?_, .inr Hx1.out.size⟩
  have hx4 : Ext (fun k => k = tb) w1 (setBlock w2 w1.heap.size (.map es' clock')) := hx2.trans' hx3 (fun k hk e => by omega)
  exact (ext_any Hx1.out _).trans (hx4.mono (fun k _ e => .inl e))
theorem note_any (w : World) (tb cb sb : Nat) (T : Tbl) (hs : IsTable w tb cb sb T) (g s c : Int) :
    Calls Try.prog 19 #[.pointer (some ⟨tb, 0, none⟩), .int .i64 g, .int .i64 s, .int .i64 c] w (NotePost w tb cb sb (noteM T g s c)) := by
  cases h : inB g s with
  | false => exact note_bad w tb cb sb T hs g s c h
  | true =>
    rcases Int.lt_trichotomy g T.gen with h1 | h1 | h1
    · exact note_low w tb cb sb T hs g s c h h1
    · exact note_same w tb cb sb T hs g s c h h1.symm
    · exact note_high w tb cb sb T hs g s c h h1
end Go.Proofs.Ythligdgkhmgagaa
