/-
  Package session: Answer, Note answer and change the table as the model says. Conditions: none beyond IsTable.
-/
import Derived.Test.YthligdgkhmgagaaSC
namespace Go.Proofs.Ythligdgkhmgagaa
open Go.RowKit Go.MapKept
open Go.ChangeMaps (setBlock)

/-- the post of Answer: the clients' map alone has turned -/
def AnsPost (w : World) (tb cb sb : Nat) (p : Tbl × Int) (r : Ending) (w' : World) : Prop :=
  r = .returned (.int .i64 p.2) ∧ IsTable w' tb cb sb p.1 ∧ Ext (fun k => k = cb) w w'
set_option maxRecDepth 100000 in
set_option maxHeartbeats 1000000 in
theorem answer_any (w : World) (tb cb sb : Nat) (T : Tbl) (hs : IsTable w tb cb sb T) (c n : Int) (s : ByteArray) :
    Calls Try.prog 11 #[.pointer (some ⟨tb, 0, none⟩), .int .i64 c, .int .i64 n, .string s] w (AnsPost w tb cb sb (answerM T c n s)) := by
  have ⟨hc, ⟨es, clock, hb, hl, hst⟩, _⟩ := hs
  have hlk := lookup_clients1 (cb := cb) (clock := clock) hl c
  obtain ⟨es', clock', hup, hl', hst'⟩ := run_update_int (P := Try.prog) (b := cb) (clock := clock) Try.underlying57 Try.underlying3 hl hst c (Ans.v ⟨n, s⟩)
  rw [iput_imap] at hl'
  obtain ⟨ht, hcb, _⟩ := hs.lt
  obtain ⟨f0, f1, f2, f3, f4, f5⟩ := ne_sizes hcb
  obtain ⟨g1, g2, g3, _⟩ := lt_sizes ht
  have hc0 := cell_of_cells hc 0
  simp at hc0
  have hfd := field_ans
  have hM := lastM_eq T c
  have hne := hs.ne
  have hput : ∀ (w5 : World), w5 = setBlock (w.alloc (.cells #[.int .i64 c, .int .i64 n] 3)) cb (.map es' clock') → IsTable w5 tb cb sb ⟨iput T.cl c ⟨n, s⟩, T.gen, T.st⟩ ∧ Ext (fun k => k = cb) w w5 := fun w5 e => by
    subst e
    have hx : Ext (fun k => k = cb) w (setBlock (w.alloc (.cells #[.int .i64 c, .int .i64 n] 3)) cb (.map es' clock')) := ((Ext.refl _ w).alloc _).setBlock _ _ (fun _ => rfl)
    have hbm : blk (w.alloc (.cells #[.int .i64 c, .int .i64 n] 3)) cb = some (.map es clock) := (blk_alloc_past _ _ _ hcb).trans hb
    exact ⟨⟨(hx.blk ht (hne.1)).trans hc, ⟨es', clock', blk_setBlock_same hbm _, hl', hst'⟩, hs.2.2.1.ext hx (fun e => hne.2.2 e.symm), hs.2.2.2⟩, hx⟩
  have Hput := Lib.hid hput
  have Hs := Lib.hid hs
  clear hc hl hst hl' hst' hs hput hne
  generalize (iget T.cl c).getD ⟨0, .empty⟩ = x at *
  obtain ⟨xn, xs⟩ := x
  simp only [Ans.v] at hlk hup hM
  by_cases hin : inB c n = false
  · have hm : answerM T c n s = (T, 1) := by unfold answerM; rw [if_pos hin]
    have Hin := Lib.hid (fun g cap W a b => in_yes hin g cap W a b)
    rw [hm]
    clear hm hin hlk hup hM
    go_enter Try.func11, Try.ntmps11
    go_wp2_with fail
    refine (Hin.out _ _ _ (by simp) (by simp)).mono ?_
    rintro r w' ⟨rfl, hw⟩; obtain rfl := hw.symm
    go_wp2
    go_ret
    exact ⟨rfl, Hs.out.keep ((Ext.refl _ w).alloc _), (Ext.refl _ w).alloc _⟩
  · have hin' : inB c n = true := by simpa using hin
    have Hin := Lib.hid (fun g cap W a b => in_yes hin' g cap W a b)
    by_cases h1 : n ≤ xn
    · have hm : answerM T c n s = (T, 9) := by unfold answerM; rw [if_neg hin, hM, if_pos h1]
      rw [hm]
      clear hm hin hin' hup hM
      go_enter Try.func11, Try.ntmps11
      go_wp2_with fail
      refine (Hin.out _ _ _ (by simp) (by simp)).mono ?_
      rintro r w' ⟨rfl, hw⟩; obtain rfl := hw.symm
      go_wp2
      go_ret
      exact ⟨rfl, Hs.out.keep ((Ext.refl _ w).alloc _), (Ext.refl _ w).alloc _⟩
    · have hm : answerM T c n s = (⟨iput T.cl c ⟨n, s⟩, T.gen, T.st⟩, 0) := by unfold answerM; rw [if_neg hin, hM, if_neg h1]
      rw [hm]
      clear hm hin hin' hM
      go_enter Try.func11, Try.ntmps11
      go_wp2_with fail
      refine (Hin.out _ _ _ (by simp) (by simp)).mono ?_
      rintro r w' ⟨rfl, hw⟩; obtain rfl := hw.symm
      go_wp2
      go_ret
      obtain ⟨a, b⟩ := Hput.out _ rfl
      exact ⟨rfl, a, b⟩
/-- the post of Note: the table's block and the steps' map have turned; the steps may lie in a new map -/
def NotePost (w : World) (tb cb sb : Nat) (p : Tbl × Int) (r : Ending) (w' : World) : Prop :=
  ∃ sb', r = .returned (.int .i64 p.2) ∧ IsTable w' tb cb sb' p.1 ∧ Ext (fun k => k = tb ∨ k = sb) w w' ∧ (sb' = sb ∨ w.heap.size ≤ sb')
theorem noteM_bad {T : Tbl} {g s c : Int} (h : inB g s = false) : adminM T g s = (1, true) ∧ noteM T g s c = (T, 1) := by
  unfold adminM noteM; rw [if_pos h, if_pos h]; exact ⟨rfl, rfl⟩
theorem noteM_low {T : Tbl} {g s c : Int} (h : inB g s = true) (h1 : g < T.gen) : adminM T g s = (12, true) ∧ noteM T g s c = (T, 12) := by
  simp [adminM, noteM, h, h1]
theorem noteM_high {T : Tbl} {g s c : Int} (h : inB g s = true) (h1 : T.gen < g) : adminM T g s = (0, false) ∧ noteM T g s c = (⟨T.cl, g, [(s, c)]⟩, 0) := by
  have : ¬ g < T.gen := by omega
  simp [adminM, noteM, h, h1, this]
theorem noteM_same {T : Tbl} {g s c : Int} (h : inB g s = true) (h1 : T.gen = g) : adminM T g s = ((iget T.st s).getD 0, (iget T.st s).isSome) ∧ noteM T g s c = if (iget T.st s).isSome = true then (T, 5) else (⟨T.cl, T.gen, iput T.st s c⟩, 0) := by
  simp [adminM, noteM, h, h1]
theorem NotePost.stay {w w' : World} {tb cb sb : Nat} {T : Tbl} {c : Int} (hs : IsTable w tb cb sb T) (hx : Ext (fun _ => False) w w') : NotePost w tb cb sb (T, c) (.returned (.int .i64 c)) w' :=
  ⟨sb, rfl, hs.keep hx, ext_any hx _, .inl rfl⟩
set_option maxRecDepth 100000 in
set_option maxHeartbeats 1000000 in
theorem note_bad (w : World) (tb cb sb : Nat) (T : Tbl) (hs : IsTable w tb cb sb T) (g s c : Int) (h : inB g s = false) :
    Calls Try.prog 19 #[.pointer (some ⟨tb, 0, none⟩), .int .i64 g, .int .i64 s, .int .i64 c] w (NotePost w tb cb sb (noteM T g s c)) := by
  obtain ⟨hA, hN⟩ := noteM_bad (T := T) (c := c) h
  have hadm := admin_any w tb cb sb T hs g s
  rw [hA] at hadm
  rw [hN]
  have Hin := Lib.hid (fun g cap W a b => in_yes h g cap W a b)
  have Hs := Lib.hid hs
  have Hadm := Lib.hid hadm
  clear hA hN hadm hs h
  go_enter Try.func19, Try.ntmps19
  go_wp2_with fail
  refine Hadm.out.mono ?_
  rintro r w1 ⟨rfl, hx1⟩
  have Hx1 := Lib.hid hx1
  clear hx1
  go_wp2_with fail
  refine (Hin.out _ _ _ (by simp) (by simp)).mono ?_
  rintro r w' ⟨rfl, hw⟩; obtain rfl := hw.symm
  go_wp2
  go_ret
  exact NotePost.stay Hs.out (Hx1.out.alloc _)
set_option maxRecDepth 100000 in
set_option maxHeartbeats 1000000 in
theorem note_low (w : World) (tb cb sb : Nat) (T : Tbl) (hs : IsTable w tb cb sb T) (g s c : Int) (h : inB g s = true) (h1 : g < T.gen) :
    Calls Try.prog 19 #[.pointer (some ⟨tb, 0, none⟩), .int .i64 g, .int .i64 s, .int .i64 c] w (NotePost w tb cb sb (noteM T g s c)) := by
  obtain ⟨hA, hN⟩ := noteM_low (c := c) h h1
  have hadm := admin_any w tb cb sb T hs g s
  rw [hA] at hadm
  rw [hN]
  have Hin := Lib.hid (fun g cap W a b => in_yes h g cap W a b)
  have Hs := Lib.hid hs
  have Hadm := Lib.hid hadm
  clear hA hN hadm hs h
  go_enter Try.func19, Try.ntmps19
  go_wp2_with fail
  refine Hadm.out.mono ?_
  rintro r w1 ⟨rfl, hx1⟩
  have Hx1 := Lib.hid hx1
  have hc1 := cell_of_cells (Hs.out.keep hx1).1 1
  simp at hc1
  obtain ⟨ht, _⟩ := (Hs.out.keep hx1).lt
  generalize T.gen = G at *
  clear hx1
  go_wp2_with fail
  refine (Hin.out _ _ _ (by simp) (by simp)).mono ?_
  rintro r w' ⟨rfl, hw⟩; obtain rfl := hw.symm
  go_wp2
  go_ret
  exact NotePost.stay Hs.out (Hx1.out.alloc _)
set_option maxRecDepth 100000 in
set_option maxHeartbeats 1000000 in
theorem note_same (w : World) (tb cb sb : Nat) (T : Tbl) (hs : IsTable w tb cb sb T) (g s c : Int) (h : inB g s = true) (h1 : T.gen = g) :
    Calls Try.prog 19 #[.pointer (some ⟨tb, 0, none⟩), .int .i64 g, .int .i64 s, .int .i64 c] w (NotePost w tb cb sb (noteM T g s c)) := by
  obtain ⟨hA, hN⟩ := noteM_same (s := s) (c := c) h h1
  have hadm := admin_any w tb cb sb T hs g s
  rw [hA] at hadm
  rw [hN]
  have Hin := Lib.hid (fun g cap W a b => in_yes h g cap W a b)
  have Hs := Lib.hid hs
  have Hadm := Lib.hid hadm
  generalize (iget T.st s).getD 0 = A at *
  have H1 := Lib.hid h1
  clear hA hN hadm h h1
  cases hB : (iget T.st s).isSome with
  | true =>
    rw [hB] at Hadm
    rw [if_pos rfl]
    clear hs hB
    go_enter Try.func19, Try.ntmps19
    go_wp2_with fail
    refine Hadm.out.mono ?_
    rintro r w1 ⟨rfl, hx1⟩
    have Hx1 := Lib.hid hx1
    have hc1 := cell_of_cells (Hs.out.keep hx1).1 1
    rw [H1.out] at hc1
    simp at hc1
    obtain ⟨ht, _⟩ := (Hs.out.keep hx1).lt
    clear hx1 H1
    go_wp2_with fail
    refine (Hin.out _ _ _ (by simp) (by simp)).mono ?_
    rintro r w' ⟨rfl, hw⟩; obtain rfl := hw.symm
    go_wp2
    go_ret
    exact NotePost.stay Hs.out (Hx1.out.alloc _)
  | false =>
    rw [hB] at Hadm
    rw [if_neg (by simp)]
    have ⟨hc, hcl, ⟨es, clock, hb, hl, hst⟩, hcs⟩ := hs
    obtain ⟨es', clock', hup, hl', hst'⟩ := run_update_int (P := Try.prog) (b := sb) (clock := clock) Try.underlying58 Try.underlying3 hl hst s (codeV c)
    rw [iput_imap] at hl'
    have Hl' := Lib.hid (And.intro hl' hst')
    have Hb := Lib.hid hb
    clear hs hB hc hcl hb hl hst hcs hl' hst'
    simp only [codeV] at hup
    go_enter Try.func19, Try.ntmps19
    go_wp2_with fail
    refine Hadm.out.mono ?_
    rintro r w1 ⟨rfl, hx1⟩
    have hs1 := Hs.out.keep hx1
    have hc1 := cell_of_cells hs1.1 1
    have hc2 := cell_of_cells hs1.1 2
    rw [H1.out] at hc1
    simp at hc1 hc2
    obtain ⟨ht, _, _⟩ := hs1.lt
    have hb1 : blk w1 sb = some (.map es clock) := (hx1.blk (blk_lt Hb.out) id).trans Hb.out
    have hsz := blk_lt hb1
    have Hx1 := Lib.hid hx1
    have Hs1 := Lib.hid hs1
    clear hx1 hs1 Hs Hb H1 hsz
    go_wp2
    go_ret
    have hne := Hs1.out.ne
    have hx2 : Ext (fun k => k = sb) w1 (setBlock w1 sb (.map es' clock')) := (Ext.refl _ w1).setBlock _ _ (fun _ => rfl)
    refine ⟨sb, rfl, ⟨(hx2.blk ht hne.2.1).trans Hs1.out.1, Hs1.out.2.1.ext hx2 hne.2.2, ⟨es', clock', blk_setBlock_same hb1 _, Hl'.out⟩, hne.2.2⟩, ?_, .inl rfl⟩
    exact (ext_any Hx1.out _).trans (hx2.mono (fun k _ e => .inr e) |>.mono (fun k _ e => e)) |>.mono (fun k _ e => e)
end Go.Proofs.Ythligdgkhmgagaa
