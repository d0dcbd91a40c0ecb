/-
  Package store: Do returns what the model says, for every operation. Conditions: as IsStore says.
-/
import Derived.Test.YthipbmppmgkklaaTC
namespace Go.Proofs.Ythipbmppmgkklaa
open Go.RowKit Go.MapKept
open Go.ChangeMaps (setBlock)

set_option maxRecDepth 100000 in
set_option maxHeartbeats 2000000 in
theorem do_err (w : World) (sb mb : Nat) (m : KM) (xk : Int) (key : ByteArray) (xv xo : Int) (ok : Bool) (u : Value) (hbad : ok = true → (key.size : Int) < 1 ∨ 31 < (key.size : Int)) (hlt : sb < w.heap.size ∧ mb < w.heap.size) (hs : IsStore w sb mb m)
    (hk : (ok = false ∧ u = .nilFunc ∧ Instr.findNow (.int .i64) (.int .i64 xk) opMap.toList 0 = some none) ∨ (ok = true ∧ ∃ j, Instr.findNow (.int .i64) (.int .i64 xk) opMap.toList 0 = some (some (j, u)))) :
    Calls Try.prog 13 #[.pointer (some ⟨sb, 0, none⟩), .agg #[.int .i64 xk, .string key, .int .i64 xv, .int .i64 xo]] w (OpPost w sb mb (m, ⟨1, false, 0⟩)) := by
  have hmm := @run_makeMap Try.prog
  have Hs := Lib.hid hs
  have Hk := Lib.hid hk
  have Hbad := Lib.hid hbad
  clear hs hk hbad
  go_enter Try.func13, Try.ntmps13
  go_wp2_with fail
  have h0 := DoPre.start w xk key xv xo
  generalize (((w.alloc (.cells #[.int .i64 xk, .string key, .int .i64 xv, .int .i64 xo] 24)).alloc (.cells #[.int .i64 0, .bool false, .int .i64 0] 31)).alloc (.map #[] 0)) = w3 at *
  rw [run_update_to Try.underlying73 Try.underlying3 h0.hb 0 _ rfl #[⟨.int .i64 0, opFn 34, 0⟩] 1 rfl rfl]
  have h1 := h0.step #[⟨.int .i64 0, opFn 34, 0⟩] 1
  generalize setBlock w3 (w.heap.size + 1 + 1) (.map #[⟨.int .i64 0, opFn 34, 0⟩] 1) = w4 at h1 ⊢
  clear h0
  go_wp2_with fail
  rw [run_update_to Try.underlying73 Try.underlying3 h1.hb 1 _ rfl #[⟨.int .i64 0, opFn 34, 0⟩, ⟨.int .i64 1, opFn 35, 1⟩] 2 rfl rfl]
  have h2 := h1.step #[⟨.int .i64 0, opFn 34, 0⟩, ⟨.int .i64 1, opFn 35, 1⟩] 2
  generalize setBlock w4 (w.heap.size + 1 + 1) (.map #[⟨.int .i64 0, opFn 34, 0⟩, ⟨.int .i64 1, opFn 35, 1⟩] 2) = w5 at h2 ⊢
  clear h1
  go_wp2_with fail
  rw [run_update_to Try.underlying73 Try.underlying3 h2.hb 2 _ rfl #[⟨.int .i64 0, opFn 34, 0⟩, ⟨.int .i64 1, opFn 35, 1⟩, ⟨.int .i64 2, opFn 36, 2⟩] 3 rfl rfl]
  have h3 := h2.step #[⟨.int .i64 0, opFn 34, 0⟩, ⟨.int .i64 1, opFn 35, 1⟩, ⟨.int .i64 2, opFn 36, 2⟩] 3
  generalize setBlock w5 (w.heap.size + 1 + 1) (.map #[⟨.int .i64 0, opFn 34, 0⟩, ⟨.int .i64 1, opFn 35, 1⟩, ⟨.int .i64 2, opFn 36, 2⟩] 3) = w6 at h3 ⊢
  clear h2
  go_wp2_with fail
  rw [run_update_to Try.underlying73 Try.underlying3 h3.hb 3 _ rfl #[⟨.int .i64 0, opFn 34, 0⟩, ⟨.int .i64 1, opFn 35, 1⟩, ⟨.int .i64 2, opFn 36, 2⟩, ⟨.int .i64 3, opFn 37, 3⟩] 4 rfl rfl]
  have h4 := h3.step #[⟨.int .i64 0, opFn 34, 0⟩, ⟨.int .i64 1, opFn 35, 1⟩, ⟨.int .i64 2, opFn 36, 2⟩, ⟨.int .i64 3, opFn 37, 3⟩] 4
  generalize setBlock w6 (w.heap.size + 1 + 1) (.map #[⟨.int .i64 0, opFn 34, 0⟩, ⟨.int .i64 1, opFn 35, 1⟩, ⟨.int .i64 2, opFn 36, 2⟩, ⟨.int .i64 3, opFn 37, 3⟩] 4) = w7 at h4 ⊢
  clear h3
  have hlk : (Instr.lookup 73 (.map (some (w.heap.size + 1 + 1))) (.int .i64 xk) true).run Try.prog w7 = .ok (.tuple #[u, .bool ok]) w7 := by
    rcases Hk.out with ⟨rfl, rfl, hf⟩ | ⟨rfl, j, hf⟩
    · exact run_lookup_absent Try.underlying73 Try.underlying3 h4.hb xk (zeroDo _) hf
    · exact run_lookup_found Try.underlying73 Try.underlying3 h4.hb xk hf
  have p0 : w7.cell? ⟨w.heap.size, 0, none⟩ = some (.int .i64 xk) := by simpa using cell_of_cells h4.q0 0
  have p1 : w7.cell? ⟨w.heap.size, 1, none⟩ = some (.string key) := by simpa using cell_of_cells h4.q0 1
  obtain ⟨c0, c1, c2, f0, f1, f2⟩ := tail_reads h4.q1
  obtain ⟨d0, d1, d2, hx9⟩ := tail_done h4.q1 (.int .i64 1) (.bool false) (.int .i64 0)
  have HP : Hid (OpPost w sb mb (m, ⟨1, false, 0⟩) (.returned (Rs.val ⟨1, false, 0⟩)) (set3 w7 (w.heap.size + 1) (.int .i64 1) (.bool false) (.int .i64 0))) := Lib.hid (tail_post (p := (m, ⟨1, false, 0⟩)) (W := w7) hlt h4.hW (Ext.refl _ _) (Hs.out.ext h4.hW id id) (by omega) hx9)
  have hlt7 := blk_lt h4.q1
  have D := Lib.hid (And.intro d0 (And.intro d1 d2))
  clear h4 w3 w4 w5 w6 hx9 d0 d1 d2
  have fin : ∀ w9, w9 = set3 w7 (w.heap.size + 1) (.int .i64 1) (.bool false) (.int .i64 0) → (w9.cell? ⟨w.heap.size + 1, 0, none⟩ = some (.int .i64 1) ∧ w9.cell? ⟨w.heap.size + 1, 1, none⟩ = some (.bool false) ∧ w9.cell? ⟨w.heap.size + 1, 2, none⟩ = some (.int .i64 0)) ∧ OpPost w sb mb (m, ⟨1, false, 0⟩) (.returned (Rs.val ⟨1, false, 0⟩)) w9 := fun w9 e => by subst e; exact ⟨D.out, HP.out⟩
  have Fin := Lib.hid fin
  clear fin D HP
  cases ok with
  | false =>
    clear Hbad Hk
    go_wp2
    clear c0 c1 c2 f0 f1 f2
    have fin := Fin.out _ rfl
    unfold set3 at fin
    generalize ((w7.setCell ⟨w.heap.size + 1, 0, none⟩ (.int .i64 1)).setCell ⟨w.heap.size + 1, 1, none⟩ (.bool false)).setCell ⟨w.heap.size + 1, 2, none⟩ (.int .i64 0) = w9 at *
    obtain ⟨⟨d0, d1, d2⟩, HP⟩ := fin
    exact bodyPost_ret (v := .agg #[.int .i64 1, .bool false, .int .i64 0]) (by simp [results, Try.results13, go_sem, d0, d1, d2]) rfl HP
  | true =>
    clear Hk
    rcases Hbad.out rfl with hz | hz
    all_goals
      clear Hbad
      go_wp2
      clear c0 c1 c2 f0 f1 f2
      have fin := Fin.out _ rfl
      unfold set3 at fin
      generalize ((w7.setCell ⟨w.heap.size + 1, 0, none⟩ (.int .i64 1)).setCell ⟨w.heap.size + 1, 1, none⟩ (.bool false)).setCell ⟨w.heap.size + 1, 2, none⟩ (.int .i64 0) = w9 at *
      obtain ⟨⟨d0, d1, d2⟩, HP⟩ := fin
      exact bodyPost_ret (v := .agg #[.int .i64 1, .bool false, .int .i64 0]) (by simp [results, Try.results13, go_sem, d0, d1, d2]) rfl HP
theorem do_any (w : World) (sb mb : Nat) (m : KM) (hs : IsStore w sb mb m) (hm : m.length ≤ 1000000) (x : OpV) (hsz : x.key.size ≤ 9223372036854775807) :
    Calls Try.prog 13 #[.pointer (some ⟨sb, 0, none⟩), x.val] w (OpPost w sb mb (doM m x)) := by
  obtain ⟨xk, key, xv, xo⟩ := x
  have hlt := hs.lt
  show Calls Try.prog 13 #[.pointer (some ⟨sb, 0, none⟩), .agg #[.int .i64 xk, .string key, .int .i64 xv, .int .i64 xo]] w _
  simp only at hsz
  have hfind : Instr.findNow (.int .i64) (.int .i64 xk) opMap.toList 0 = some (if xk = 0 then some (0, opFn 34) else if xk = 1 then some (1, opFn 35) else if xk = 2 then some (2, opFn 36) else if xk = 3 then some (3, opFn 37) else none) := by
    by_cases h0 : xk = 0
    · subst h0; rfl
    by_cases h1 : xk = 1
    · subst h1; rfl
    by_cases h2 : xk = 2
    · subst h2; rfl
    by_cases h3 : xk = 3
    · subst h3; rfl
    · have b0 : (xk == 0) = false := beq_eq_false_iff_ne.2 h0
      have b1 : (xk == 1) = false := beq_eq_false_iff_ne.2 h1
      have b2 : (xk == 2) = false := beq_eq_false_iff_ne.2 h2
      have b3 : (xk == 3) = false := beq_eq_false_iff_ne.2 h3
      simp [Instr.findNow, Instr.sameNow, b0, b1, b2, b3, h0, h1, h2, h3]
  by_cases hbad : key.size < 1 ∨ 31 < key.size
  · have e : doM m ⟨xk, key, xv, xo⟩ = (m, ⟨1, false, 0⟩) := by unfold doM; rw [if_pos hbad]
    rw [e]
    by_cases hx : xk = 0 ∨ xk = 1 ∨ xk = 2 ∨ xk = 3
    · have : ∃ j u, Instr.findNow (.int .i64) (.int .i64 xk) opMap.toList 0 = some (some (j, u)) := by
        rw [hfind]
        rcases hx with rfl | rfl | rfl | rfl <;> exact ⟨_, _, rfl⟩
      obtain ⟨j, u, hu⟩ := this
      exact do_err w sb mb m xk key xv xo true u (fun _ => by omega) hlt hs (.inr ⟨rfl, j, hu⟩)
    · refine do_err w sb mb m xk key xv xo false .nilFunc (fun h => by cases h) hlt hs (.inl ⟨rfl, rfl, ?_⟩)
      rw [hfind, if_neg (by omega), if_neg (by omega), if_neg (by omega), if_neg (by omega)]
  · have e : doM m ⟨xk, key, xv, xo⟩ = if xk = 0 then getM m ⟨xk, key, xv, xo⟩ else if xk = 1 then putM m ⟨xk, key, xv, xo⟩ else if xk = 2 then casM m ⟨xk, key, xv, xo⟩ else if xk = 3 then addM m ⟨xk, key, xv, xo⟩ else (m, ⟨1, false, 0⟩) := by unfold doM; rw [if_neg hbad]
    rw [e]
    clear e
    by_cases h0 : xk = 0
    · subst h0; rw [if_pos rfl]
      exact do_get w sb mb m key xv xo (by omega) (by omega) hlt _ (fun W hW => get_any W sb mb m (hs.ext hW id id) ⟨0, key, xv, xo⟩)
    by_cases h1 : xk = 1
    · subst h1; rw [if_neg h0, if_pos rfl]
      exact do_put w sb mb m key xv xo (by omega) (by omega) hlt _ (fun W hW => put_any W sb mb m (hs.ext hW id id) hm ⟨1, key, xv, xo⟩)
    by_cases h2 : xk = 2
    · subst h2; rw [if_neg h0, if_neg h1, if_pos rfl]
      exact do_cas w sb mb m key xv xo (by omega) (by omega) hlt _ (fun W hW => cas_any W sb mb m (hs.ext hW id id) hm ⟨2, key, xv, xo⟩)
    by_cases h3 : xk = 3
    · subst h3; rw [if_neg h0, if_neg h1, if_neg h2, if_pos rfl]
      exact do_add w sb mb m key xv xo (by omega) (by omega) hlt _ (fun W hW => add_any W sb mb m (hs.ext hW id id) hm ⟨3, key, xv, xo⟩)
    · rw [if_neg h0, if_neg h1, if_neg h2, if_neg h3]
      refine do_err w sb mb m xk key xv xo false .nilFunc (fun h => by cases h) hlt hs (.inl ⟨rfl, rfl, ?_⟩)
      rw [hfind, if_neg h0, if_neg h1, if_neg h2, if_neg h3]
end Go.Proofs.Ythipbmppmgkklaa
