/-
  Package store: New, Do return what the model says. Conditions: as IsStore says.
-/
import Derived.Test.YthipbmppmgkklaaTB
namespace Go.Proofs.Ythipbmppmgkklaa
open Go.RowKit Go.MapKept
open Go.ChangeMaps (setBlock)

def doM (m : KM) (x : OpV) : KM × Rs :=
  if x.key.size < 1 ∨ 31 < x.key.size then (m, ⟨1, false, 0⟩) else
  if x.k = 0 then getM m x else if x.k = 1 then putM m x else if x.k = 2 then casM m x else if x.k = 3 then addM m x else (m, ⟨1, false, 0⟩)
set_option maxRecDepth 100000 in
set_option maxHeartbeats 1000000 in
theorem new_any (w : World) : Calls Try.prog 15 #[] w fun r w' => ∃ sb mb, r = .returned (.pointer (some ⟨sb, 0, none⟩)) ∧ IsStore w' sb mb [] ∧ Ext (fun _ => False) w w' ∧ w.heap.size ≤ sb ∧ w.heap.size ≤ mb := by
  have hmm := @run_makeMap Try.prog
  go_enter Try.func15, Try.ntmps15
  go_wp2
  go_ret
  refine ⟨w.heap.size + 1, w.heap.size, rfl, ⟨?_, #[], 0, ?_, rfl, stamped_empty 0⟩, ((Ext.refl _ w).alloc _).alloc _, by omega, by omega⟩
  · have := blk_alloc_at (w.alloc (.map #[] 0)) (.cells #[.map (some w.heap.size)] 78)
    simpa using this
  · rw [blk_alloc_past _ _ _ (by simp)]
    exact blk_alloc_at _ _
theorem run_update_new {P : Program} {t k e : TypeId} {w : World} {b : Nat} {es : Array MapEntry} {clock : Nat} (ht : P.underlying t = some (.map k e)) (hk : P.underlying k = some (.int .i64)) (hb : blk w b = some (.map es clock)) (s : Int) (u : Value)
    (hf : Instr.findNow (.int .i64) (.int .i64 s) es.toList 0 = some none) :
    (Instr.mapUpdate t (.map (some b)) (.int .i64 s) u).run P w = .ok () (setBlock w b (.map (es.push { key := .int .i64 s, val := u, born := clock }) (clock + 1))) := by
  simp [Instr.mapUpdate, run_underlying ht, MapKept.run_getObj_map hb, MapKept.run_checkKey hk (show IsKey (.int .i64) (.int .i64 s) from rfl), MapKept.run_findKey hk hf, Result.andThen, MapKept.run_setObj_map _ hb, ChangeMaps.setBlock]
theorem run_lookup_found {P : Program} {t k e : TypeId} {w : World} {b : Nat} {es : Array MapEntry} {clock : Nat} (ht : P.underlying t = some (.map k e)) (hk : P.underlying k = some (.int .i64)) (hb : blk w b = some (.map es clock)) (s : Int) {j : Nat} {u : Value}
    (hf : Instr.findNow (.int .i64) (.int .i64 s) es.toList 0 = some (some (j, u))) :
    (Instr.lookup t (.map (some b)) (.int .i64 s) true).run P w = .ok (.tuple #[u, .bool true]) w := by
  simp [Instr.lookup, run_underlying ht, MapKept.run_getObj_map hb, MapKept.run_checkKey hk (show IsKey (.int .i64) (.int .i64 s) from rfl), MapKept.run_findKey hk hf, Result.andThen]
theorem run_lookup_absent {P : Program} {t k e : TypeId} {w : World} {b : Nat} {es : Array MapEntry} {clock : Nat} (ht : P.underlying t = some (.map k e)) (hk : P.underlying k = some (.int .i64)) (hb : blk w b = some (.map es clock)) (s : Int) {z : Value}
    (hz : (zeroValue e).run P w = .ok z w) (hf : Instr.findNow (.int .i64) (.int .i64 s) es.toList 0 = some none) :
    (Instr.lookup t (.map (some b)) (.int .i64 s) true).run P w = .ok (.tuple #[z, .bool false]) w := by
  simp [Instr.lookup, run_underlying ht, MapKept.run_getObj_map hb, MapKept.run_checkKey hk (show IsKey (.int .i64) (.int .i64 s) from rfl), MapKept.run_findKey hk hf, Result.andThen, hz]
abbrev opFn (f : Nat) : Value := .func (.func f) #[] #[]
abbrev opMap : Array MapEntry := #[⟨.int .i64 0, opFn 34, 0⟩, ⟨.int .i64 1, opFn 35, 1⟩, ⟨.int .i64 2, opFn 36, 2⟩, ⟨.int .i64 3, opFn 37, 3⟩]
theorem zeroDo (w : World) : (zeroValue 71).run Try.prog w = .ok .nilFunc w := by kernel_rfl
theorem run_update_to {P : Program} {t k e : TypeId} {w : World} {b : Nat} {es : Array MapEntry} {clock : Nat} (ht : P.underlying t = some (.map k e)) (hk : P.underlying k = some (.int .i64)) (hb : blk w b = some (.map es clock)) (s : Int) (u : Value)
    (hf : Instr.findNow (.int .i64) (.int .i64 s) es.toList 0 = some none) (es' : Array MapEntry) (c' : Nat) (he : es.push { key := .int .i64 s, val := u, born := clock } = es') (hc : clock + 1 = c') :
    (Instr.mapUpdate t (.map (some b)) (.int .i64 s) u).run P w = .ok () (setBlock w b (.map es' c')) := by
  subst he hc; exact run_update_new ht hk hb s u hf
structure DoPre (w W : World) (xk : Int) (key : ByteArray) (xv xo : Int) (es : Array MapEntry) (cl : Nat) : Prop where
  q0 : blk W w.heap.size = some (.cells #[.int .i64 xk, .string key, .int .i64 xv, .int .i64 xo] 24 (0, 0))
  q1 : blk W (w.heap.size + 1) = some (.cells #[.int .i64 0, .bool false, .int .i64 0] 31 (0, 0))
  hb : blk W (w.heap.size + 1 + 1) = some (.map es cl)
  hW : Ext (fun _ => False) w W
theorem DoPre.start (w : World) (xk : Int) (key : ByteArray) (xv xo : Int) : DoPre w (((w.alloc (.cells #[.int .i64 xk, .string key, .int .i64 xv, .int .i64 xo] 24)).alloc (.cells #[.int .i64 0, .bool false, .int .i64 0] 31)).alloc (.map #[] 0)) xk key xv xo #[] 0 := by
  refine ⟨?_, ?_, ?_, (((Ext.refl _ w).alloc _).alloc _).alloc _⟩
  · rw [blk_alloc_past _ _ _ (by simp; omega), blk_alloc_past _ _ _ (by simp)]; exact blk_alloc_at _ _
  · rw [blk_alloc_past _ _ _ (by simp)]; exact (by simpa using blk_alloc_at (w.alloc (.cells #[.int .i64 xk, .string key, .int .i64 xv, .int .i64 xo] 24)) (.cells #[.int .i64 0, .bool false, .int .i64 0] 31))
  · exact (by simpa using blk_alloc_at ((w.alloc (.cells #[.int .i64 xk, .string key, .int .i64 xv, .int .i64 xo] 24)).alloc (.cells #[.int .i64 0, .bool false, .int .i64 0] 31)) (.map #[] 0))
theorem DoPre.step {w W : World} {xk : Int} {key : ByteArray} {xv xo : Int} {es : Array MapEntry} {cl : Nat} (h : DoPre w W xk key xv xo es cl) (es' : Array MapEntry) (cl' : Nat) :
    DoPre w (setBlock W (w.heap.size + 1 + 1) (.map es' cl')) xk key xv xo es' cl' :=
  ⟨(blk_setBlock_other _ _ _ _ (by omega)).trans h.q0, (blk_setBlock_other _ _ _ _ (by omega)).trans h.q1, blk_setBlock_same h.hb _, h.hW.setBlock _ _ (fun hh => absurd hh (by omega))⟩
set_option maxRecDepth 100000 in
set_option maxHeartbeats 2000000 in
theorem do_get (w : World) (sb mb : Nat) (m : KM) (key : ByteArray) (xv xo : Int) (hk : 1 ≤ key.size) (hk2 : key.size ≤ 31) (hlt : sb < w.heap.size ∧ mb < w.heap.size) (p : KM × Rs)
    (hF : ∀ W : World, Ext (fun _ => False) w W → Calls Try.prog 34 #[.pointer (some ⟨sb, 0, none⟩), .agg #[.int .i64 0, .string key, .int .i64 xv, .int .i64 xo]] W (OpPost W sb mb p)) :
    Calls Try.prog 13 #[.pointer (some ⟨sb, 0, none⟩), .agg #[.int .i64 0, .string key, .int .i64 xv, .int .i64 xo]] w (OpPost w sb mb p) := by
  have hmm := @run_makeMap Try.prog
  have HF := Lib.hid hF
  obtain ⟨pm, pc, pf, pv⟩ := p
  clear hF
  go_enter Try.func13, Try.ntmps13
  go_wp2_with fail
  have h0 := DoPre.start w 0 key xv xo
  generalize (((w.alloc (.cells #[.int .i64 0, .string key, .int .i64 xv, .int .i64 xo] 24)).alloc (.cells #[.int .i64 0, .bool false, .int .i64 0] 31)).alloc (.map #[] 0)) = w3 at *
  rw [run_update_to Try.underlying73 Try.underlying3 h0.hb 0 _ rfl #[⟨.int .i64 0, opFn 34, 0⟩] 1 rfl rfl]
  have h1 := h0.step #[⟨.int .i64 0, opFn 34, 0⟩] 1
  generalize setBlock w3 (w.heap.size + 1 + 1) (.map #[⟨.int .i64 0, opFn 34, 0⟩] 1) = w4 at h1 ⊢
  clear h0
  go_wp2_with fail
  rw [run_update_to Try.underlying73 Try.underlying3 h1.hb 1 _ rfl #[⟨.int .i64 0, opFn 34, 0⟩, ⟨.int .i64 1, opFn 35, 1⟩] 2 rfl rfl]
  have h2 := h1.step #[⟨.int .i64 0, opFn 34, 0⟩, ⟨.int .i64 1, opFn 35, 1⟩] 2
  generalize setBlock w4 (w.heap.size + 1 + 1) (.map #[⟨.int .i64 0, opFn 34, 0⟩, ⟨.int .i64 1, opFn 35, 1⟩] 2) = w5 at h2 ⊢
  clear h1
  go_wp2_with fail
  rw [run_update_to Try.underlying73 Try.underlying3 h2.hb 2 _ rfl #[⟨.int .i64 0, opFn 34, 0⟩, ⟨.int .i64 1, opFn 35, 1⟩, ⟨.int .i64 2, opFn 36, 2⟩] 3 rfl rfl]
  have h3 := h2.step #[⟨.int .i64 0, opFn 34, 0⟩, ⟨.int .i64 1, opFn 35, 1⟩, ⟨.int .i64 2, opFn 36, 2⟩] 3
  generalize setBlock w5 (w.heap.size + 1 + 1) (.map #[⟨.int .i64 0, opFn 34, 0⟩, ⟨.int .i64 1, opFn 35, 1⟩, ⟨.int .i64 2, opFn 36, 2⟩] 3) = w6 at h3 ⊢
  clear h2
  go_wp2_with fail
  rw [run_update_to Try.underlying73 Try.underlying3 h3.hb 3 _ rfl #[⟨.int .i64 0, opFn 34, 0⟩, ⟨.int .i64 1, opFn 35, 1⟩, ⟨.int .i64 2, opFn 36, 2⟩, ⟨.int .i64 3, opFn 37, 3⟩] 4 rfl rfl]
  have h4 := h3.step #[⟨.int .i64 0, opFn 34, 0⟩, ⟨.int .i64 1, opFn 35, 1⟩, ⟨.int .i64 2, opFn 36, 2⟩, ⟨.int .i64 3, opFn 37, 3⟩] 4
  generalize setBlock w6 (w.heap.size + 1 + 1) (.map #[⟨.int .i64 0, opFn 34, 0⟩, ⟨.int .i64 1, opFn 35, 1⟩, ⟨.int .i64 2, opFn 36, 2⟩, ⟨.int .i64 3, opFn 37, 3⟩] 4) = w7 at h4 ⊢
  clear h3
  have hlk := run_lookup_found Try.underlying73 Try.underlying3 h4.hb 0 (j := 0) (u := opFn 34) rfl
  have p0 : w7.cell? ⟨w.heap.size, 0, none⟩ = some (.int .i64 0) := by simpa using cell_of_cells h4.q0 0
  have p1 : w7.cell? ⟨w.heap.size, 1, none⟩ = some (.string key) := by simpa using cell_of_cells h4.q0 1
  have p2 : w7.cell? ⟨w.heap.size, 2, none⟩ = some (.int .i64 xv) := by simpa using cell_of_cells h4.q0 2
  have p3 : w7.cell? ⟨w.heap.size, 3, none⟩ = some (.int .i64 xo) := by simpa using cell_of_cells h4.q0 3
  have H4 := Lib.hid h4
  clear h4 w3 w4 w5 w6
  go_wp2_with fail
  refine (HF.out w7 H4.out.hW).mono ?_
  rintro r w8 ⟨rfl, hs8, hx8⟩
  have hbR := H4.out.q1
  have hb8 := (hx8.blk (blk_lt hbR) (by omega)).trans hbR
  obtain ⟨c0, c1, c2, f0, f1, f2⟩ := tail_reads hb8
  obtain ⟨d0, d1, d2, hx9⟩ := tail_done hb8 (.int .i64 pc) (.bool pf) (.int .i64 pv)
  have HP : Hid (OpPost w sb mb (pm, ⟨pc, pf, pv⟩) (.returned (Rs.val ⟨pc, pf, pv⟩)) (set3 w8 (w.heap.size + 1) (.int .i64 pc) (.bool pf) (.int .i64 pv))) := Lib.hid (tail_post hlt H4.out.hW hx8 hs8 (by omega) hx9)
  have hlt8 := blk_lt hb8
  have D := Lib.hid (And.intro d0 (And.intro d1 d2))
  clear hb8 hx9 hs8 hx8 hbR d0 d1 d2 hlk p0 p1 p2 p3
  simp only [Rs.val]
  go_wp2
  clear c0 c1 c2 f0 f1 f2
  have D := D.out
  have HP := HP.out
  unfold set3 at D HP
  generalize ((w8.setCell ⟨w.heap.size + 1, 0, none⟩ (.int .i64 pc)).setCell ⟨w.heap.size + 1, 1, none⟩ (.bool pf)).setCell ⟨w.heap.size + 1, 2, none⟩ (.int .i64 pv) = w9 at *
  obtain ⟨d0, d1, d2⟩ := D
  exact bodyPost_ret (v := .agg #[.int .i64 pc, .bool pf, .int .i64 pv]) (by simp [results, Try.results13, go_sem, d0, d1, d2]) rfl HP
set_option maxRecDepth 100000 in
set_option maxHeartbeats 2000000 in
theorem do_put (w : World) (sb mb : Nat) (m : KM) (key : ByteArray) (xv xo : Int) (hk : 1 ≤ key.size) (hk2 : key.size ≤ 31) (hlt : sb < w.heap.size ∧ mb < w.heap.size) (p : KM × Rs)
    (hF : ∀ W : World, Ext (fun _ => False) w W → Calls Try.prog 35 #[.pointer (some ⟨sb, 0, none⟩), .agg #[.int .i64 1, .string key, .int .i64 xv, .int .i64 xo]] W (OpPost W sb mb p)) :
    Calls Try.prog 13 #[.pointer (some ⟨sb, 0, none⟩), .agg #[.int .i64 1, .string key, .int .i64 xv, .int .i64 xo]] w (OpPost w sb mb p) := by
  have hmm := @run_makeMap Try.prog
  have HF := Lib.hid hF
  obtain ⟨pm, pc, pf, pv⟩ := p
  clear hF
  go_enter Try.func13, Try.ntmps13
  go_wp2_with fail
  have h0 := DoPre.start w 1 key xv xo
  generalize (((w.alloc (.cells #[.int .i64 1, .string key, .int .i64 xv, .int .i64 xo] 24)).alloc (.cells #[.int .i64 0, .bool false, .int .i64 0] 31)).alloc (.map #[] 0)) = w3 at *
  rw [run_update_to Try.underlying73 Try.underlying3 h0.hb 0 _ rfl #[⟨.int .i64 0, opFn 34, 0⟩] 1 rfl rfl]
  have h1 := h0.step #[⟨.int .i64 0, opFn 34, 0⟩] 1
  generalize setBlock w3 (w.heap.size + 1 + 1) (.map #[⟨.int .i64 0, opFn 34, 0⟩] 1) = w4 at h1 ⊢
  clear h0
  go_wp2_with fail
  rw [run_update_to Try.underlying73 Try.underlying3 h1.hb 1 _ rfl #[⟨.int .i64 0, opFn 34, 0⟩, ⟨.int .i64 1, opFn 35, 1⟩] 2 rfl rfl]
  have h2 := h1.step #[⟨.int .i64 0, opFn 34, 0⟩, ⟨.int .i64 1, opFn 35, 1⟩] 2
  generalize setBlock w4 (w.heap.size + 1 + 1) (.map #[⟨.int .i64 0, opFn 34, 0⟩, ⟨.int .i64 1, opFn 35, 1⟩] 2) = w5 at h2 ⊢
  clear h1
  go_wp2_with fail
  rw [run_update_to Try.underlying73 Try.underlying3 h2.hb 2 _ rfl #[⟨.int .i64 0, opFn 34, 0⟩, ⟨.int .i64 1, opFn 35, 1⟩, ⟨.int .i64 2, opFn 36, 2⟩] 3 rfl rfl]
  have h3 := h2.step #[⟨.int .i64 0, opFn 34, 0⟩, ⟨.int .i64 1, opFn 35, 1⟩, ⟨.int .i64 2, opFn 36, 2⟩] 3
  generalize setBlock w5 (w.heap.size + 1 + 1) (.map #[⟨.int .i64 0, opFn 34, 0⟩, ⟨.int .i64 1, opFn 35, 1⟩, ⟨.int .i64 2, opFn 36, 2⟩] 3) = w6 at h3 ⊢
  clear h2
  go_wp2_with fail
  rw [run_update_to Try.underlying73 Try.underlying3 h3.hb 3 _ rfl #[⟨.int .i64 0, opFn 34, 0⟩, ⟨.int .i64 1, opFn 35, 1⟩, ⟨.int .i64 2, opFn 36, 2⟩, ⟨.int .i64 3, opFn 37, 3⟩] 4 rfl rfl]
  have h4 := h3.step #[⟨.int .i64 0, opFn 34, 0⟩, ⟨.int .i64 1, opFn 35, 1⟩, ⟨.int .i64 2, opFn 36, 2⟩, ⟨.int .i64 3, opFn 37, 3⟩] 4
  generalize setBlock w6 (w.heap.size + 1 + 1) (.map #[⟨.int .i64 0, opFn 34, 0⟩, ⟨.int .i64 1, opFn 35, 1⟩, ⟨.int .i64 2, opFn 36, 2⟩, ⟨.int .i64 3, opFn 37, 3⟩] 4) = w7 at h4 ⊢
  clear h3
  have hlk := run_lookup_found Try.underlying73 Try.underlying3 h4.hb 1 (j := 1) (u := opFn 35) rfl
  have p0 : w7.cell? ⟨w.heap.size, 0, none⟩ = some (.int .i64 1) := by simpa using cell_of_cells h4.q0 0
  have p1 : w7.cell? ⟨w.heap.size, 1, none⟩ = some (.string key) := by simpa using cell_of_cells h4.q0 1
  have p2 : w7.cell? ⟨w.heap.size, 2, none⟩ = some (.int .i64 xv) := by simpa using cell_of_cells h4.q0 2
  have p3 : w7.cell? ⟨w.heap.size, 3, none⟩ = some (.int .i64 xo) := by simpa using cell_of_cells h4.q0 3
  have H4 := Lib.hid h4
  clear h4 w3 w4 w5 w6
  go_wp2_with fail
  refine (HF.out w7 H4.out.hW).mono ?_
  rintro r w8 ⟨rfl, hs8, hx8⟩
  have hbR := H4.out.q1
  have hb8 := (hx8.blk (blk_lt hbR) (by omega)).trans hbR
  obtain ⟨c0, c1, c2, f0, f1, f2⟩ := tail_reads hb8
  obtain ⟨d0, d1, d2, hx9⟩ := tail_done hb8 (.int .i64 pc) (.bool pf) (.int .i64 pv)
  have HP : Hid (OpPost w sb mb (pm, ⟨pc, pf, pv⟩) (.returned (Rs.val ⟨pc, pf, pv⟩)) (set3 w8 (w.heap.size + 1) (.int .i64 pc) (.bool pf) (.int .i64 pv))) := Lib.hid (tail_post hlt H4.out.hW hx8 hs8 (by omega) hx9)
  have hlt8 := blk_lt hb8
  have D := Lib.hid (And.intro d0 (And.intro d1 d2))
  clear hb8 hx9 hs8 hx8 hbR d0 d1 d2 hlk p0 p1 p2 p3
  simp only [Rs.val]
  go_wp2
  clear c0 c1 c2 f0 f1 f2
  have D := D.out
  have HP := HP.out
  unfold set3 at D HP
  generalize ((w8.setCell ⟨w.heap.size + 1, 0, none⟩ (.int .i64 pc)).setCell ⟨w.heap.size + 1, 1, none⟩ (.bool pf)).setCell ⟨w.heap.size + 1, 2, none⟩ (.int .i64 pv) = w9 at *
  obtain ⟨d0, d1, d2⟩ := D
  exact bodyPost_ret (v := .agg #[.int .i64 pc, .bool pf, .int .i64 pv]) (by simp [results, Try.results13, go_sem, d0, d1, d2]) rfl HP
set_option maxRecDepth 100000 in
set_option maxHeartbeats 2000000 in
theorem do_cas (w : World) (sb mb : Nat) (m : KM) (key : ByteArray) (xv xo : Int) (hk : 1 ≤ key.size) (hk2 : key.size ≤ 31) (hlt : sb < w.heap.size ∧ mb < w.heap.size) (p : KM × Rs)
    (hF : ∀ W : World, Ext (fun _ => False) w W → Calls Try.prog 36 #[.pointer (some ⟨sb, 0, none⟩), .agg #[.int .i64 2, .string key, .int .i64 xv, .int .i64 xo]] W (OpPost W sb mb p)) :
    Calls Try.prog 13 #[.pointer (some ⟨sb, 0, none⟩), .agg #[.int .i64 2, .string key, .int .i64 xv, .int .i64 xo]] w (OpPost w sb mb p) := by
  have hmm := @run_makeMap Try.prog
  have HF := Lib.hid hF
  obtain ⟨pm, pc, pf, pv⟩ := p
  clear hF
  go_enter Try.func13, Try.ntmps13
  go_wp2_with fail
  have h0 := DoPre.start w 2 key xv xo
  generalize (((w.alloc (.cells #[.int .i64 2, .string key, .int .i64 xv, .int .i64 xo] 24)).alloc (.cells #[.int .i64 0, .bool false, .int .i64 0] 31)).alloc (.map #[] 0)) = w3 at *
  rw [run_update_to Try.underlying73 Try.underlying3 h0.hb 0 _ rfl #[⟨.int .i64 0, opFn 34, 0⟩] 1 rfl rfl]
  have h1 := h0.step #[⟨.int .i64 0, opFn 34, 0⟩] 1
  generalize setBlock w3 (w.heap.size + 1 + 1) (.map #[⟨.int .i64 0, opFn 34, 0⟩] 1) = w4 at h1 ⊢
  clear h0
  go_wp2_with fail
  rw [run_update_to Try.underlying73 Try.underlying3 h1.hb 1 _ rfl #[⟨.int .i64 0, opFn 34, 0⟩, ⟨.int .i64 1, opFn 35, 1⟩] 2 rfl rfl]
  have h2 := h1.step #[⟨.int .i64 0, opFn 34, 0⟩, ⟨.int .i64 1, opFn 35, 1⟩] 2
  generalize setBlock w4 (w.heap.size + 1 + 1) (.map #[⟨.int .i64 0, opFn 34, 0⟩, ⟨.int .i64 1, opFn 35, 1⟩] 2) = w5 at h2 ⊢
  clear h1
  go_wp2_with fail
  rw [run_update_to Try.underlying73 Try.underlying3 h2.hb 2 _ rfl #[⟨.int .i64 0, opFn 34, 0⟩, ⟨.int .i64 1, opFn 35, 1⟩, ⟨.int .i64 2, opFn 36, 2⟩] 3 rfl rfl]
  have h3 := h2.step #[⟨.int .i64 0, opFn 34, 0⟩, ⟨.int .i64 1, opFn 35, 1⟩, ⟨.int .i64 2, opFn 36, 2⟩] 3
  generalize setBlock w5 (w.heap.size + 1 + 1) (.map #[⟨.int .i64 0, opFn 34, 0⟩, ⟨.int .i64 1, opFn 35, 1⟩, ⟨.int .i64 2, opFn 36, 2⟩] 3) = w6 at h3 ⊢
  clear h2
  go_wp2_with fail
  rw [run_update_to Try.underlying73 Try.underlying3 h3.hb 3 _ rfl #[⟨.int .i64 0, opFn 34, 0⟩, ⟨.int .i64 1, opFn 35, 1⟩, ⟨.int .i64 2, opFn 36, 2⟩, ⟨.int .i64 3, opFn 37, 3⟩] 4 rfl rfl]
  have h4 := h3.step #[⟨.int .i64 0, opFn 34, 0⟩, ⟨.int .i64 1, opFn 35, 1⟩, ⟨.int .i64 2, opFn 36, 2⟩, ⟨.int .i64 3, opFn 37, 3⟩] 4
  generalize setBlock w6 (w.heap.size + 1 + 1) (.map #[⟨.int .i64 0, opFn 34, 0⟩, ⟨.int .i64 1, opFn 35, 1⟩, ⟨.int .i64 2, opFn 36, 2⟩, ⟨.int .i64 3, opFn 37, 3⟩] 4) = w7 at h4 ⊢
  clear h3
  have hlk := run_lookup_found Try.underlying73 Try.underlying3 h4.hb 2 (j := 2) (u := opFn 36) rfl
  have p0 : w7.cell? ⟨w.heap.size, 0, none⟩ = some (.int .i64 2) := by simpa using cell_of_cells h4.q0 0
  have p1 : w7.cell? ⟨w.heap.size, 1, none⟩ = some (.string key) := by simpa using cell_of_cells h4.q0 1
  have p2 : w7.cell? ⟨w.heap.size, 2, none⟩ = some (.int .i64 xv) := by simpa using cell_of_cells h4.q0 2
  have p3 : w7.cell? ⟨w.heap.size, 3, none⟩ = some (.int .i64 xo) := by simpa using cell_of_cells h4.q0 3
  have H4 := Lib.hid h4
  clear h4 w3 w4 w5 w6
  go_wp2_with fail
  refine (HF.out w7 H4.out.hW).mono ?_
  rintro r w8 ⟨rfl, hs8, hx8⟩
  have hbR := H4.out.q1
  have hb8 := (hx8.blk (blk_lt hbR) (by omega)).trans hbR
  obtain ⟨c0, c1, c2, f0, f1, f2⟩ := tail_reads hb8
  obtain ⟨d0, d1, d2, hx9⟩ := tail_done hb8 (.int .i64 pc) (.bool pf) (.int .i64 pv)
  have HP : Hid (OpPost w sb mb (pm, ⟨pc, pf, pv⟩) (.returned (Rs.val ⟨pc, pf, pv⟩)) (set3 w8 (w.heap.size + 1) (.int .i64 pc) (.bool pf) (.int .i64 pv))) := Lib.hid (tail_post hlt H4.out.hW hx8 hs8 (by omega) hx9)
  have hlt8 := blk_lt hb8
  have D := Lib.hid (And.intro d0 (And.intro d1 d2))
  clear hb8 hx9 hs8 hx8 hbR d0 d1 d2 hlk p0 p1 p2 p3
  simp only [Rs.val]
  go_wp2
  clear c0 c1 c2 f0 f1 f2
  have D := D.out
  have HP := HP.out
  unfold set3 at D HP
  generalize ((w8.setCell ⟨w.heap.size + 1, 0, none⟩ (.int .i64 pc)).setCell ⟨w.heap.size + 1, 1, none⟩ (.bool pf)).setCell ⟨w.heap.size + 1, 2, none⟩ (.int .i64 pv) = w9 at *
  obtain ⟨d0, d1, d2⟩ := D
  exact bodyPost_ret (v := .agg #[.int .i64 pc, .bool pf, .int .i64 pv]) (by simp [results, Try.results13, go_sem, d0, d1, d2]) rfl HP
set_option maxRecDepth 100000 in
set_option maxHeartbeats 2000000 in
theorem do_add (w : World) (sb mb : Nat) (m : KM) (key : ByteArray) (xv xo : Int) (hk : 1 ≤ key.size) (hk2 : key.size ≤ 31) (hlt : sb < w.heap.size ∧ mb < w.heap.size) (p : KM × Rs)
    (hF : ∀ W : World, Ext (fun _ => False) w W → Calls Try.prog 37 #[.pointer (some ⟨sb, 0, none⟩), .agg #[.int .i64 3, .string key, .int .i64 xv, .int .i64 xo]] W (OpPost W sb mb p)) :
    Calls Try.prog 13 #[.pointer (some ⟨sb, 0, none⟩), .agg #[.int .i64 3, .string key, .int .i64 xv, .int .i64 xo]] w (OpPost w sb mb p) := by
  have hmm := @run_makeMap Try.prog
  have HF := Lib.hid hF
  obtain ⟨pm, pc, pf, pv⟩ := p
  clear hF
  go_enter Try.func13, Try.ntmps13
  go_wp2_with fail
  have h0 := DoPre.start w 3 key xv xo
  generalize (((w.alloc (.cells #[.int .i64 3, .string key, .int .i64 xv, .int .i64 xo] 24)).alloc (.cells #[.int .i64 0, .bool false, .int .i64 0] 31)).alloc (.map #[] 0)) = w3 at *
  rw [run_update_to Try.underlying73 Try.underlying3 h0.hb 0 _ rfl #[⟨.int .i64 0, opFn 34, 0⟩] 1 rfl rfl]
  have h1 := h0.step #[⟨.int .i64 0, opFn 34, 0⟩] 1
  generalize setBlock w3 (w.heap.size + 1 + 1) (.map #[⟨.int .i64 0, opFn 34, 0⟩] 1) = w4 at h1 ⊢
  clear h0
  go_wp2_with fail
  rw [run_update_to Try.underlying73 Try.underlying3 h1.hb 1 _ rfl #[⟨.int .i64 0, opFn 34, 0⟩, ⟨.int .i64 1, opFn 35, 1⟩] 2 rfl rfl]
  have h2 := h1.step #[⟨.int .i64 0, opFn 34, 0⟩, ⟨.int .i64 1, opFn 35, 1⟩] 2
  generalize setBlock w4 (w.heap.size + 1 + 1) (.map #[⟨.int .i64 0, opFn 34, 0⟩, ⟨.int .i64 1, opFn 35, 1⟩] 2) = w5 at h2 ⊢
  clear h1
  go_wp2_with fail
  rw [run_update_to Try.underlying73 Try.underlying3 h2.hb 2 _ rfl #[⟨.int .i64 0, opFn 34, 0⟩, ⟨.int .i64 1, opFn 35, 1⟩, ⟨.int .i64 2, opFn 36, 2⟩] 3 rfl rfl]
  have h3 := h2.step #[⟨.int .i64 0, opFn 34, 0⟩, ⟨.int .i64 1, opFn 35, 1⟩, ⟨.int .i64 2, opFn 36, 2⟩] 3
  generalize setBlock w5 (w.heap.size + 1 + 1) (.map #[⟨.int .i64 0, opFn 34, 0⟩, ⟨.int .i64 1, opFn 35, 1⟩, ⟨.int .i64 2, opFn 36, 2⟩] 3) = w6 at h3 ⊢
  clear h2
  go_wp2_with fail
  rw [run_update_to Try.underlying73 Try.underlying3 h3.hb 3 _ rfl #[⟨.int .i64 0, opFn 34, 0⟩, ⟨.int .i64 1, opFn 35, 1⟩, ⟨.int .i64 2, opFn 36, 2⟩, ⟨.int .i64 3, opFn 37, 3⟩] 4 rfl rfl]
  have h4 := h3.step #[⟨.int .i64 0, opFn 34, 0⟩, ⟨.int .i64 1, opFn 35, 1⟩, ⟨.int .i64 2, opFn 36, 2⟩, ⟨.int .i64 3, opFn 37, 3⟩] 4
  generalize setBlock w6 (w.heap.size + 1 + 1) (.map #[⟨.int .i64 0, opFn 34, 0⟩, ⟨.int .i64 1, opFn 35, 1⟩, ⟨.int .i64 2, opFn 36, 2⟩, ⟨.int .i64 3, opFn 37, 3⟩] 4) = w7 at h4 ⊢
  clear h3
  have hlk := run_lookup_found Try.underlying73 Try.underlying3 h4.hb 3 (j := 3) (u := opFn 37) rfl
  have p0 : w7.cell? ⟨w.heap.size, 0, none⟩ = some (.int .i64 3) := by simpa using cell_of_cells h4.q0 0
  have p1 : w7.cell? ⟨w.heap.size, 1, none⟩ = some (.string key) := by simpa using cell_of_cells h4.q0 1
  have p2 : w7.cell? ⟨w.heap.size, 2, none⟩ = some (.int .i64 xv) := by simpa using cell_of_cells h4.q0 2
  have p3 : w7.cell? ⟨w.heap.size, 3, none⟩ = some (.int .i64 xo) := by simpa using cell_of_cells h4.q0 3
  have H4 := Lib.hid h4
  clear h4 w3 w4 w5 w6
  go_wp2_with fail
  refine (HF.out w7 H4.out.hW).mono ?_
  rintro r w8 ⟨rfl, hs8, hx8⟩
  have hbR := H4.out.q1
  have hb8 := (hx8.blk (blk_lt hbR) (by omega)).trans hbR
  obtain ⟨c0, c1, c2, f0, f1, f2⟩ := tail_reads hb8
  obtain ⟨d0, d1, d2, hx9⟩ := tail_done hb8 (.int .i64 pc) (.bool pf) (.int .i64 pv)
  have HP : Hid (OpPost w sb mb (pm, ⟨pc, pf, pv⟩) (.returned (Rs.val ⟨pc, pf, pv⟩)) (set3 w8 (w.heap.size + 1) (.int .i64 pc) (.bool pf) (.int .i64 pv))) := Lib.hid (tail_post hlt H4.out.hW hx8 hs8 (by omega) hx9)
  have hlt8 := blk_lt hb8
  have D := Lib.hid (And.intro d0 (And.intro d1 d2))
  clear hb8 hx9 hs8 hx8 hbR d0 d1 d2 hlk p0 p1 p2 p3
  simp only [Rs.val]
  go_wp2
  clear c0 c1 c2 f0 f1 f2
  have D := D.out
  have HP := HP.out
  unfold set3 at D HP
  generalize ((w8.setCell ⟨w.heap.size + 1, 0, none⟩ (.int .i64 pc)).setCell ⟨w.heap.size + 1, 1, none⟩ (.bool pf)).setCell ⟨w.heap.size + 1, 2, none⟩ (.int .i64 pv) = w9 at *
  obtain ⟨d0, d1, d2⟩ := D
  exact bodyPost_ret (v := .agg #[.int .i64 pc, .bool pf, .int .i64 pv]) (by simp [results, Try.results13, go_sem, d0, d1, d2]) rfl HP
end Go.Proofs.Ythipbmppmgkklaa
