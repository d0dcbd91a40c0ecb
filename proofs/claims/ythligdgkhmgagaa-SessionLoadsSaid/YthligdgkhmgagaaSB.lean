/-
  Package session: what lies in memory (IsTable), what its functions answer (the model). Conditions: none beyond each lemma's own.
-/
import Derived.Test.YthligdgkhmgagaaSA
import Derived.Test.YthligdgkhmgagaaProg
import Derived.Deep.LoopGhost
import Derived.Deep.CutBlock
import Derived.Deep.DeepCutAuto
import Derived.Deep.RegionHeld3
namespace Go.Proofs.Ythligdgkhmgagaa
open Go.RowKit Go.MapKept
open Go.ChangeMaps (setBlock)

structure Ans where
  n : Int
  s : ByteArray
structure Tbl where
  cl : List (Int × Ans)
  gen : Int
  st : List (Int × Int)
def Ans.v (x : Ans) : Value := .agg #[.int .i64 x.n, .string x.s]
def codeV (c : Int) : Value := .int .i64 c
def inI (a : Int) : Bool := decide (1 ≤ a) && decide (a ≤ 4611686018427387904)
def inB (a b : Int) : Bool := inI a && inI b
def clientM (T : Tbl) (c n : Int) : ByteArray × Int :=
  if inB c n = false then (.empty, 1) else
  match iget T.cl c with
  | none => (.empty, 6)
  | some x => if x.n < n then (.empty, 6) else if n < x.n then (.empty, 9) else (x.s, 0)
def lastM (T : Tbl) (c : Int) : Int := ((iget T.cl c).map Ans.n).getD 0
def answerM (T : Tbl) (c n : Int) (s : ByteArray) : Tbl × Int :=
  if inB c n = false then (T, 1) else if n ≤ lastM T c then (T, 9) else ({ T with cl := iput T.cl c ⟨n, s⟩ }, 0)
def adminM (T : Tbl) (g s : Int) : Int × Bool :=
  if inB g s = false then (1, true) else if g < T.gen then (12, true) else if T.gen < g then (0, false) else ((iget T.st s).getD 0, (iget T.st s).isSome)
def noteM (T : Tbl) (g s c : Int) : Tbl × Int :=
  if inB g s = false then (T, 1) else if g < T.gen then (T, 12) else if T.gen < g then (⟨T.cl, g, [(s, c)]⟩, 0) else
  if (iget T.st s).isSome = true then (T, 5) else (⟨T.cl, T.gen, iput T.st s c⟩, 0)
/-- what lies in memory: the table's block, the map of its clients, the map of its steps -/
def IsTable (w : World) (tb cb sb : Nat) (T : Tbl) : Prop :=
  blk w tb = some (.cells #[.map (some cb), .int .i64 T.gen, .map (some sb)] 60 (0, 0)) ∧ IsIMap w cb (imap Ans.v T.cl) ∧ IsIMap w sb (imap codeV T.st) ∧ cb ≠ sb
def tset (tb cb sb : Nat) (k : Nat) : Prop := k = tb ∨ k = cb ∨ k = sb
theorem IsTable.lt {w : World} {tb cb sb : Nat} {T : Tbl} (h : IsTable w tb cb sb T) : tb < w.heap.size ∧ cb < w.heap.size ∧ sb < w.heap.size := ⟨blk_lt h.1, h.2.1.lt, h.2.2.1.lt⟩
theorem IsTable.ne {w : World} {tb cb sb : Nat} {T : Tbl} (h : IsTable w tb cb sb T) : tb ≠ cb ∧ tb ≠ sb ∧ cb ≠ sb := by
  obtain ⟨h1, ⟨e1, c1, h2, _⟩, ⟨e2, c2, h3, _⟩, h4⟩ := h
  refine ⟨fun e => ?_, fun e => ?_, h4⟩
  · subst e; rw [h1] at h2; cases h2
  · subst e; rw [h1] at h3; cases h3
theorem IsTable.ext {S : Nat → Prop} {w w' : World} {tb cb sb : Nat} {T : Tbl} (h : IsTable w tb cb sb T) (hx : Ext S w w') (hn : ∀ k, tset tb cb sb k → ¬ S k) : IsTable w' tb cb sb T :=
  ⟨(hx.blk h.lt.1 (hn _ (.inl rfl))).trans h.1, h.2.1.ext hx (hn _ (.inr (.inl rfl))), h.2.2.1.ext hx (hn _ (.inr (.inr rfl))), h.2.2.2⟩
theorem IsTable.keep {w w' : World} {tb cb sb : Nat} {T : Tbl} (h : IsTable w tb cb sb T) (hx : Ext (fun _ => False) w w') : IsTable w' tb cb sb T := h.ext hx (fun _ _ h => h)
theorem ext_any {w w' : World} (h : Ext (fun _ => False) w w') (S : Nat → Prop) : Ext S w w' := h.mono (fun _ _ h => h.elim)
theorem zeroAns (w : World) : (zeroValue 63).run Try.prog w = .ok (.agg #[.int .i64 0, .string .empty]) w := by kernel_rfl
theorem zeroErr (w : World) : (zeroValue 28).run Try.prog w = .ok (.int .i64 0) w := by kernel_rfl
theorem cells_two {w : World} {b : Nat} {v0 v1 : Value} {t : TypeId} {f : Nat × Nat} (h : blk w b = some (.cells #[v0, v1] t f)) : w.cell? ⟨b, 0, none⟩ = some v0 ∧ w.cell? ⟨b, 1, none⟩ = some v1 :=
  ⟨by simpa using cell_of_cells h 0, by simpa using cell_of_cells h 1⟩
set_option maxRecDepth 100000 in
set_option maxHeartbeats 1000000 in
theorem min_any (g cap : Nat) (a b : Int) (w : World) (h0 : w.cell? ⟨g, 0, none⟩ = some (.int .i64 a)) (h1 : w.cell? ⟨g, 1, none⟩ = some (.int .i64 b)) :
    Calls Try.prog 54 #[.slice (some ⟨g, 0, none⟩) 2 cap] w fun r w' => r = .returned (.int .i64 (min a b)) ∧ w' = w := by
  by_cases hlt : b < a
  all_goals
    go_enter Try.func54, Try.ntmps54
    go_wp2_with fail
    refine wp_loop_rounds 2 ?_
    rw [rounds_succ]
    go_wp2_with fail
    rw [rounds_succ]
    go_wp2_with fail
    go_ret
    exact ⟨ret_int (by omega), rfl⟩
set_option maxRecDepth 100000 in
set_option maxHeartbeats 1000000 in
theorem max_any (g cap : Nat) (a b : Int) (w : World) (h0 : w.cell? ⟨g, 0, none⟩ = some (.int .i64 a)) (h1 : w.cell? ⟨g, 1, none⟩ = some (.int .i64 b)) :
    Calls Try.prog 55 #[.slice (some ⟨g, 0, none⟩) 2 cap] w fun r w' => r = .returned (.int .i64 (max a b)) ∧ w' = w := by
  by_cases hlt : a < b
  all_goals
    go_enter Try.func55, Try.ntmps55
    go_wp2_with fail
    refine wp_loop_rounds 2 ?_
    rw [rounds_succ]
    go_wp2_with fail
    rw [rounds_succ]
    go_wp2_with fail
    go_ret
    exact ⟨ret_int (by omega), rfl⟩
set_option maxRecDepth 100000 in
set_option maxHeartbeats 1000000 in
theorem in_any (g cap : Nat) (a b : Int) (w : World) (h0 : w.cell? ⟨g, 0, none⟩ = some (.int .i64 a)) (h1 : w.cell? ⟨g, 1, none⟩ = some (.int .i64 b)) :
    Calls Try.prog 24 #[.slice (some ⟨g, 0, none⟩) 2 cap] w fun r w' => r = .returned (.bool (inB a b)) ∧ w' = w := by
  have hfin : inB a b = (decide (1 ≤ min a b) && decide (max a b ≤ 4611686018427387904)) := by
    unfold inB inI
    rw [Bool.eq_iff_iff]; simp; omega
  have Hf := Lib.hid hfin
  have hmin := min_any g cap a b w h0 h1
  have hmax := max_any g cap a b w h0 h1
  rw [hfin]
  clear h0 h1 hfin
  generalize min a b = m at *
  generalize max a b = M at *
  have Hmin := Lib.hid hmin
  have Hmax := Lib.hid hmax
  clear hmin hmax Hf
  by_cases hm : 1 ≤ m
  · go_enter Try.func24, Try.ntmps24
    go_wp2_with fail
    refine Hmin.out.mono ?_
    rintro r w' ⟨rfl, hw⟩; obtain rfl := hw.symm
    go_wp2_with fail
    refine Hmax.out.mono ?_
    rintro r w' ⟨rfl, hw⟩; obtain rfl := hw.symm
    go_wp2
    go_ret
    exact ⟨by simp [hm], rfl⟩
  · go_enter Try.func24, Try.ntmps24
    go_wp2_with fail
    refine Hmin.out.mono ?_
    rintro r w' ⟨rfl, hw⟩; obtain rfl := hw.symm
    go_wp2
    go_ret
    exact ⟨by rw [decide_eq_false (show ¬ 1 ≤ m by omega)]; rfl, rfl⟩
set_option maxRecDepth 100000 in
set_option maxHeartbeats 1000000 in
theorem new_any (w : World) : Calls Try.prog 10 #[] w fun r w' => ∃ tb cb sb, r = .returned (.pointer (some ⟨tb, 0, none⟩)) ∧ IsTable w' tb cb sb ⟨[], 0, []⟩ ∧ Ext (fun _ => False) w w' ∧ w.heap.size ≤ tb ∧ w.heap.size ≤ cb ∧ w.heap.size ≤ sb := by
  have hmm := @run_makeMap Try.prog
  go_enter Try.func10, Try.ntmps10
  go_wp2
  go_ret
  refine ⟨w.heap.size + 1 + 1, w.heap.size, w.heap.size + 1, rfl, ⟨?_, ?_, ?_, by omega⟩, (((Ext.refl _ w).alloc _).alloc _).alloc _, by omega, by omega, by omega⟩
  · have := blk_alloc_at ((w.alloc (.map #[] 0)).alloc (.map #[] 0)) (.cells #[.map (some w.heap.size), .int .i64 0, .map (some (w.heap.size + 1))] 60)
    simpa using this
  · exact (IsIMap.new w).ext (((Ext.refl (fun _ => False) _).alloc (.map #[] 0)).alloc _) id
  · have := (IsIMap.new (w.alloc (.map #[] 0))).ext ((Ext.refl (fun _ => False) _).alloc (.cells #[.map (some w.heap.size), .int .i64 0, .map (some (w.heap.size + 1))] 60)) id
    show IsIMap _ _ []
    simpa using this
end Go.Proofs.Ythligdgkhmgagaa
