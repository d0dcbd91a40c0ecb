/-
  Package store: New, get, put, cas, add return what the model says. Conditions: as IsStore says.
-/
import Derived.Test.YthipbmppmgkklaaTA
namespace Go.Proofs.Ythipbmppmgkklaa
open Go.RowKit Go.MapKept
open Go.ChangeMaps (setBlock)

structure OpV where
  k : Int
  key : ByteArray
  v : Int
  o : Int
def OpV.val (x : OpV) : Value := .agg #[.int .i64 x.k, .string x.key, .int .i64 x.v, .int .i64 x.o]
def getM (m : KM) (x : OpV) : KM × Rs := (m, ⟨0, (assoc m x.key).isSome, (assoc m x.key).getD 0⟩)
def putM (m : KM) (x : OpV) : KM × Rs := setM m x.key x.v
def casM (m : KM) (x : OpV) : KM × Rs := if (assoc m x.key).isSome && decide ((assoc m x.key).getD 0 = x.o) then setM m x.key x.v else (m, ⟨0, false, (assoc m x.key).getD 0⟩)
def addM (m : KM) (x : OpV) : KM × Rs := setM m x.key (wrap64 ((assoc m x.key).getD 0 + x.v))
theorem store_lookup {es : Array MapEntry} {clock : Nat} {mb : Nat} {m : KM} (hl : StrMap es (kmv m)) (k : ByteArray) (W : World) (hW : blk W mb = some (.map es clock)) :
    (Instr.lookup 76 (.map (some mb)) (.string k) true).run Try.prog W = .ok (.tuple #[.int .i64 ((assoc m k).getD 0), .bool (assoc m k).isSome]) W := by
  have := run_lookup_str (P := Try.prog) Try.underlying76 Try.underlying9 hW hl (zeroInt64 W) k true
  rw [assoc_kmv] at this
  cases h : assoc m k <;> simpa [h] using this
theorem store_lookup1 {es : Array MapEntry} {clock : Nat} {mb : Nat} {m : KM} (hl : StrMap es (kmv m)) (k : ByteArray) (W : World) (hW : blk W mb = some (.map es clock)) :
    (Instr.lookup 76 (.map (some mb)) (.string k) false).run Try.prog W = .ok (.int .i64 ((assoc m k).getD 0)) W := by
  have := run_lookup_str (P := Try.prog) Try.underlying76 Try.underlying9 hW hl (zeroInt64 W) k false
  rw [assoc_kmv] at this
  cases h : assoc m k <;> simpa [h] using this

set_option maxRecDepth 100000 in
set_option maxHeartbeats 1000000 in
theorem get_any (w : World) (sb mb : Nat) (m : KM) (hs : IsStore w sb mb m) (x : OpV) :
    Calls Try.prog 34 #[.pointer (some ⟨sb, 0, none⟩), x.val] w (OpPost w sb mb (getM m x)) := by
  have ⟨hc, es, clock, hb, hl, _⟩ := hs
  obtain ⟨xk, key, xv, xo⟩ := x
  have hlk := store_lookup (mb := mb) (clock := clock) hl key
  generalize hA : (assoc m key).getD 0 = A at hlk
  generalize hB : (assoc m key).isSome = B at hlk
  have hsb := blk_lt hc
  have hmb := blk_lt hb
  obtain ⟨f0, f1, f2, f3, f4, f5⟩ := ne_sizes hmb
  obtain ⟨g1, g2, g3, _⟩ := lt_sizes hsb
  have hc0 := cell_of_cells hc 0
  simp at hc0
  have Hs := Lib.hid hs
  have HA := Lib.hid hA
  have HB := Lib.hid hB
  clear hs hA hB hc hl
  unfold OpV.val
  go_enter Try.func34, Try.ntmps34
  go_wp2
  go_quiet (fail)
  go_wp2
  refine bodyPost_ret (v := .agg #[.int .i64 0, .bool B, .int .i64 A]) (by simp [results, Try.results34, go_sem]) rfl ⟨?_, ?_, ?_⟩
  · unfold getM; simp only; rw [HA.out, HB.out]; rfl
  · exact Hs.out.ext (S := fun _ => False) (by repeat (first | exact Ext.refl _ _ | apply Ext.drewN | apply Ext.drew | apply Ext.alloc | refine Ext.setCell ?_ _ (fun h => absurd h (Nat.not_lt.2 (Nat.le_succ _))))) id id
  · repeat (first | exact Ext.refl _ _ | apply Ext.drewN | apply Ext.drew | apply Ext.alloc | refine Ext.setCell ?_ _ (fun h => absurd h (Nat.not_lt.2 (Nat.le_succ _))))
/-! ### the tail: a result is stored and handed back -/
theorem tail_reads {w : World} {R : Nat} {v0 v1 v2 : Value} {t : TypeId} (h : blk w R = some (.cells #[v0, v1, v2] t (0, 0))) :
    w.cell? ⟨R, 0, none⟩ = some v0 ∧ w.cell? ⟨R, 1, none⟩ = some v1 ∧ w.cell? ⟨R, 2, none⟩ = some v2 ∧ w.frozen? ⟨R, 0, none⟩ = false ∧ w.frozen? ⟨R, 1, none⟩ = false ∧ w.frozen? ⟨R, 2, none⟩ = false :=
  ⟨by simpa using cell_of_cells h 0, by simpa using cell_of_cells h 1, by simpa using cell_of_cells h 2, free_of_cells h 0, free_of_cells h 1, free_of_cells h 2⟩
def set3 (w : World) (R : Nat) (u0 u1 u2 : Value) : World := ((w.setCell ⟨R, 0, none⟩ u0).setCell ⟨R, 1, none⟩ u1).setCell ⟨R, 2, none⟩ u2
theorem tail_done {w : World} {R : Nat} {v0 v1 v2 : Value} {t : TypeId} (h : blk w R = some (.cells #[v0, v1, v2] t (0, 0))) (u0 u1 u2 : Value) :
    (set3 w R u0 u1 u2).cell? ⟨R, 0, none⟩ = some u0 ∧ (set3 w R u0 u1 u2).cell? ⟨R, 1, none⟩ = some u1 ∧ (set3 w R u0 u1 u2).cell? ⟨R, 2, none⟩ = some u2 ∧ Ext (fun x => x = R) w (set3 w R u0 u1 u2) := by
  obtain ⟨a, b, c, _⟩ := tail_reads (blk_set3 h u0 u1 u2)
  exact ⟨a, b, c, ext_set3 w R u0 u1 u2⟩
theorem tail_post {w W w5 w6 : World} {sb mb R : Nat} {p : KM × Rs} (hlt : sb < w.heap.size ∧ mb < w.heap.size) (hW : Ext (fun _ => False) w W) (hx : Ext (fun b => b = mb) W w5) (hs : IsStore w5 sb mb p.1)
    (hR : w.heap.size ≤ R) (h6 : Ext (fun x => x = R) w5 w6) : OpPost w sb mb p (.returned p.2.val) w6 :=
  ⟨rfl, hs.ext h6 (by omega) (by omega), (((hW.mono (T := fun b => b = mb) (fun _ _ h => h.elim)).trans' hx (fun _ _ e => e)).trans' h6 (fun k hk e => absurd hk (by omega)))⟩
set_option maxRecDepth 100000 in
set_option maxHeartbeats 1000000 in
theorem put_any (w : World) (sb mb : Nat) (m : KM) (hs : IsStore w sb mb m) (hm : m.length ≤ 1000000) (x : OpV) :
    Calls Try.prog 35 #[.pointer (some ⟨sb, 0, none⟩), x.val] w (OpPost w sb mb (putM m x)) := by
  obtain ⟨xk, key, xv, xo⟩ := x
  have hlt := hs.lt
  obtain ⟨p, hp⟩ : ∃ p, setM m key xv = p := ⟨_, rfl⟩
  have hset := fun (W : World) (hW : IsStore W sb mb m) => set_any W sb mb m hW key xv hm
  rw [hp] at hset
  have e : putM m ⟨xk, key, xv, xo⟩ = p := hp
  rw [e]
  have Hset := Lib.hid hset
  have Hs := Lib.hid hs
  obtain ⟨pm, pc, pf, pv⟩ := p
  clear hs hp e hset
  unfold OpV.val
  go_enter Try.func35, Try.ntmps35
  go_wp2_with fail
  have hW : Ext (fun _ => False) w ((w.alloc (.cells #[.int .i64 xk, .string key, .int .i64 xv, .int .i64 xo] 24)).alloc (.cells #[.int .i64 0, .bool false, .int .i64 0] 31)) := ((Ext.refl _ w).alloc _).alloc _
  have hbR := blk_alloc_at (w.alloc (.cells #[.int .i64 xk, .string key, .int .i64 xv, .int .i64 xo] 24)) (.cells #[.int .i64 0, .bool false, .int .i64 0] 31)
  refine (Hset.out _ (Hs.out.ext hW id id)).mono ?_
  rintro r w5 ⟨rfl, hs5, hx5⟩
  simp only [World.size_alloc] at hbR
  have hb5 := (hx5.blk (blk_lt hbR) (by omega)).trans hbR
  obtain ⟨c0, c1, c2, f0, f1, f2⟩ := tail_reads hb5
  obtain ⟨d0, d1, d2, hx6⟩ := tail_done hb5 (.int .i64 pc) (.bool pf) (.int .i64 pv)
  have HP : Hid (OpPost w sb mb (pm, ⟨pc, pf, pv⟩) (.returned (Rs.val ⟨pc, pf, pv⟩)) (set3 w5 (w.heap.size + 1) (.int .i64 pc) (.bool pf) (.int .i64 pv))) := Lib.hid (tail_post hlt hW hx5 hs5 (by omega) hx6)
  have hlt5 := blk_lt hb5
  clear hb5 hx6 hs5 hx5 hbR hW
  have D := Lib.hid (And.intro d0 (And.intro d1 d2))
  clear d0 d1 d2
  simp only [Rs.val]
  go_wp2
  clear c0 c1 c2 f0 f1 f2
  have D := D.out
  have HP := HP.out
  unfold set3 at D HP
  generalize ((w5.setCell ⟨w.heap.size + 1, 0, none⟩ (.int .i64 pc)).setCell ⟨w.heap.size + 1, 1, none⟩ (.bool pf)).setCell ⟨w.heap.size + 1, 2, none⟩ (.int .i64 pv) = w6 at *
  obtain ⟨d0, d1, d2⟩ := D
  exact bodyPost_ret (v := .agg #[.int .i64 pc, .bool pf, .int .i64 pv]) (by simp [results, Try.results35, go_sem, d0, d1, d2]) rfl HP
set_option maxRecDepth 100000 in
set_option maxHeartbeats 2000000 in
theorem cas_any (w : World) (sb mb : Nat) (m : KM) (hs : IsStore w sb mb m) (hm : m.length ≤ 1000000) (x : OpV) :
    Calls Try.prog 36 #[.pointer (some ⟨sb, 0, none⟩), x.val] w (OpPost w sb mb (casM m x)) := by
  have ⟨hc, es, clock, hb, hl, _⟩ := hs
  obtain ⟨xk, key, xv, xo⟩ := x
  have hlt := hs.lt
  have hlk := store_lookup (mb := mb) (clock := clock) hl key
  obtain ⟨p, hp⟩ : ∃ p, setM m key xv = p := ⟨_, rfl⟩
  have hset := fun (W : World) (hW : IsStore W sb mb m) => set_any W sb mb m hW key xv hm
  rw [hp] at hset
  have e : casM m ⟨xk, key, xv, xo⟩ = if (assoc m key).isSome && decide ((assoc m key).getD 0 = xo) then p else (m, ⟨0, false, (assoc m key).getD 0⟩) := by unfold casM; rw [hp]
  rw [e]
  generalize (assoc m key).getD 0 = A at hlk ⊢
  generalize (assoc m key).isSome = B at hlk ⊢
  have Hset := Lib.hid hset
  have Hs := Lib.hid hs
  obtain ⟨pm, pc, pf, pv⟩ := p
  have hsb := blk_lt hc
  have hmb := blk_lt hb
  obtain ⟨f0, f1, f2, f3, f4, f5⟩ := ne_sizes hmb
  obtain ⟨g1, g2, g3, _⟩ := lt_sizes hsb
  have hc0 := cell_of_cells hc 0
  simp at hc0
  clear hs hp e hset hl hc
  unfold OpV.val
  by_cases hgo : B = true ∧ A = xo
  · obtain ⟨rfl, rfl⟩ := hgo
    have hp : (if true && decide (A = A) then (pm, (⟨pc, pf, pv⟩ : Rs)) else (m, ⟨0, false, A⟩)) = (pm, ⟨pc, pf, pv⟩) := by simp
    rw [hp]
    clear hp
    go_enter Try.func36, Try.ntmps36
    go_wp2
    go_quiet (fail)
    go_wp2_with fail
    have hW : Ext (fun _ => False) w (((w.alloc (.cells #[.int .i64 xk, .string key, .int .i64 xv, .int .i64 A] 24)).alloc (.cells #[.int .i64 0, .bool false, .int .i64 0] 31)).drewN nq) := (((Ext.refl _ w).alloc _).alloc _).drewN _
    have hbR := blk_alloc_at (w.alloc (.cells #[.int .i64 xk, .string key, .int .i64 xv, .int .i64 A] 24)) (.cells #[.int .i64 0, .bool false, .int .i64 0] 31)
    refine (Hset.out _ (Hs.out.ext hW id id)).mono ?_
    rintro r w5 ⟨rfl, hs5, hx5⟩
    simp only [World.size_alloc] at hbR
    have hb5 := (hx5.blk (blk_lt (w := World.drewN _ nq) hbR) (by omega)).trans hbR
    obtain ⟨c0, c1, c2, f0, f1, f2⟩ := tail_reads hb5
    obtain ⟨d0, d1, d2, hx6⟩ := tail_done hb5 (.int .i64 pc) (.bool pf) (.int .i64 pv)
    have HP : Hid (OpPost w sb mb (pm, ⟨pc, pf, pv⟩) (.returned (Rs.val ⟨pc, pf, pv⟩)) (set3 w5 (w.heap.size + 1) (.int .i64 pc) (.bool pf) (.int .i64 pv))) := Lib.hid (tail_post hlt hW hx5 hs5 (by omega) hx6)
    have hlt5 := blk_lt hb5
    have D := Lib.hid (And.intro d0 (And.intro d1 d2))
    clear hb5 hx6 hs5 hx5 hbR hW d0 d1 d2 hlk hb hc0 f3 f4 f5
    simp only [Rs.val]
    go_wp2
    clear c0 c1 c2 f0 f1 f2
    have D := D.out
    have HP := HP.out
    unfold set3 at D HP
    generalize ((w5.setCell ⟨w.heap.size + 1, 0, none⟩ (.int .i64 pc)).setCell ⟨w.heap.size + 1, 1, none⟩ (.bool pf)).setCell ⟨w.heap.size + 1, 2, none⟩ (.int .i64 pv) = w6 at *
    obtain ⟨d0, d1, d2⟩ := D
    exact bodyPost_ret (v := .agg #[.int .i64 pc, .bool pf, .int .i64 pv]) (by simp [results, Try.results36, go_sem, d0, d1, d2]) rfl HP
  · have hp : (if B && decide (A = xo) then (pm, (⟨pc, pf, pv⟩ : Rs)) else (m, ⟨0, false, A⟩)) = (m, ⟨0, false, A⟩) := by
      rw [if_neg (by simpa using hgo)]
    rw [hp]
    have hgo' : B = true → ¬ A = xo := fun h1 h2 => hgo ⟨h1, h2⟩
    have Hgo := Lib.hid hgo'
    clear hp hgo hgo' Hset
    cases B
    all_goals
      try (have hne : (A != xo) = true := by simpa using Hgo.out rfl)
      go_enter Try.func36, Try.ntmps36
      go_wp2
      go_quiet (fail)
      go_wp2
      refine bodyPost_ret (v := .agg #[.int .i64 0, .bool false, .int .i64 A]) (by simp [results, Try.results36, go_sem]) rfl ⟨?_, ?_, ?_⟩
      · rfl
      · exact Hs.out.ext (S := fun _ => False) (by repeat (first | exact Ext.refl _ _ | apply Ext.drewN | apply Ext.drew | apply Ext.alloc | refine Ext.setCell ?_ _ (fun h => absurd h (Nat.not_lt.2 (Nat.le_succ _))))) id id
      · repeat (first | exact Ext.refl _ _ | apply Ext.drewN | apply Ext.drew | apply Ext.alloc | refine Ext.setCell ?_ _ (fun h => absurd h (Nat.not_lt.2 (Nat.le_succ _))))
set_option maxRecDepth 100000 in
set_option maxHeartbeats 2000000 in
theorem add_any (w : World) (sb mb : Nat) (m : KM) (hs : IsStore w sb mb m) (hm : m.length ≤ 1000000) (x : OpV) :
    Calls Try.prog 37 #[.pointer (some ⟨sb, 0, none⟩), x.val] w (OpPost w sb mb (addM m x)) := by
  have ⟨hc, es, clock, hb, hl, _⟩ := hs
  obtain ⟨xk, key, xv, xo⟩ := x
  have hlt := hs.lt
  have hlk := store_lookup1 (mb := mb) (clock := clock) hl key
  obtain ⟨p, hp⟩ : ∃ p, addM m ⟨xk, key, xv, xo⟩ = p := ⟨_, rfl⟩
  have hset := fun (W : World) (hW : IsStore W sb mb m) => set_any W sb mb m hW key (wrap64 ((assoc m key).getD 0 + xv)) hm
  rw [hp]
  rw [show setM m key (wrap64 ((assoc m key).getD 0 + xv)) = p from hp] at hset
  generalize (assoc m key).getD 0 = A at hlk hset
  have Hset := Lib.hid hset
  have Hs := Lib.hid hs
  obtain ⟨pm, pc, pf, pv⟩ := p
  have hsb := blk_lt hc
  have hmb := blk_lt hb
  obtain ⟨f0, f1, f2, f3, f4, f5⟩ := ne_sizes hmb
  obtain ⟨g1, g2, g3, _⟩ := lt_sizes hsb
  have hc0 := cell_of_cells hc 0
  simp at hc0
  clear hs hp hset hl hc
  unfold OpV.val
  go_enter Try.func37, Try.ntmps37
  go_wp2
  refine wp_region_tail 13 (by kernel_rfl) (by kernel_rfl) ?_
  simp only [List.take_succ_cons, List.take_zero, List.drop_succ_cons, List.drop_zero]
  repeat still_step
  refine wpStill_nil ?_
  go_wp2_with fail
  have hW : Ext (fun _ => False) w (((w.alloc (.cells #[.int .i64 xk, .string key, .int .i64 xv, .int .i64 xo] 24)).alloc (.cells #[.int .i64 0, .bool false, .int .i64 0] 31)).drew) := (((Ext.refl _ w).alloc _).alloc _).drew
  have hbR := blk_alloc_at (w.alloc (.cells #[.int .i64 xk, .string key, .int .i64 xv, .int .i64 xo] 24)) (.cells #[.int .i64 0, .bool false, .int .i64 0] 31)
  refine (Hset.out _ (Hs.out.ext hW id id)).mono ?_
  rintro r w5 ⟨rfl, hs5, hx5⟩
  simp only [World.size_alloc] at hbR
  have hb5 := (hx5.blk (blk_lt (w := World.drew _) hbR) (by omega)).trans hbR
  obtain ⟨c0, c1, c2, f0, f1, f2⟩ := tail_reads hb5
  obtain ⟨d0, d1, d2, hx6⟩ := tail_done hb5 (.int .i64 pc) (.bool pf) (.int .i64 pv)
  have HP : Hid (OpPost w sb mb (pm, ⟨pc, pf, pv⟩) (.returned (Rs.val ⟨pc, pf, pv⟩)) (set3 w5 (w.heap.size + 1) (.int .i64 pc) (.bool pf) (.int .i64 pv))) := Lib.hid (tail_post hlt hW hx5 hs5 (by omega) hx6)
  have hlt5 := blk_lt hb5
  have D := Lib.hid (And.intro d0 (And.intro d1 d2))
  clear hb5 hx6 hs5 hx5 hbR hW d0 d1 d2 hlk hb hc0 f3 f4 f5
  simp only [Rs.val]
  go_wp2
  clear c0 c1 c2 f0 f1 f2
  have D := D.out
  have HP := HP.out
  unfold set3 at D HP
  generalize ((w5.setCell ⟨w.heap.size + 1, 0, none⟩ (.int .i64 pc)).setCell ⟨w.heap.size + 1, 1, none⟩ (.bool pf)).setCell ⟨w.heap.size + 1, 2, none⟩ (.int .i64 pv) = w6 at *
  obtain ⟨d0, d1, d2⟩ := D
  exact bodyPost_ret (v := .agg #[.int .i64 pc, .bool pf, .int .i64 pv]) (by simp [results, Try.results37, go_sem, d0, d1, d2]) rfl HP
end Go.Proofs.Ythipbmppmgkklaa
