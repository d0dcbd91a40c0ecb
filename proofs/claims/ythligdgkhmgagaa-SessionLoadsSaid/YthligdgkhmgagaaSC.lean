/-
  Package session: Answer, Client, Admin, Note, Last, Generation answer as the model says. Conditions: none beyond IsTable.
-/
import Derived.Test.YthligdgkhmgagaaSB
namespace Go.Proofs.Ythligdgkhmgagaa
open Go.RowKit Go.MapKept
open Go.ChangeMaps (setBlock)

theorem in_yes {a b : Int} {x : Bool} (h : inB a b = x) (g cap : Nat) (w : World) (h0 : w.cell? ⟨g, 0, none⟩ = some (.int .i64 a)) (h1 : w.cell? ⟨g, 1, none⟩ = some (.int .i64 b)) :
    Calls Try.prog 24 #[.slice (some ⟨g, 0, none⟩) 2 cap] w fun r w' => r = .returned (.bool x) ∧ w' = w := by
  subst h; exact in_any g cap a b w h0 h1
theorem lookup_clients {es : Array MapEntry} {clock cb : Nat} {l : List (Int × Ans)} (hl : IntMap es (imap Ans.v l)) (k : Int) (W : World) (hW : blk W cb = some (.map es clock)) :
    (Instr.lookup 57 (.map (some cb)) (.int .i64 k) true).run Try.prog W = .ok (.tuple #[((iget l k).getD ⟨0, .empty⟩).v, .bool (iget l k).isSome]) W := by
  have := run_lookup_int (P := Try.prog) Try.underlying57 Try.underlying3 hW hl (zeroAns W) k true
  rw [iget_imap] at this
  cases h : iget l k <;> simpa [h, Ans.v] using this
theorem lookup_clients1 {es : Array MapEntry} {clock cb : Nat} {l : List (Int × Ans)} (hl : IntMap es (imap Ans.v l)) (k : Int) (W : World) (hW : blk W cb = some (.map es clock)) :
    (Instr.lookup 57 (.map (some cb)) (.int .i64 k) false).run Try.prog W = .ok ((iget l k).getD ⟨0, .empty⟩).v W := by
  have := run_lookup_int (P := Try.prog) Try.underlying57 Try.underlying3 hW hl (zeroAns W) k false
  rw [iget_imap] at this
  cases h : iget l k <;> simpa [h, Ans.v] using this
theorem lookup_steps {es : Array MapEntry} {clock sb : Nat} {l : List (Int × Int)} (hl : IntMap es (imap codeV l)) (k : Int) (W : World) (hW : blk W sb = some (.map es clock)) :
    (Instr.lookup 58 (.map (some sb)) (.int .i64 k) true).run Try.prog W = .ok (.tuple #[.int .i64 ((iget l k).getD 0), .bool (iget l k).isSome]) W := by
  have := run_lookup_int (P := Try.prog) Try.underlying58 Try.underlying3 hW hl (zeroErr W) k true
  rw [iget_imap] at this
  cases h : iget l k <;> simpa [h, codeV] using this
theorem field_ans (a : Int) (b : ByteArray) (W : World) : (Instr.field 63 (.agg #[.int .i64 a, .string b]) 0).run Try.prog W = .ok (.int .i64 a) W := by kernel_rfl
theorem lastM_eq (T : Tbl) (c : Int) : lastM T c = ((iget T.cl c).getD ⟨0, .empty⟩).n := by
  unfold lastM; cases iget T.cl c <;> rfl
set_option maxRecDepth 100000 in
set_option maxHeartbeats 1000000 in
theorem last_any (w : World) (tb cb sb : Nat) (T : Tbl) (hs : IsTable w tb cb sb T) (c : Int) :
    Calls Try.prog 13 #[.pointer (some ⟨tb, 0, none⟩), .int .i64 c] w fun r w' => r = .returned (.int .i64 (lastM T c)) ∧ w' = w := by
  have ⟨hc, ⟨es, clock, hb, hl, _⟩, _⟩ := hs
  have hlk := lookup_clients1 (cb := cb) (clock := clock) hl c
  rw [lastM_eq]
  generalize (iget T.cl c).getD ⟨0, .empty⟩ = x at *
  obtain ⟨n, s⟩ := x
  have hfd := field_ans
  have hc0 := cell_of_cells hc 0
  simp at hc0
  simp only [Ans.v] at hlk
  clear hs hc hl
  go_enter Try.func13, Try.ntmps13
  go_wp2
  go_ret
  exact ⟨rfl, rfl⟩
set_option maxRecDepth 100000 in
set_option maxHeartbeats 1000000 in
theorem generation_any (w : World) (tb cb sb : Nat) (T : Tbl) (hs : IsTable w tb cb sb T) :
    Calls Try.prog 17 #[.pointer (some ⟨tb, 0, none⟩)] w fun r w' => r = .returned (.int .i64 T.gen) ∧ w' = w := by
  have ⟨hc, _⟩ := hs
  have hc0 := cell_of_cells hc 1
  simp at hc0
  clear hs hc
  go_enter Try.func17, Try.ntmps17
  go_wp2
  go_ret
  exact ⟨rfl, rfl⟩
/-- the post of a call that changes nothing -/
def StayPost (w : World) (v : Value) (r : Ending) (w' : World) : Prop := r = .returned v ∧ Ext (fun _ => False) w w'
set_option maxRecDepth 100000 in
set_option maxHeartbeats 1000000 in
theorem client_any (w : World) (tb cb sb : Nat) (T : Tbl) (hs : IsTable w tb cb sb T) (c n : Int) :
    Calls Try.prog 20 #[.pointer (some ⟨tb, 0, none⟩), .int .i64 c, .int .i64 n] w (StayPost w (.tuple #[.string (clientM T c n).1, .int .i64 (clientM T c n).2])) := by
  have ⟨hc, ⟨es, clock, hb, hl, _⟩, _⟩ := hs
  have hlk := lookup_clients (cb := cb) (clock := clock) hl c
  have hlt := hs.lt
  obtain ⟨ht, hcb, _⟩ := hlt
  obtain ⟨f0, f1, f2, f3, f4, f5⟩ := ne_sizes hcb
  obtain ⟨g1, g2, g3, _⟩ := lt_sizes ht
  have hc0 := cell_of_cells hc 0
  simp at hc0
  clear hc hl hs
  by_cases hin : inB c n = false
  · have hm : clientM T c n = (.empty, 1) := by unfold clientM; rw [if_pos hin]
    have Hin := Lib.hid (fun g cap W a b => in_yes hin g cap W a b)
    rw [hm]
    clear hm hin hlk
    go_enter Try.func20, Try.ntmps20
    go_wp2_with fail
    refine (Hin.out _ _ _ (by simp) (by simp)).mono ?_
    rintro r w' ⟨rfl, hw⟩; obtain rfl := hw.symm
    go_wp2
    go_ret2
    exact ⟨rfl, (Ext.refl _ w).alloc _⟩
  · have hin' : inB c n = true := by simpa using hin
    have Hin := Lib.hid (fun g cap W a b => in_yes hin' g cap W a b)
    cases hg : iget T.cl c with
    | none =>
      have hm : clientM T c n = (.empty, 6) := by unfold clientM; rw [if_neg hin, hg]
      rw [hg] at hlk
      simp only [Option.getD_none, Option.isSome_none, Ans.v] at hlk
      rw [hm]
      clear hm hin hin' hg
      go_enter Try.func20, Try.ntmps20
      go_wp2_with fail
      refine (Hin.out _ _ _ (by simp) (by simp)).mono ?_
      rintro r w' ⟨rfl, hw⟩; obtain rfl := hw.symm
      go_wp2
      go_ret2
      exact ⟨rfl, ((Ext.refl _ w).alloc _).alloc _⟩
    | some x =>
      obtain ⟨xn, xs⟩ := x
      rw [hg] at hlk
      simp only [Option.getD_some, Option.isSome_some, Ans.v] at hlk
      by_cases h1 : xn < n
      · have hm : clientM T c n = (.empty, 6) := by unfold clientM; rw [if_neg hin, hg]; simp only; rw [if_pos h1]
        rw [hm]
        clear hm hin hin' hg
        go_enter Try.func20, Try.ntmps20
        go_wp2_with fail
        refine (Hin.out _ _ _ (by simp) (by simp)).mono ?_
        rintro r w' ⟨rfl, hw⟩; obtain rfl := hw.symm
        go_wp2
        go_ret2
        exact ⟨rfl, ((Ext.refl _ w).alloc _).alloc _⟩
      · by_cases h2 : n < xn
        · have hm : clientM T c n = (.empty, 9) := by unfold clientM; rw [if_neg hin, hg]; simp only; rw [if_neg h1, if_pos h2]
          rw [hm]
          clear hm hin hin' hg
          go_enter Try.func20, Try.ntmps20
          go_wp2_with fail
          refine (Hin.out _ _ _ (by simp) (by simp)).mono ?_
          rintro r w' ⟨rfl, hw⟩; obtain rfl := hw.symm
          go_wp2
          go_ret2
          exact ⟨rfl, ((Ext.refl _ w).alloc _).alloc _⟩
        · have hm : clientM T c n = (xs, 0) := by unfold clientM; rw [if_neg hin, hg]; simp only; rw [if_neg h1, if_neg h2]
          rw [hm]
          clear hm hin hin' hg
          go_enter Try.func20, Try.ntmps20
          go_wp2_with fail
          refine (Hin.out _ _ _ (by simp) (by simp)).mono ?_
          rintro r w' ⟨rfl, hw⟩; obtain rfl := hw.symm
          go_wp2
          go_ret2
          exact ⟨rfl, ((Ext.refl _ w).alloc _).alloc _⟩
set_option maxRecDepth 100000 in
set_option maxHeartbeats 1000000 in
theorem admin_any (w : World) (tb cb sb : Nat) (T : Tbl) (hs : IsTable w tb cb sb T) (g s : Int) :
    Calls Try.prog 18 #[.pointer (some ⟨tb, 0, none⟩), .int .i64 g, .int .i64 s] w (StayPost w (.tuple #[.int .i64 (adminM T g s).1, .bool (adminM T g s).2])) := by
  have ⟨hc, _, ⟨es, clock, hb, hl, _⟩, _⟩ := hs
  have hlk := lookup_steps (sb := sb) (clock := clock) hl s
  obtain ⟨ht, _, hsb⟩ := hs.lt
  obtain ⟨f0, f1, f2, f3, f4, f5⟩ := ne_sizes hsb
  obtain ⟨g1, g2, g3, _⟩ := lt_sizes ht
  have hc1 := cell_of_cells hc 1
  have hc2 := cell_of_cells hc 2
  simp at hc1 hc2
  clear hc hl hs
  by_cases hin : inB g s = false
  · have hm : adminM T g s = (1, true) := by unfold adminM; rw [if_pos hin]
    have Hin := Lib.hid (fun g cap W a b => in_yes hin g cap W a b)
    rw [hm]
    clear hm hin hlk
    go_enter Try.func18, Try.ntmps18
    go_wp2_with fail
    refine (Hin.out _ _ _ (by simp) (by simp)).mono ?_
    rintro r w' ⟨rfl, hw⟩; obtain rfl := hw.symm
    go_wp2
    go_ret2
    exact ⟨rfl, (Ext.refl _ w).alloc _⟩
  · have hin' : inB g s = true := by simpa using hin
    have Hin := Lib.hid (fun g cap W a b => in_yes hin' g cap W a b)
    obtain ⟨G, hG⟩ : ∃ G, T.gen = G := ⟨_, rfl⟩
    by_cases h1 : g < G
    · have hm : adminM T g s = (12, true) := by unfold adminM; rw [if_neg hin, hG, if_pos h1]
      rw [hm]
      rw [hG] at hc1
      clear hm hin hin' hlk hG
      go_enter Try.func18, Try.ntmps18
      go_wp2_with fail
      refine (Hin.out _ _ _ (by simp) (by simp)).mono ?_
      rintro r w' ⟨rfl, hw⟩; obtain rfl := hw.symm
      go_wp2
      go_ret2
      exact ⟨rfl, (Ext.refl _ w).alloc _⟩
    · by_cases h2 : G < g
      · have hm : adminM T g s = (0, false) := by unfold adminM; rw [if_neg hin, hG, if_neg h1, if_pos h2]
        rw [hm]
        rw [hG] at hc1
        clear hm hin hin' hlk hG
        go_enter Try.func18, Try.ntmps18
        go_wp2_with fail
        refine (Hin.out _ _ _ (by simp) (by simp)).mono ?_
        rintro r w' ⟨rfl, hw⟩; obtain rfl := hw.symm
        go_wp2
        go_ret2
        exact ⟨rfl, (Ext.refl _ w).alloc _⟩
      · have hm : adminM T g s = ((iget T.st s).getD 0, (iget T.st s).isSome) := by unfold adminM; rw [if_neg hin, hG, if_neg h1, if_neg h2]
        rw [hm]
        rw [hG] at hc1
        generalize (iget T.st s).getD 0 = A at *
        generalize (iget T.st s).isSome = B at *
        clear hm hin hin' hG
        go_enter Try.func18, Try.ntmps18
        go_wp2_with fail
        refine (Hin.out _ _ _ (by simp) (by simp)).mono ?_
        rintro r w' ⟨rfl, hw⟩; obtain rfl := hw.symm
        go_wp2
        go_ret2
        exact ⟨rfl, (Ext.refl _ w).alloc _⟩
end Go.Proofs.Ythligdgkhmgagaa
