/-
  The reference of package session: Answer, whatever is asked. Conditions: none beyond IsRef.
-/
import Derived.Test.YthligdgkhmgagaaSN
namespace Go.Proofs.Ythligdgkhmgagaa
open Go.RowKit Go.MapKept
open Go.ChangeMaps (setBlock)

/-- the two boxes that such a function lays first: its argument's, its result's -/
theorem boxes_laid (w : World) (v0 v1 v2 u0 u1 u2 : Value) (t : TypeId) :
    blk ((w.alloc (.cells #[v0, v1, v2] t)).alloc (.cells #[u0, u1, u2] t)) w.heap.size = some (.cells #[v0, v1, v2] t (0, 0)) ∧
    blk ((w.alloc (.cells #[v0, v1, v2] t)).alloc (.cells #[u0, u1, u2] t)) (w.heap.size + 1) = some (.cells #[u0, u1, u2] t (0, 0)) ∧
    Ext (fun _ => False) w ((w.alloc (.cells #[v0, v1, v2] t)).alloc (.cells #[u0, u1, u2] t)) :=
  ⟨(blk_alloc_past _ _ _ (by simp)).trans (blk_alloc_at _ _), by simpa using blk_alloc_at (w.alloc (.cells #[v0, v1, v2] t)) (.cells #[u0, u1, u2] t), ((Ext.refl _ w).alloc _).alloc _⟩
set_option maxRecDepth 100000 in
set_option maxHeartbeats 2000000 in
theorem ranswer_out (w : World) (a1 : Option Addr) (m1 p1 : Nat) (g : Int) (a2 : Option Addr) (m2 p2 : Nat) (c n : Int) (s : ByteArray) (h : inB c n = false) :
    Calls Try.prog 28 #[.agg #[.slice a1 m1 p1, .int .i64 g, .slice a2 m2 p2], .int .i64 c, .int .i64 n, .string s] w (StayPost w (.tuple #[.agg #[.slice a1 m1 p1, .int .i64 g, .slice a2 m2 p2], .int .i64 1])) := by
  by_cases h1 : inI c = false
  · have H1 := Lib.hid (fun W => rin_yes h1 W)
    clear h h1
    go_enter Try.func28, Try.ntmps28
    go_wp2_with fail
    obtain ⟨hp0, hp1, hxw⟩ := boxes_laid w (.slice a1 m1 p1) (.int .i64 g) (.slice a2 m2 p2) (.slice none 0 0) (.int .i64 0) (.slice none 0 0) 39
    generalize ((w.alloc (.cells #[.slice a1 m1 p1, .int .i64 g, .slice a2 m2 p2] 39)).alloc (.cells #[.slice none 0 0, .int .i64 0, .slice none 0 0] 39)) = w1 at *
    refine (H1.out _).mono ?_
    rintro r w' ⟨rfl, hw⟩; obtain rfl := hw.symm
    obtain ⟨d0, d1, d2⟩ := box_cells hp0
    obtain ⟨e0, e1, e2⟩ := box_cells hp1
    have g0 := free_of_cells hp1 0
    have g1 := free_of_cells hp1 1
    have g2 := free_of_cells hp1 2
    have hlt := blk_lt hp1
    obtain ⟨z0, z1, z2, hx9⟩ := set3_done hp1 (.slice a1 m1 p1) (.int .i64 g) (.slice a2 m2 p2)
    have HX := Lib.hid (hxw.own hx9 (fun k (e : k = w.heap.size + 1) => by omega))
    have HZ := Lib.hid (And.intro z0 (And.intro z1 z2))
    clear hp0 hp1 hxw hx9 z0 z1 z2
    unfold set3 at HX HZ
    go_wp2
    have HZ := HZ.out
    have HX := HX.out
    clear d0 d1 d2 e0 e1 e2 g0 g1 g2
    generalize ((w1.setCell ⟨w.heap.size + 1, 0, none⟩ (.slice a1 m1 p1)).setCell ⟨w.heap.size + 1, 1, none⟩ (.int .i64 g)).setCell ⟨w.heap.size + 1, 2, none⟩ (.slice a2 m2 p2) = w9 at *
    obtain ⟨z0, z1, z2⟩ := HZ
    exact bodyPost_ret (v := .tuple #[.agg #[.slice a1 m1 p1, .int .i64 g, .slice a2 m2 p2], .int .i64 1]) (by simp [results, Try.results28, go_sem, z0, z1, z2]) rfl ⟨rfl, HX⟩
  · have h1' : inI c = true := by simpa using h1
    have h2 : inI n = false := by unfold inB at h; rw [h1'] at h; simpa using h
    have H1 := Lib.hid (fun W => rin_yes h1' W)
    have H2 := Lib.hid (fun W => rin_yes h2 W)
    clear h h1 h2 h1'
    go_enter Try.func28, Try.ntmps28
    go_wp2_with fail
    obtain ⟨hp0, hp1, hxw⟩ := boxes_laid w (.slice a1 m1 p1) (.int .i64 g) (.slice a2 m2 p2) (.slice none 0 0) (.int .i64 0) (.slice none 0 0) 39
    generalize ((w.alloc (.cells #[.slice a1 m1 p1, .int .i64 g, .slice a2 m2 p2] 39)).alloc (.cells #[.slice none 0 0, .int .i64 0, .slice none 0 0] 39)) = w1 at *
    refine (H1.out _).mono ?_
    rintro r w' ⟨rfl, hw⟩; obtain rfl := hw.symm
    go_wp2_with fail
    refine (H2.out _).mono ?_
    rintro r w' ⟨rfl, hw⟩; obtain rfl := hw.symm
    obtain ⟨d0, d1, d2⟩ := box_cells hp0
    obtain ⟨e0, e1, e2⟩ := box_cells hp1
    have g0 := free_of_cells hp1 0
    have g1 := free_of_cells hp1 1
    have g2 := free_of_cells hp1 2
    have hlt := blk_lt hp1
    obtain ⟨z0, z1, z2, hx9⟩ := set3_done hp1 (.slice a1 m1 p1) (.int .i64 g) (.slice a2 m2 p2)
    have HX := Lib.hid (hxw.own hx9 (fun k (e : k = w.heap.size + 1) => by omega))
    have HZ := Lib.hid (And.intro z0 (And.intro z1 z2))
    clear hp0 hp1 hxw hx9 z0 z1 z2
    unfold set3 at HX HZ
    go_wp2
    have HZ := HZ.out
    have HX := HX.out
    clear d0 d1 d2 e0 e1 e2 g0 g1 g2
    generalize ((w1.setCell ⟨w.heap.size + 1, 0, none⟩ (.slice a1 m1 p1)).setCell ⟨w.heap.size + 1, 1, none⟩ (.int .i64 g)).setCell ⟨w.heap.size + 1, 2, none⟩ (.slice a2 m2 p2) = w9 at *
    obtain ⟨z0, z1, z2⟩ := HZ
    exact bodyPost_ret (v := .tuple #[.agg #[.slice a1 m1 p1, .int .i64 g, .slice a2 m2 p2], .int .i64 1]) (by simp [results, Try.results28, go_sem, z0, z1, z2]) rfl ⟨rfl, HX⟩
set_option maxRecDepth 100000 in
set_option maxHeartbeats 2000000 in
theorem ranswer_old (w : World) (a1 : Option Addr) (m1 p1 : Nat) (g : Int) (a2 : Option Addr) (m2 p2 : Nat) (c n : Int) (s : ByteArray) (hin : inB c n = true) (LM : Int) (hle : n ≤ LM)
    (hlast : ∀ W, Ext (fun _ => False) w W → Calls Try.prog 61 #[.agg #[.slice a1 m1 p1, .int .i64 g, .slice a2 m2 p2], .int .i64 c] W (StayPost W (.int .i64 LM))) :
    Calls Try.prog 28 #[.agg #[.slice a1 m1 p1, .int .i64 g, .slice a2 m2 p2], .int .i64 c, .int .i64 n, .string s] w (StayPost w (.tuple #[.agg #[.slice a1 m1 p1, .int .i64 g, .slice a2 m2 p2], .int .i64 9])) := by
  have h1 : inI c = true := by unfold inB at hin; simp at hin; exact hin.1
  have h2 : inI n = true := by unfold inB at hin; simp at hin; exact hin.2
  have H1 := Lib.hid (fun W => rin_yes h1 W)
  have H2 := Lib.hid (fun W => rin_yes h2 W)
  have Hlast := Lib.hid hlast
  clear h1 h2 hin hlast
  go_enter Try.func28, Try.ntmps28
  go_wp2_with fail
  obtain ⟨hp0, hp1, hxw⟩ := boxes_laid w (.slice a1 m1 p1) (.int .i64 g) (.slice a2 m2 p2) (.slice none 0 0) (.int .i64 0) (.slice none 0 0) 39
  generalize ((w.alloc (.cells #[.slice a1 m1 p1, .int .i64 g, .slice a2 m2 p2] 39)).alloc (.cells #[.slice none 0 0, .int .i64 0, .slice none 0 0] 39)) = w1 at *
  refine (H1.out _).mono ?_
  rintro r w' ⟨rfl, hw⟩; obtain rfl := hw.symm
  go_wp2_with fail
  refine (H2.out _).mono ?_
  rintro r w' ⟨rfl, hw⟩; obtain rfl := hw.symm
  obtain ⟨b0, b1, b2⟩ := box_cells hp0
  go_wp2_with fail
  refine (Hlast.out _ hxw).mono ?_
  rintro r w2 ⟨rfl, hx2⟩
  have hp0 := (hx2.blk (blk_lt hp0) id).trans hp0
  have hp1 := (hx2.blk (blk_lt hp1) id).trans hp1
  have hxw := hxw.trans hx2
  obtain ⟨d0, d1, d2⟩ := box_cells hp0
  obtain ⟨e0, e1, e2⟩ := box_cells hp1
  have g0 := free_of_cells hp1 0
  have g1 := free_of_cells hp1 1
  have g2 := free_of_cells hp1 2
  have hlt := blk_lt hp1
  obtain ⟨z0, z1, z2, hx9⟩ := set3_done hp1 (.slice a1 m1 p1) (.int .i64 g) (.slice a2 m2 p2)
  have HX := Lib.hid (hxw.own hx9 (fun k (e : k = w.heap.size + 1) => by omega))
  have HZ := Lib.hid (And.intro z0 (And.intro z1 z2))
  clear hp0 hp1 hxw hx9 z0 z1 z2 hx2 b0 b1 b2
  unfold set3 at HX HZ
  go_wp2
  have HZ := HZ.out
  have HX := HX.out
  clear d0 d1 d2 e0 e1 e2 g0 g1 g2
  generalize ((w2.setCell ⟨w.heap.size + 1, 0, none⟩ (.slice a1 m1 p1)).setCell ⟨w.heap.size + 1, 1, none⟩ (.int .i64 g)).setCell ⟨w.heap.size + 1, 2, none⟩ (.slice a2 m2 p2) = w9 at *
  obtain ⟨z0, z1, z2⟩ := HZ
  exact bodyPost_ret (v := .tuple #[.agg #[.slice a1 m1 p1, .int .i64 g, .slice a2 m2 p2], .int .i64 9]) (by simp [results, Try.results28, go_sem, z0, z1, z2]) rfl ⟨rfl, HX⟩
theorem IsRef.shape {w : World} {v : Value} {T : Tbl} (h : IsRef w v T) : ∃ a1 m1 p1 a2 m2 p2, v = .agg #[.slice a1 m1 p1, .int .i64 T.gen, .slice a2 m2 p2] := by
  obtain ⟨vc, vs, rfl, hc, hs⟩ := h
  obtain ⟨a1, m1, p1, rfl, _⟩ := row_shape' hc
  obtain ⟨a2, m2, p2, rfl, _⟩ := row_shape' hs
  exact ⟨a1, m1, p1, a2, m2, p2, rfl⟩
theorem RefPost.stay {w w' : World} {v : Value} {T : Tbl} {c : Int} {r : Ending} (hr : IsRef w v T) (h : StayPost w (.tuple #[v, .int .i64 c]) r w') : RefPost w (T, c) r w' :=
  ⟨v, h.1, hr.keep h.2, h.2⟩
theorem ranswer_any (w : World) (v : Value) (T : Tbl) (hr : IsRef w v T) (hg : TGood T) (hl : T.cl.length ≤ 1000000) (c n : Int) (s : ByteArray) :
    Calls Try.prog 28 #[v, .int .i64 c, .int .i64 n, .string s] w (RefPost w (answerM T c n s)) := by
  cases hin : inB c n with
  | false =>
    have hm : answerM T c n s = (T, 1) := by unfold answerM; rw [if_pos hin]
    rw [hm]
    obtain ⟨a1, m1, p1, a2, m2, p2, rfl⟩ := hr.shape
    exact (ranswer_out w a1 m1 p1 T.gen a2 m2 p2 c n s hin).mono fun r w' h => RefPost.stay hr h
  | true =>
    by_cases hle : n ≤ lastM T c
    · have hm : answerM T c n s = (T, 9) := by unfold answerM; rw [if_neg (by simp [hin]), if_pos hle]
      rw [hm]
      have hlast := fun (W : World) (hx : Ext (fun _ => False) w W) => rlast_any W v T (hr.keep hx) hg hl c
      obtain ⟨a1, m1, p1, a2, m2, p2, rfl⟩ := hr.shape
      exact (ranswer_old w a1 m1 p1 T.gen a2 m2 p2 c n s hin _ hle hlast).mono fun r w' h => RefPost.stay hr h
    · have hm : answerM T c n s = (⟨iput T.cl c ⟨n, s⟩, T.gen, T.st⟩, 0) := by unfold answerM; rw [if_neg (by simp [hin]), if_neg hle]
      rw [hm]
      exact ranswer_put w v T hr hg hl c n s hin (by omega)
end Go.Proofs.Ythligdgkhmgagaa
