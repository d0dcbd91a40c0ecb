/-
  The reference of package session: Note, whatever is asked; Ints. Conditions: IsRef.
-/
import Derived.Test.YthligdgkhmgagaaSY
import Derived.Test.YthligdgkhmgagaaSQ
import Derived.Test.YthligdgkhmgagaaSR
namespace Go.Proofs.Ythligdgkhmgagaa
open Go.RowKit Go.MapKept
open Go.ChangeMaps (setBlock)

set_option maxRecDepth 100000 in
set_option maxHeartbeats 2000000 in
theorem rnote_out (w : World) (a1 : Option Addr) (m1 p1 : Nat) (g : Int) (a2 : Option Addr) (m2 p2 : Nat) (c n : Int) (s : Int) (h : inB c n = false) :
    Calls Try.prog 30 #[.agg #[.slice a1 m1 p1, .int .i64 g, .slice a2 m2 p2], .int .i64 c, .int .i64 n, .int .i64 s] w (StayPost w (.tuple #[.agg #[.slice a1 m1 p1, .int .i64 g, .slice a2 m2 p2], .int .i64 1])) := by
  by_cases h1 : inI c = false
  · have H1 := Lib.hid (fun W => rin_yes h1 W)
    clear h h1
    go_enter Try.func30, Try.ntmps30
    go_wp2_with fail
    obtain ⟨hp0, hp1, hxw⟩ := boxes_laid w (.slice a1 m1 p1) (.int .i64 g) (.slice a2 m2 p2) (.slice none 0 0) (.int .i64 0) (.slice none 0 0) 39
    generalize ((w.alloc (.cells #[.slice a1 m1 p1, .int .i64 g, .slice a2 m2 p2] 39)).alloc (.cells #[.slice none 0 0, .int .i64 0, .slice none 0 0] 39)) = w1 at *
    refine (H1.out _).mono ?_
    rintro r w' ⟨rfl, hw⟩; obtain rfl := hw.symm
    obtain ⟨d0, d1, d2⟩ := box_cells hp0
    obtain ⟨e0, e1, e2⟩ := box_cells hp1
    have g0 := free_of_cells hp1 0
    have g1 := free_of_cells hp1 1
    have g2 := free_of_cells hp1 2
    have hlt := blk_lt hp1
    obtain ⟨z0, z1, z2, hx9⟩ := set3_done hp1 (.slice a1 m1 p1) (.int .i64 g) (.slice a2 m2 p2)
    have HX := Lib.hid (hxw.own hx9 (fun k (e : k = w.heap.size + 1) => by omega))
    have HZ := Lib.hid (And.intro z0 (And.intro z1 z2))
    clear hp0 hp1 hxw hx9 z0 z1 z2
    unfold set3 at HX HZ
    go_wp2
    have HZ := HZ.out
    have HX := HX.out
    clear d0 d1 d2 e0 e1 e2 g0 g1 g2
    generalize ((w1.setCell ⟨w.heap.size + 1, 0, none⟩ (.slice a1 m1 p1)).setCell ⟨w.heap.size + 1, 1, none⟩ (.int .i64 g)).setCell ⟨w.heap.size + 1, 2, none⟩ (.slice a2 m2 p2) = w9 at *
    obtain ⟨z0, z1, z2⟩ := HZ
    exact bodyPost_ret (v := .tuple #[.agg #[.slice a1 m1 p1, .int .i64 g, .slice a2 m2 p2], .int .i64 1]) (by simp [results, Try.results30, go_sem, z0, z1, z2]) rfl ⟨rfl, HX⟩
  · have h1' : inI c = true := by simpa using h1
    have h2 : inI n = false := by unfold inB at h; rw [h1'] at h; simpa using h
    have H1 := Lib.hid (fun W => rin_yes h1' W)
    have H2 := Lib.hid (fun W => rin_yes h2 W)
    clear h h1 h2 h1'
    go_enter Try.func30, Try.ntmps30
    go_wp2_with fail
    obtain ⟨hp0, hp1, hxw⟩ := boxes_laid w (.slice a1 m1 p1) (.int .i64 g) (.slice a2 m2 p2) (.slice none 0 0) (.int .i64 0) (.slice none 0 0) 39
    generalize ((w.alloc (.cells #[.slice a1 m1 p1, .int .i64 g, .slice a2 m2 p2] 39)).alloc (.cells #[.slice none 0 0, .int .i64 0, .slice none 0 0] 39)) = w1 at *
    refine (H1.out _).mono ?_
    rintro r w' ⟨rfl, hw⟩; obtain rfl := hw.symm
    go_wp2_with fail
    refine (H2.out _).mono ?_
    rintro r w' ⟨rfl, hw⟩; obtain rfl := hw.symm
    obtain ⟨d0, d1, d2⟩ := box_cells hp0
    obtain ⟨e0, e1, e2⟩ := box_cells hp1
    have g0 := free_of_cells hp1 0
    have g1 := free_of_cells hp1 1
    have g2 := free_of_cells hp1 2
    have hlt := blk_lt hp1
    obtain ⟨z0, z1, z2, hx9⟩ := set3_done hp1 (.slice a1 m1 p1) (.int .i64 g) (.slice a2 m2 p2)
    have HX := Lib.hid (hxw.own hx9 (fun k (e : k = w.heap.size + 1) => by omega))
    have HZ := Lib.hid (And.intro z0 (And.intro z1 z2))
    clear hp0 hp1 hxw hx9 z0 z1 z2
    unfold set3 at HX HZ
    go_wp2
    have HZ := HZ.out
    have HX := HX.out
    clear d0 d1 d2 e0 e1 e2 g0 g1 g2
    generalize ((w1.setCell ⟨w.heap.size + 1, 0, none⟩ (.slice a1 m1 p1)).setCell ⟨w.heap.size + 1, 1, none⟩ (.int .i64 g)).setCell ⟨w.heap.size + 1, 2, none⟩ (.slice a2 m2 p2) = w9 at *
    obtain ⟨z0, z1, z2⟩ := HZ
    exact bodyPost_ret (v := .tuple #[.agg #[.slice a1 m1 p1, .int .i64 g, .slice a2 m2 p2], .int .i64 1]) (by simp [results, Try.results30, go_sem, z0, z1, z2]) rfl ⟨rfl, HX⟩
set_option maxRecDepth 100000 in
set_option maxHeartbeats 2000000 in
theorem rnote_low (w : World) (a1 : Option Addr) (m1 p1 : Nat) (g : Int) (a2 : Option Addr) (m2 p2 : Nat) (c n : Int) (s : Int) (hin : inB c n = true) (hlt' : c < g) :
    Calls Try.prog 30 #[.agg #[.slice a1 m1 p1, .int .i64 g, .slice a2 m2 p2], .int .i64 c, .int .i64 n, .int .i64 s] w (StayPost w (.tuple #[.agg #[.slice a1 m1 p1, .int .i64 g, .slice a2 m2 p2], .int .i64 12])) := by
  have h1 : inI c = true := by unfold inB at hin; simp at hin; exact hin.1
  have h2 : inI n = true := by unfold inB at hin; simp at hin; exact hin.2
  have H1 := Lib.hid (fun W => rin_yes h1 W)
  have H2 := Lib.hid (fun W => rin_yes h2 W)
  clear h1 h2 hin
  go_enter Try.func30, Try.ntmps30
  go_wp2_with fail
  obtain ⟨hp0, hp1, hxw⟩ := boxes_laid w (.slice a1 m1 p1) (.int .i64 g) (.slice a2 m2 p2) (.slice none 0 0) (.int .i64 0) (.slice none 0 0) 39
  generalize ((w.alloc (.cells #[.slice a1 m1 p1, .int .i64 g, .slice a2 m2 p2] 39)).alloc (.cells #[.slice none 0 0, .int .i64 0, .slice none 0 0] 39)) = w1 at *
  refine (H1.out _).mono ?_
  rintro r w' ⟨rfl, hw⟩; obtain rfl := hw.symm
  go_wp2_with fail
  refine (H2.out _).mono ?_
  rintro r w' ⟨rfl, hw⟩; obtain rfl := hw.symm
  obtain ⟨d0, d1, d2⟩ := box_cells hp0
  obtain ⟨e0, e1, e2⟩ := box_cells hp1
  have g0 := free_of_cells hp1 0
  have g1 := free_of_cells hp1 1
  have g2 := free_of_cells hp1 2
  have hlt := blk_lt hp1
  obtain ⟨z0, z1, z2, hx9⟩ := set3_done hp1 (.slice a1 m1 p1) (.int .i64 g) (.slice a2 m2 p2)
  have HX := Lib.hid (hxw.own hx9 (fun k (e : k = w.heap.size + 1) => by omega))
  have HZ := Lib.hid (And.intro z0 (And.intro z1 z2))
  clear hp0 hp1 hxw hx9 z0 z1 z2
  unfold set3 at HX HZ
  go_wp2
  have HZ := HZ.out
  have HX := HX.out
  clear d0 d1 d2 e0 e1 e2 g0 g1 g2
  generalize ((w1.setCell ⟨w.heap.size + 1, 0, none⟩ (.slice a1 m1 p1)).setCell ⟨w.heap.size + 1, 1, none⟩ (.int .i64 g)).setCell ⟨w.heap.size + 1, 2, none⟩ (.slice a2 m2 p2) = w9 at *
  obtain ⟨z0, z1, z2⟩ := HZ
  exact bodyPost_ret (v := .tuple #[.agg #[.slice a1 m1 p1, .int .i64 g, .slice a2 m2 p2], .int .i64 12]) (by simp [results, Try.results30, go_sem, z0, z1, z2]) rfl ⟨rfl, HX⟩
set_option maxRecDepth 100000 in
set_option maxHeartbeats 2000000 in
theorem rnote_known (w : World) (a1 : Option Addr) (m1 p1 : Nat) (g : Int) (a2 : Option Addr) (m2 p2 : Nat) (c n : Int) (s : Int) (hin : inB c n = true) (hge : g ≤ c) (A : Int)
    (hlast : ∀ W, Ext (fun _ => False) w W → Calls Try.prog 29 #[.agg #[.slice a1 m1 p1, .int .i64 g, .slice a2 m2 p2], .int .i64 c, .int .i64 n] W (StayPost W (.tuple #[.int .i64 A, .bool true]))) :
    Calls Try.prog 30 #[.agg #[.slice a1 m1 p1, .int .i64 g, .slice a2 m2 p2], .int .i64 c, .int .i64 n, .int .i64 s] w (StayPost w (.tuple #[.agg #[.slice a1 m1 p1, .int .i64 g, .slice a2 m2 p2], .int .i64 5])) := by
  have hge' : ¬ c < g := by omega
  have h1 : inI c = true := by unfold inB at hin; simp at hin; exact hin.1
  have h2 : inI n = true := by unfold inB at hin; simp at hin; exact hin.2
  have H1 := Lib.hid (fun W => rin_yes h1 W)
  have H2 := Lib.hid (fun W => rin_yes h2 W)
  have Hlast := Lib.hid hlast
  clear h1 h2 hin hlast
  go_enter Try.func30, Try.ntmps30
  go_wp2_with fail
  obtain ⟨hp0, hp1, hxw⟩ := boxes_laid w (.slice a1 m1 p1) (.int .i64 g) (.slice a2 m2 p2) (.slice none 0 0) (.int .i64 0) (.slice none 0 0) 39
  generalize ((w.alloc (.cells #[.slice a1 m1 p1, .int .i64 g, .slice a2 m2 p2] 39)).alloc (.cells #[.slice none 0 0, .int .i64 0, .slice none 0 0] 39)) = w1 at *
  refine (H1.out _).mono ?_
  rintro r w' ⟨rfl, hw⟩; obtain rfl := hw.symm
  go_wp2_with fail
  refine (H2.out _).mono ?_
  rintro r w' ⟨rfl, hw⟩; obtain rfl := hw.symm
  obtain ⟨b0, b1, b2⟩ := box_cells hp0
  go_wp2_with fail
  refine (Hlast.out _ hxw).mono ?_
  rintro r w2 ⟨rfl, hx2⟩
  have hp0 := (hx2.blk (blk_lt hp0) id).trans hp0
  have hp1 := (hx2.blk (blk_lt hp1) id).trans hp1
  have hxw := hxw.trans hx2
  obtain ⟨d0, d1, d2⟩ := box_cells hp0
  obtain ⟨e0, e1, e2⟩ := box_cells hp1
  have g0 := free_of_cells hp1 0
  have g1 := free_of_cells hp1 1
  have g2 := free_of_cells hp1 2
  have hlt := blk_lt hp1
  obtain ⟨z0, z1, z2, hx9⟩ := set3_done hp1 (.slice a1 m1 p1) (.int .i64 g) (.slice a2 m2 p2)
  have HX := Lib.hid (hxw.own hx9 (fun k (e : k = w.heap.size + 1) => by omega))
  have HZ := Lib.hid (And.intro z0 (And.intro z1 z2))
  clear hp0 hp1 hxw hx9 z0 z1 z2 hx2 b0 b1 b2
  unfold set3 at HX HZ
  go_wp2
  have HZ := HZ.out
  have HX := HX.out
  clear d0 d1 d2 e0 e1 e2 g0 g1 g2
  generalize ((w2.setCell ⟨w.heap.size + 1, 0, none⟩ (.slice a1 m1 p1)).setCell ⟨w.heap.size + 1, 1, none⟩ (.int .i64 g)).setCell ⟨w.heap.size + 1, 2, none⟩ (.slice a2 m2 p2) = w9 at *
  obtain ⟨z0, z1, z2⟩ := HZ
  exact bodyPost_ret (v := .tuple #[.agg #[.slice a1 m1 p1, .int .i64 g, .slice a2 m2 p2], .int .i64 5]) (by simp [results, Try.results30, go_sem, z0, z1, z2]) rfl ⟨rfl, HX⟩
theorem rnote_any (w : World) (v : Value) (T : Tbl) (hr : IsRef w v T) (hg : TOk T) (hl : T.st.length ≤ 1000000) (g s c : Int) :
    Calls Try.prog 30 #[v, .int .i64 g, .int .i64 s, .int .i64 c] w (RefPost w (noteM T g s c)) := by
  cases h : inB g s with
  | false =>
    rw [(noteM_bad (T := T) (c := c) h).2]
    obtain ⟨a1, m1, p1, a2, m2, p2, rfl⟩ := hr.shape
    exact (rnote_out w a1 m1 p1 T.gen a2 m2 p2 g s c h).mono fun r w' h => RefPost.stay hr h
  | true =>
    rcases Int.lt_trichotomy g T.gen with h1 | h1 | h1
    · rw [(noteM_low (c := c) h h1).2]
      obtain ⟨a1, m1, p1, a2, m2, p2, rfl⟩ := hr.shape
      exact (rnote_low w a1 m1 p1 T.gen a2 m2 p2 g s c h h1).mono fun r w' h => RefPost.stay hr h
    · obtain ⟨hA, hN⟩ := noteM_same (s := s) (c := c) h h1.symm
      rw [hN]
      cases hi : iget T.st s with
      | some x =>
        rw [if_pos (by simp)]
        have hadm := fun (W : World) (hx : Ext (fun _ => False) w W) => radmin_any W v T (hr.keep hx) hg hl g s
        rw [hA, hi] at hadm
        obtain ⟨a1, m1, p1, a2, m2, p2, rfl⟩ := hr.shape
        exact (rnote_known w a1 m1 p1 T.gen a2 m2 p2 g s c h (by omega) _ hadm).mono fun r w' h => RefPost.stay hr h
      | none =>
        rw [if_neg (by simp)]
        exact rnote_put w v T hr hg hl g s c h h1.symm hi
    · rw [(noteM_high (c := c) h h1).2]
      exact rnote_high w v T hr hg hl g s c h h1
end Go.Proofs.Ythligdgkhmgagaa
