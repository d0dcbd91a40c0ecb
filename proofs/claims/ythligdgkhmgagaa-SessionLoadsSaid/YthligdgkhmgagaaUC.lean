/-
  The laws on package session: step, the kinds that change nothing. Conditions: IsTable, IsRef, Small.
-/
import Derived.Test.YthligdgkhmgagaaUB
namespace Go.Proofs.Ythligdgkhmgagaa
open Go.RowKit Go.MapKept
open Go.ChangeMaps (setBlock)

def StepPost (w : World) (tb cb sb : Nat) (T : Tbl) (r : Ending) (w' : World) : Prop :=
  ∃ sb' v', r = .returned (.tuple #[v', .bool true]) ∧ IsTable w' tb cb sb' T ∧ IsRef w' v' T ∧ Ext (tset tb cb sb) w w' ∧ (sb' = sb ∨ w.heap.size ≤ sb')
theorem op_cells {w : World} {b : Nat} {v0 v1 v2 v3 v4 : Value} {t : TypeId} {f : Nat × Nat} (h : blk w b = some (.cells #[v0, v1, v2, v3, v4] t f)) : w.cell? ⟨b, 0, none⟩ = some v0 ∧ w.cell? ⟨b, 1, none⟩ = some v1 ∧ w.cell? ⟨b, 2, none⟩ = some v2 ∧ w.cell? ⟨b, 3, none⟩ = some v3 ∧ w.cell? ⟨b, 4, none⟩ = some v4 :=
  ⟨by simpa using cell_of_cells h 0, by simpa using cell_of_cells h 1, by simpa using cell_of_cells h 2, by simpa using cell_of_cells h 3, by simpa using cell_of_cells h 4⟩
theorem boxes3 (w : World) (c0 c1 c2 : Array Value) (t0 t1 t2 : TypeId) :
    blk (((w.alloc (.cells c0 t0)).alloc (.cells c1 t1)).alloc (.cells c2 t2)) w.heap.size = some (.cells c0 t0 (0, 0)) ∧
    blk (((w.alloc (.cells c0 t0)).alloc (.cells c1 t1)).alloc (.cells c2 t2)) (w.heap.size + 1) = some (.cells c1 t1 (0, 0)) ∧
    blk (((w.alloc (.cells c0 t0)).alloc (.cells c1 t1)).alloc (.cells c2 t2)) (w.heap.size + 1 + 1) = some (.cells c2 t2 (0, 0)) ∧
    Ext (fun _ => False) w (((w.alloc (.cells c0 t0)).alloc (.cells c1 t1)).alloc (.cells c2 t2)) :=
  ⟨(blk_alloc_past _ _ _ (by simp; omega)).trans ((blk_alloc_past _ _ _ (by simp)).trans (blk_alloc_at _ _)),
    (blk_alloc_past _ _ _ (by simp)).trans (by simpa using blk_alloc_at (w.alloc (.cells c0 t0)) (.cells c1 t1)),
    by simpa using blk_alloc_at ((w.alloc (.cells c0 t0)).alloc (.cells c1 t1)) (.cells c2 t2), (((Ext.refl _ w).alloc _).alloc _).alloc _⟩

set_option maxRecDepth 100000 in
set_option maxHeartbeats 2000000 in
theorem step_k0 (w : World) (tb cb sb : Nat) (v : Value) (T : Tbl) (hs : IsTable w tb cb sb T) (hr : IsRef w v T) (hT : Small T) (a b : Int) (s : ByteArray) (c : Int) :
    Calls Try.prog 14 #[.pointer (some ⟨tb, 0, none⟩), v, .agg #[.int .i64 0, .int .i64 a, .int .i64 b, .string s, .int .i64 c]] w (StepPost w tb cb sb T) := by
  obtain ⟨a1, m1, p1, a2, m2, p2, rfl⟩ := hr.shape
  have Hs := Lib.hid hs
  have Hr := Lib.hid hr
  have HT := Lib.hid hT
  clear hs hr hT
  go_enter Try.func14, Try.ntmps14
  obtain ⟨hp0, hp1, hp2, hxw⟩ := boxes3 w #[.slice a1 m1 p1, .int .i64 T.gen, .slice a2 m2 p2] #[.int .i64 0, .int .i64 a, .int .i64 b, .string s, .int .i64 c] #[.slice none 0 0, .int .i64 0, .slice none 0 0] 39 30 39
  go_upto_region 1 with fail
  generalize ((w.alloc (.cells #[.slice a1 m1 p1, .int .i64 T.gen, .slice a2 m2 p2] 39)).alloc (.cells #[.int .i64 0, .int .i64 a, .int .i64 b, .string s, .int .i64 c] 30)).alloc (.cells #[.slice none 0 0, .int .i64 0, .slice none 0 0] 39) = w1 at *
  obtain ⟨d0, d1, d2⟩ := box_cells hp0
  obtain ⟨o0, o1, o2, o3, o4⟩ := op_cells hp1
  obtain ⟨e0, e1, e2⟩ := box_cells hp2
  have hlt := blk_lt hp2
  have Hp0 := Lib.hid hp0
  have Hp1 := Lib.hid hp1
  have Hp2 := Lib.hid hp2
  have Hxw := Lib.hid hxw
  have Hs1 := Lib.hid (Hs.out.keep hxw)
  have Hr1 := Lib.hid (Hr.out.keep hxw)
  have Hcl := Lib.hid HT.out.cl
  have Hst := Lib.hid HT.out.st
  clear hp0 hp1 hp2 hxw
  go_wp2_with fail
  refine (client_any w1 tb cb sb T Hs1.out a b).mono ?_
  rintro r w2 ⟨rfl, hx2⟩
  obtain ⟨d0, d1, d2⟩ := box_cells ((hx2.blk (blk_lt Hp0.out) id).trans Hp0.out)
  obtain ⟨o0, o1, o2, o3, o4⟩ := op_cells ((hx2.blk (blk_lt Hp1.out) id).trans Hp1.out)
  have hp2 := (hx2.blk (blk_lt Hp2.out) id).trans Hp2.out
  obtain ⟨e0, e1, e2⟩ := box_cells hp2
  have HX2 := Lib.hid hx2
  clear hx2 hp2
  go_wp2_with fail
  refine (rget_any w2 _ T (Hr1.out.keep HX2.out) HT.out.ok.good (by have := Hcl.out; omega) a b).mono ?_
  rintro r w3 ⟨rfl, hx3⟩
  have HX3 := Lib.hid (HX2.out.trans hx3)
  clear hx3
  obtain ⟨d0, d1, d2⟩ := box_cells ((HX3.out.blk (blk_lt Hp0.out) id).trans Hp0.out)
  have hp2 := (HX3.out.blk (blk_lt Hp2.out) id).trans Hp2.out
  obtain ⟨e0, e1, e2⟩ := box_cells hp2
  have g0 := free_of_cells hp2 0
  have g1 := free_of_cells hp2 1
  have g2 := free_of_cells hp2 2
  have hlt3 := blk_lt hp2
  obtain ⟨z0, z1, z2, hx9⟩ := set3_done hp2 (.slice a1 m1 p1) (.int .i64 T.gen) (.slice a2 m2 p2)
  have HX := Lib.hid (((Hxw.out.trans HX3.out).own hx9 (fun k (e : k = w.heap.size + 1 + 1) => by omega)))
  have HZ := Lib.hid (And.intro z0 (And.intro z1 z2))
  clear hp2 hx9 z0 z1 z2
  unfold set3 at HX HZ
  generalize clientM T a b = cm at *
  go_wp2_with fail
  have HZ := HZ.out
  have HX := HX.out
  generalize ((w3.setCell ⟨w.heap.size + 1 + 1, 0, none⟩ (.slice a1 m1 p1)).setCell ⟨w.heap.size + 1 + 1, 1, none⟩ (.int .i64 T.gen)).setCell ⟨w.heap.size + 1 + 1, 2, none⟩ (.slice a2 m2 p2) = w9 at *
  obtain ⟨z0, z1, z2⟩ := HZ
  exact bodyPost_ret (v := .tuple #[.agg #[.slice a1 m1 p1, .int .i64 T.gen, .slice a2 m2 p2], .bool true]) (by simp [results, Try.results14, go_sem, z0, z1, z2]) rfl ⟨sb, _, rfl, Hs.out.keep HX, Hr.out.keep HX, HX.mono (fun k _ h => h.elim), .inl rfl⟩

set_option maxRecDepth 100000 in
set_option maxHeartbeats 2000000 in
theorem step_k2 (w : World) (tb cb sb : Nat) (v : Value) (T : Tbl) (hs : IsTable w tb cb sb T) (hr : IsRef w v T) (hT : Small T) (a b : Int) (s : ByteArray) (c : Int) :
    Calls Try.prog 14 #[.pointer (some ⟨tb, 0, none⟩), v, .agg #[.int .i64 2, .int .i64 a, .int .i64 b, .string s, .int .i64 c]] w (StepPost w tb cb sb T) := by
  obtain ⟨a1, m1, p1, a2, m2, p2, rfl⟩ := hr.shape
  have Hs := Lib.hid hs
  have Hr := Lib.hid hr
  have HT := Lib.hid hT
  clear hs hr hT
  go_enter Try.func14, Try.ntmps14
  obtain ⟨hp0, hp1, hp2, hxw⟩ := boxes3 w #[.slice a1 m1 p1, .int .i64 T.gen, .slice a2 m2 p2] #[.int .i64 2, .int .i64 a, .int .i64 b, .string s, .int .i64 c] #[.slice none 0 0, .int .i64 0, .slice none 0 0] 39 30 39
  go_upto_region 1 with fail
  generalize ((w.alloc (.cells #[.slice a1 m1 p1, .int .i64 T.gen, .slice a2 m2 p2] 39)).alloc (.cells #[.int .i64 2, .int .i64 a, .int .i64 b, .string s, .int .i64 c] 30)).alloc (.cells #[.slice none 0 0, .int .i64 0, .slice none 0 0] 39) = w1 at *
  obtain ⟨d0, d1, d2⟩ := box_cells hp0
  obtain ⟨o0, o1, o2, o3, o4⟩ := op_cells hp1
  obtain ⟨e0, e1, e2⟩ := box_cells hp2
  have hlt := blk_lt hp2
  have Hp0 := Lib.hid hp0
  have Hp1 := Lib.hid hp1
  have Hp2 := Lib.hid hp2
  have Hxw := Lib.hid hxw
  have Hs1 := Lib.hid (Hs.out.keep hxw)
  have Hr1 := Lib.hid (Hr.out.keep hxw)
  have Hcl := Lib.hid HT.out.cl
  have Hst := Lib.hid HT.out.st
  clear hp0 hp1 hp2 hxw
  go_wp2_with fail
  refine (admin_any w1 tb cb sb T Hs1.out a b).mono ?_
  rintro r w2 ⟨rfl, hx2⟩
  obtain ⟨d0, d1, d2⟩ := box_cells ((hx2.blk (blk_lt Hp0.out) id).trans Hp0.out)
  obtain ⟨o0, o1, o2, o3, o4⟩ := op_cells ((hx2.blk (blk_lt Hp1.out) id).trans Hp1.out)
  have hp2 := (hx2.blk (blk_lt Hp2.out) id).trans Hp2.out
  obtain ⟨e0, e1, e2⟩ := box_cells hp2
  have HX2 := Lib.hid hx2
  clear hx2 hp2
  go_wp2_with fail
  refine (radmin_any w2 _ T (Hr1.out.keep HX2.out) HT.out.ok (by have := Hst.out; omega) a b).mono ?_
  rintro r w3 ⟨rfl, hx3⟩
  have HX3 := Lib.hid (HX2.out.trans hx3)
  clear hx3
  obtain ⟨d0, d1, d2⟩ := box_cells ((HX3.out.blk (blk_lt Hp0.out) id).trans Hp0.out)
  have hp2 := (HX3.out.blk (blk_lt Hp2.out) id).trans Hp2.out
  obtain ⟨e0, e1, e2⟩ := box_cells hp2
  have g0 := free_of_cells hp2 0
  have g1 := free_of_cells hp2 1
  have g2 := free_of_cells hp2 2
  have hlt3 := blk_lt hp2
  obtain ⟨z0, z1, z2, hx9⟩ := set3_done hp2 (.slice a1 m1 p1) (.int .i64 T.gen) (.slice a2 m2 p2)
  have HX := Lib.hid (((Hxw.out.trans HX3.out).own hx9 (fun k (e : k = w.heap.size + 1 + 1) => by omega)))
  have HZ := Lib.hid (And.intro z0 (And.intro z1 z2))
  clear hp2 hx9 z0 z1 z2
  unfold set3 at HX HZ
  generalize adminM T a b = cm at *
  go_wp2_with fail
  have HZ := HZ.out
  have HX := HX.out
  generalize ((w3.setCell ⟨w.heap.size + 1 + 1, 0, none⟩ (.slice a1 m1 p1)).setCell ⟨w.heap.size + 1 + 1, 1, none⟩ (.int .i64 T.gen)).setCell ⟨w.heap.size + 1 + 1, 2, none⟩ (.slice a2 m2 p2) = w9 at *
  obtain ⟨z0, z1, z2⟩ := HZ
  exact bodyPost_ret (v := .tuple #[.agg #[.slice a1 m1 p1, .int .i64 T.gen, .slice a2 m2 p2], .bool true]) (by simp [results, Try.results14, go_sem, z0, z1, z2]) rfl ⟨sb, _, rfl, Hs.out.keep HX, Hr.out.keep HX, HX.mono (fun k _ h => h.elim), .inl rfl⟩

set_option maxRecDepth 100000 in
set_option maxHeartbeats 2000000 in
theorem step_kx (w : World) (tb cb sb : Nat) (v : Value) (T : Tbl) (hs : IsTable w tb cb sb T) (hr : IsRef w v T) (hT : Small T) (k : Int) (h0 : (k == 0) = false) (h1 : (k == 1) = false) (h2 : (k == 2) = false) (h3 : (k == 3) = false) (a b : Int) (s : ByteArray) (c : Int) :
    Calls Try.prog 14 #[.pointer (some ⟨tb, 0, none⟩), v, .agg #[.int .i64 k, .int .i64 a, .int .i64 b, .string s, .int .i64 c]] w (StepPost w tb cb sb T) := by
  obtain ⟨a1, m1, p1, a2, m2, p2, rfl⟩ := hr.shape
  have Hs := Lib.hid hs
  have Hr := Lib.hid hr
  have HT := Lib.hid hT
  clear hs hr hT
  go_enter Try.func14, Try.ntmps14
  obtain ⟨hp0, hp1, hp2, hxw⟩ := boxes3 w #[.slice a1 m1 p1, .int .i64 T.gen, .slice a2 m2 p2] #[.int .i64 k, .int .i64 a, .int .i64 b, .string s, .int .i64 c] #[.slice none 0 0, .int .i64 0, .slice none 0 0] 39 30 39
  go_upto_region 1 with fail
  generalize ((w.alloc (.cells #[.slice a1 m1 p1, .int .i64 T.gen, .slice a2 m2 p2] 39)).alloc (.cells #[.int .i64 k, .int .i64 a, .int .i64 b, .string s, .int .i64 c] 30)).alloc (.cells #[.slice none 0 0, .int .i64 0, .slice none 0 0] 39) = w1 at *
  obtain ⟨d0, d1, d2⟩ := box_cells hp0
  obtain ⟨o0, o1, o2, o3, o4⟩ := op_cells hp1
  obtain ⟨e0, e1, e2⟩ := box_cells hp2
  have hlt := blk_lt hp2
  have Hp0 := Lib.hid hp0
  have Hp1 := Lib.hid hp1
  have Hp2 := Lib.hid hp2
  have Hxw := Lib.hid hxw
  have Hs1 := Lib.hid (Hs.out.keep hxw)
  have Hr1 := Lib.hid (Hr.out.keep hxw)
  have Hcl := Lib.hid HT.out.cl
  have Hst := Lib.hid HT.out.st
  clear hp0 hp1 hp2 hxw
  have g0 := free_of_cells Hp2.out 0
  have g1 := free_of_cells Hp2.out 1
  have g2 := free_of_cells Hp2.out 2
  obtain ⟨z0, z1, z2, hx9⟩ := set3_done Hp2.out (.slice a1 m1 p1) (.int .i64 T.gen) (.slice a2 m2 p2)
  have HX := Lib.hid ((Hxw.out.own hx9 (fun k (e : k = w.heap.size + 1 + 1) => by omega)))
  have HZ := Lib.hid (And.intro z0 (And.intro z1 z2))
  clear hx9 z0 z1 z2
  unfold set3 at HX HZ
  go_wp2_with fail
  have HZ := HZ.out
  have HX := HX.out
  generalize ((w1.setCell ⟨w.heap.size + 1 + 1, 0, none⟩ (.slice a1 m1 p1)).setCell ⟨w.heap.size + 1 + 1, 1, none⟩ (.int .i64 T.gen)).setCell ⟨w.heap.size + 1 + 1, 2, none⟩ (.slice a2 m2 p2) = w9 at *
  obtain ⟨z0, z1, z2⟩ := HZ
  exact bodyPost_ret (v := .tuple #[.agg #[.slice a1 m1 p1, .int .i64 T.gen, .slice a2 m2 p2], .bool true]) (by simp [results, Try.results14, go_sem, z0, z1, z2]) rfl ⟨sb, _, rfl, Hs.out.keep HX, Hr.out.keep HX, HX.mono (fun k _ h => h.elim), .inl rfl⟩
end Go.Proofs.Ythligdgkhmgagaa
