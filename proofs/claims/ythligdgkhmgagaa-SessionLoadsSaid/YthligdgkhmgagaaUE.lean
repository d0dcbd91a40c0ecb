/-
  The laws on package session: step, Note. Conditions: IsTable, IsRef, Small.
-/
import Derived.Test.YthligdgkhmgagaaUD
import Derived.Test.YthligdgkhmgagaaSZ
namespace Go.Proofs.Ythligdgkhmgagaa
open Go.RowKit Go.MapKept
open Go.ChangeMaps (setBlock)

set_option maxRecDepth 100000 in
set_option maxHeartbeats 2000000 in
theorem step_k3 (w : World) (tb cb sb : Nat) (v : Value) (T : Tbl) (hs : IsTable w tb cb sb T) (hr : IsRef w v T) (hT : Small T) (a b : Int) (s : ByteArray) (c : Int) :
    Calls Try.prog 14 #[.pointer (some ⟨tb, 0, none⟩), v, .agg #[.int .i64 3, .int .i64 a, .int .i64 b, .string s, .int .i64 c]] w (StepPost w tb cb sb (noteM T a b c).1) := by
  obtain ⟨a1, m1, p1, a2, m2, p2, rfl⟩ := hr.shape
  have Hs := Lib.hid hs
  have Hr := Lib.hid hr
  have HT := Lib.hid hT
  clear hs hr hT
  go_enter Try.func14, Try.ntmps14
  obtain ⟨hp0, hp1, hp2, hxw⟩ := boxes3 w #[.slice a1 m1 p1, .int .i64 T.gen, .slice a2 m2 p2] #[.int .i64 3, .int .i64 a, .int .i64 b, .string s, .int .i64 c] #[.slice none 0 0, .int .i64 0, .slice none 0 0] 39 30 39
  go_upto_region 1 with fail
  generalize ((w.alloc (.cells #[.slice a1 m1 p1, .int .i64 T.gen, .slice a2 m2 p2] 39)).alloc (.cells #[.int .i64 3, .int .i64 a, .int .i64 b, .string s, .int .i64 c] 30)).alloc (.cells #[.slice none 0 0, .int .i64 0, .slice none 0 0] 39) = w1 at *
  obtain ⟨d0, d1, d2⟩ := box_cells hp0
  obtain ⟨o0, o1, o2, o3, o4⟩ := op_cells hp1
  obtain ⟨e0, e1, e2⟩ := box_cells hp2
  have hlt := blk_lt hp2
  have Hp0 := Lib.hid hp0
  have Hp1 := Lib.hid hp1
  have Hp2 := Lib.hid hp2
  have Hxw := Lib.hid hxw
  have Hs1 := Lib.hid (Hs.out.keep hxw)
  have Hr1 := Lib.hid (Hr.out.keep hxw)
  have Hcl := Lib.hid HT.out.cl
  have Hst := Lib.hid HT.out.st
  clear hp0 hp1 hp2 hxw
  go_wp2_with fail
  refine (rnote_any w1 _ T Hr1.out HT.out.ok (by have := Hst.out; omega) a b c).mono ?_
  rintro r w2 ⟨v', rfl, hr2, hx2⟩
  obtain ⟨a4, m4, p4, a5, m5, p5, rfl⟩ := hr2.shape
  have Hr2 := Lib.hid hr2
  have Hs2 := Lib.hid (Hs1.out.keep hx2)
  obtain ⟨o0, o1, o2, o3, o4⟩ := op_cells ((hx2.blk (blk_lt Hp1.out) id).trans Hp1.out)
  have hp2 := (hx2.blk (blk_lt Hp2.out) id).trans Hp2.out
  obtain ⟨e0, e1, e2⟩ := box_cells hp2
  have hlt2 := blk_lt hp2
  have HX2 := Lib.hid hx2
  clear hx2 hp2 hr2
  go_upto_region 15 with fail
  obtain ⟨w3, hw3⟩ : ∃ w3, w3 = w2.alloc (.cells #[.slice a4 m4 p4, .int .i64 (noteM T a b c).1.gen, .slice a5 m5 p5] 39) := ⟨_, rfl⟩
  have hp3 : blk w3 w2.heap.size = some (.cells #[.slice a4 m4 p4, .int .i64 (noteM T a b c).1.gen, .slice a5 m5 p5] 39 (0, 0)) := by rw [hw3]; exact blk_alloc_at _ _
  have hx3 : Ext (fun _ => False) w2 w3 := by rw [hw3]; exact (Ext.refl _ w2).alloc _
  rw [← hw3]
  have hX3 := HX2.out.trans hx3
  have hsz3 : w2.heap.size < w3.heap.size := blk_lt hp3
  have hB : w.heap.size + 1 + 1 < w2.heap.size := hlt2
  obtain ⟨q0, q1, q2⟩ := box_cells hp3
  obtain ⟨o0, o1, o2, o3, o4⟩ := op_cells ((hX3.blk (blk_lt Hp1.out) id).trans Hp1.out)
  have hp2 := (hX3.blk (blk_lt Hp2.out) id).trans Hp2.out
  obtain ⟨e0, e1, e2⟩ := box_cells hp2
  have g0 := free_of_cells hp2 0
  have g1 := free_of_cells hp2 1
  have g2 := free_of_cells hp2 2
  have Hq2 := Lib.hid hp2
  have Hq3 := Lib.hid hp3
  have Hq1 := Lib.hid ((hX3.blk (blk_lt Hp1.out) id).trans Hp1.out)
  have HX3 := Lib.hid hX3
  have Hs3 := Lib.hid (Hs2.out.keep hx3)
  have Hr3 := Lib.hid (Hr2.out.keep hx3)
  have hcb := Hs.out.lt
  have n1 : ¬ (w2.heap.size = tb ∨ w2.heap.size = sb) := by omega
  have n2 : ¬ (w.heap.size + 1 = tb ∨ w.heap.size + 1 = sb) := by omega
  have n3 : ¬ (w.heap.size + 1 + 1 = tb ∨ w.heap.size + 1 + 1 = sb) := by omega
  have Hn := Lib.hid (And.intro n1 (And.intro n2 n3))
  have u1 : ¬ w2.heap.size = w.heap.size + 1 + 1 := by omega
  have u2 : ¬ w.heap.size + 1 + 1 = w2.heap.size := by omega
  clear hp2 hp3 hx3 hX3 hw3 n1 n2 n3
  go_region_held3 (fun w' => w'.cell? ⟨w2.heap.size, 0, none⟩ = some (.slice a4 m4 p4) ∧ w'.cell? ⟨w2.heap.size, 1, none⟩ = some (.int .i64 (noteM T a b c).1.gen) ∧ w'.cell? ⟨w2.heap.size, 2, none⟩ = some (.slice a5 m5 p5) ∧ w'.cell? ⟨w.heap.size + 1, 1, none⟩ = some (.int .i64 a) ∧ w'.cell? ⟨w.heap.size + 1, 2, none⟩ = some (.int .i64 b) ∧ w'.cell? ⟨w.heap.size + 1, 4, none⟩ = some (.int .i64 c))
    (first | exact ⟨by assumption, by assumption, by assumption, by assumption, by assumption, by assumption⟩ | go_keep)
    ((go_at_call 19; (with_reducible refine (note_any _ tb cb sb T (Hs3.out.keep ((Ext.refl _ _).drew)) a b c).mono ?_); rintro r w5 ⟨sb5, rfl, ht5, hx5, hsb5⟩; have hX5 : Ext (fun k => k = tb ∨ k = sb) w3 w5 := (ext_any ((Ext.refl _ w3).drew) _).trans hx5; obtain ⟨q0, q1, q2⟩ := box_cells ((hX5.blk (blk_lt Hq3.out) Hn.out.1).trans Hq3.out); obtain ⟨o0, o1, o2, o3, o4⟩ := op_cells ((hX5.blk (blk_lt Hq1.out) Hn.out.2.1).trans Hq1.out); have hp2 := (hX5.blk (blk_lt Hq2.out) Hn.out.2.2).trans Hq2.out; obtain ⟨e0, e1, e2⟩ := box_cells hp2; have g0 := free_of_cells hp2 0; have g1 := free_of_cells hp2 1; have g2 := free_of_cells hp2 2; have hlt5 := blk_lt hp2; have HX5 := Lib.hid hX5; have Ht5 := Lib.hid ht5; have Hsb5 := Lib.hid hsb5; have Hb5 := Lib.hid hp2; clear hx5 ht5 hX5 hp2 hsb5))
  obtain ⟨z0, z1, z2, hx9⟩ := set3_done Hb5.out (.slice a4 m4 p4) (.int .i64 (noteM T a b c).1.gen) (.slice a5 m5 p5)
  have hw5 : Ext (fun k => k = tb ∨ k = sb) w w5 := (ext_any (Hxw.out.trans HX3.out) _).trans HX5.out
  have HX := Lib.hid (hw5.trans' hx9 (fun k hk (e : k = w.heap.size + 1 + 1) => absurd hk (by omega)))
  have hs5 : sb5 = sb ∨ w.heap.size + 1 + 1 < sb5 := Hsb5.out.imp id (fun h => by (have : w3.drew.heap.size = w3.heap.size := by simp); omega)
  have HT9 := Lib.hid (Ht5.out.ext hx9 (fun k hk (e : k = w.heap.size + 1 + 1) => by have hk' : k = tb ∨ k = cb ∨ k = sb5 := hk; omega))
  have HR9 := Lib.hid ((Hr3.out.table Hs3.out HX5.out (fun k e => e.elim .inl (fun e => .inr (.inr e)))).box Hb5.out hx9)
  have HZ := Lib.hid (And.intro z0 (And.intro z1 z2))
  clear hx9 z0 z1 z2 hw5
  unfold set3 at HX HZ HT9 HR9
  generalize (noteM T a b c).1 = T' at *
  generalize (noteM T a b c).2 = code at *
  go_wp2_with fail
  have HZ := HZ.out
  have HX := HX.out
  have HT9 := HT9.out
  have HR9 := HR9.out
  generalize ((w5.setCell ⟨w.heap.size + 1 + 1, 0, none⟩ (.slice a4 m4 p4)).setCell ⟨w.heap.size + 1 + 1, 1, none⟩ (.int .i64 T'.gen)).setCell ⟨w.heap.size + 1 + 1, 2, none⟩ (.slice a5 m5 p5) = w9 at *
  obtain ⟨z0, z1, z2⟩ := HZ
  exact bodyPost_ret (v := .tuple #[.agg #[.slice a4 m4 p4, .int .i64 T'.gen, .slice a5 m5 p5], .bool true]) (by simp [results, Try.results14, go_sem, z0, z1, z2]) rfl ⟨sb5, _, rfl, HT9, HR9, HX.mono (fun k _ h => h.elim .inl (fun e => .inr (.inr e))), hs5.imp id (fun h => by omega)⟩

def stepM (T : Tbl) (x : SOp) : Tbl := if x.k = 1 then (answerM T x.a x.b x.s).1 else if x.k = 3 then (noteM T x.a x.b x.c).1 else T
theorem step_any (w : World) (tb cb sb : Nat) (v : Value) (T : Tbl) (hs : IsTable w tb cb sb T) (hr : IsRef w v T) (hT : Small T) (x : SOp) :
    Calls Try.prog 14 #[.pointer (some ⟨tb, 0, none⟩), v, .agg #[.int .i64 x.k, .int .i64 x.a, .int .i64 x.b, .string x.s, .int .i64 x.c]] w (StepPost w tb cb sb (stepM T x)) := by
  obtain ⟨k, a, b, s, c⟩ := x
  unfold stepM
  simp only
  by_cases h1 : k = 1
  · subst h1; simpa using step_k1 w tb cb sb v T hs hr hT a b s c
  · by_cases h3 : k = 3
    · subst h3; simpa using step_k3 w tb cb sb v T hs hr hT a b s c
    · rw [if_neg h1, if_neg h3]
      by_cases h0 : k = 0
      · subst h0; exact step_k0 w tb cb sb v T hs hr hT a b s c
      · by_cases h2 : k = 2
        · subst h2; exact step_k2 w tb cb sb v T hs hr hT a b s c
        · exact step_kx w tb cb sb v T hs hr hT k (by simpa using h0) (by simpa using h1) (by simpa using h2) (by simpa using h3) a b s c
end Go.Proofs.Ythligdgkhmgagaa
