/-
  SessionClients: the walk. Conditions: the arguments' cells are as given.
-/
import Derived.Test.YthligdgkhmgagaaUJ
namespace Go.Proofs.Ythligdgkhmgagaa
open Go.RowKit Go.MapKept
open Go.ChangeMaps (setBlock)

set_option maxRecDepth 100000 in
set_option maxHeartbeats 4000000 in
theorem clients_core (w : World) (ao : Option Addr) (n cap : Nat) (l : List SOp) (hok : ∀ x ∈ l, InR x.c)
    (hfew : ∀ W, Ext (fun _ => False) w W → Calls Try.prog 9 #[.slice ao n cap, .int .i64 30] W fun r w' => r = .returned (.bool (fewB l 30)) ∧ w' = W)
    (hn : n = l.length) (hcells : 0 < l.length → ∃ b off, ao = some ⟨b, off, none⟩ ∧ Ops w b off l ∧ b < w.heap.size) (x : SOp) (hx : InR x.c) (hxs : x.s.size ≤ 9223372036854775807) (c nn : Int) :
    Calls Try.prog 6 #[.slice ao n cap, .agg #[.int .i64 x.k, .int .i64 x.a, .int .i64 x.b, .string x.s, .int .i64 x.c], .int .i64 c, .int .i64 nn] w (AwakePost w) := by
  subst hn
  have Hfew := Lib.hid hfew
  have Hcells := Lib.hid hcells
  have Hok := Lib.hid hok
  clear hfew hcells hok
  obtain ⟨w0, hw0⟩ : ∃ w0, w0 = w.alloc (.cells #[.int .i64 x.k, .int .i64 x.a, .int .i64 x.b, .string x.s, .int .i64 x.c] 30) := ⟨_, rfl⟩
  have hB : blk w0 w.heap.size = some (.cells #[.int .i64 x.k, .int .i64 x.a, .int .i64 x.b, .string x.s, .int .i64 x.c] 30 (0, 0)) := by rw [hw0]; exact blk_alloc_at _ _
  have hx0 : Ext (fun _ => False) w w0 := by rw [hw0]; exact (Ext.refl _ w).alloc _
  go_enter Try.func6, Try.ntmps6
  go_upto_region 1 with fail
  rw [← hw0]
  have hc0 := blk_lt hB
  have HB := Lib.hid hB
  have Hw := Lib.hid hx0
  clear hw0 hB hx0
  go_wp2_with fail
  refine (awake_any _).mono ?_
  rintro r w1 ⟨rfl, hx1⟩
  have HW1 := Lib.hid (Hw.out.trans hx1)
  obtain ⟨o0, o1, o2, o3, o4⟩ := op_cells ((hx1.blk hc0 id).trans HB.out)
  have HB1 := Lib.hid ((hx1.blk hc0 id).trans HB.out)
  have hc1 := blk_lt HB1.out
  clear hx1
  go_wp2_with fail
  refine (Hfew.out _ HW1.out).mono ?_
  rintro r w' ⟨rfl, hw⟩; obtain rfl := hw.symm
  cases hf : fewB l 30 with
  | false =>
    go_wp2_with fail
    exact bodyPost_ret (v := .bool true) (by simp [results, Try.results6, go_sem]) rfl ⟨rfl, HW1.out⟩
  | true =>
    have hl30 : l.length ≤ 30 := by unfold fewB at hf; simp at hf; exact hf.2
    have hbody : ∀ x ∈ l, x.s.size ≤ 1000 := fun x hx => by
      unfold fewB at hf; simp at hf
      have := hf.1 x hx
      unfold fewX at this; simp at this; omega
    have Hbody := Lib.hid hbody
    clear hbody hf
    obtain ⟨w2, hw2⟩ : ∃ w2, w2 = w1.alloc (.cells #[.int .i64 x.k, .int .i64 x.a, .int .i64 x.b, .string x.s, .int .i64 x.c] 30) := ⟨_, rfl⟩
    have hops : Ops w2 w1.heap.size 0 [x] := fun i hi j u hu => by
      obtain rfl : i = 0 := by simp at hi; exact hi
      have := cells_new (w := w1) (b := w1.heap.size) x.cs 30 rfl j u hu
      rw [hw2]
      simp only [Nat.zero_mul, Nat.zero_add]
      rw [Addr.add_lit, Nat.zero_add] at this
      exact this
    have hx2 : Ext (fun _ => False) w1 w2 := by rw [hw2]; exact (Ext.refl _ w1).alloc _
    have Hops := Lib.hid hops
    have HW2 := Lib.hid (HW1.out.trans hx2)
    have HB2 := Lib.hid ((hx2.blk hc1 id).trans HB1.out)
    clear hops o0 o1 o2 o3 o4 hx2
    obtain ⟨o0, o1, o2, o3, o4⟩ := op_cells HB1.out
    go_wp2_with fail
    rw [← hw2]
    clear hw2 o0 o1 o2 o3 o4
    obtain ⟨o0, o1, o2, o3, o4⟩ := op_cells HB2.out
    refine (few_any w2 w1.heap.size 0 1 [x] 1 Hops.out (by simp) (by simpa using hxs) (by omega)).mono ?_
    rintro r w' ⟨rfl, hw⟩; obtain rfl := hw.symm
    have Hf1 : Hid (fewB [x] 1 = true → x.s.size ≤ 1000) := Lib.hid (fun h => by
      unfold fewB at h; simp at h; unfold fewX at h; simp at h; omega)
    cases hf1 : fewB [x] 1 with
    | false =>
      go_wp2_with fail
      exact bodyPost_ret (v := .bool true) (by simp [results, Try.results6, go_sem]) rfl ⟨rfl, HW2.out⟩
    | true =>
      have hxs2 := Hf1.out hf1
      go_wp2_with fail
      refine (run_any w2 ao l.length cap l Hok.out Hbody.out (by omega) rfl (fun h => by
        obtain ⟨b, off, h1, h2, h3⟩ := Hcells.out h
        exact ⟨b, off, h1, h2.ext HW2.out (fun _ => ⟨h3, id⟩), Nat.lt_of_lt_of_le h3 HW2.out.size⟩)).mono ?_
      rintro r w3 ⟨tb, cb, sb, v, T, rfl, hs, hr, hinv, hx3, k1, k2, k3⟩
      obtain ⟨a1, m1, p1, a2, m2, p2, rfl⟩ := hr.shape
      have HB3 := Lib.hid ((hx3.blk (blk_lt HB2.out) id).trans HB2.out)
      have HW3 := Lib.hid (HW2.out.trans hx3)
      clear o0 o1 o2 o3 o4
      obtain ⟨o0, o1, o2, o3, o4⟩ := op_cells HB3.out
      have k0 := HW2.out.size
      have Hs := Lib.hid hs
      have Hr := Lib.hid hr
      have Hinv := Lib.hid hinv
      clear hs hr hinv hx3 hf1
      obtain ⟨w4, hw4⟩ : ∃ w4, w4 = w3.alloc (.cells #[.slice a1 m1 p1, .int .i64 T.gen, .slice a2 m2 p2] 39) := ⟨_, rfl⟩
      have hq4 : blk w4 w3.heap.size = some (.cells #[.slice a1 m1 p1, .int .i64 T.gen, .slice a2 m2 p2] 39 (0, 0)) := by rw [hw4]; exact blk_alloc_at _ _
      have hx4 : Ext (fun _ => False) w3 w4 := by rw [hw4]; exact (Ext.refl _ w3).alloc _
      have HQ4 := Lib.hid hq4
      have HX4 := Lib.hid hx4
      clear hq4 hx4
      go_wp2_with fail
      rw [← hw4]
      clear hw4 o0 o1 o2 o3 o4
      refine (client_any w4 tb cb sb T (Hs.out.keep HX4.out) c nn).mono ?_
      rintro r w5 ⟨rfl, hx5⟩
      have HX5 := Lib.hid (HX4.out.trans hx5)
      have hq5 := (hx5.blk (blk_lt HQ4.out) id).trans HQ4.out
      obtain ⟨d0, d1, d2⟩ := box_cells hq5
      have HB5 := Lib.hid ((HX5.out.blk (blk_lt HB3.out) id).trans HB3.out)
      obtain ⟨o0, o1, o2, o3, o4⟩ := op_cells HB5.out
      have HW5 := Lib.hid (HW3.out.trans HX5.out)
      have hck := Hw.out.size
      clear hx5 hq5
      go_wp2_with fail
      refine (step_any w5 tb cb sb _ T (Hs.out.keep HX5.out) (Hr.out.keep HX5.out) (Hinv.out.small (by omega)) x).mono ?_
      rintro r w6 ⟨sb6, v6, rfl, ht6, hr6, hx6, hs6⟩
      obtain ⟨a4, m4, p4, a5, m5, p5, rfl⟩ := hr6.shape
      have hwl : w.heap.size < w2.heap.size := blk_lt HB2.out
      have HB6 := Lib.hid ((hx6.blk (blk_lt HB5.out) (fun e => by
        have e' : w.heap.size = tb ∨ w.heap.size = cb ∨ w.heap.size = sb := e
        omega)).trans HB5.out)
      have HW6 := Lib.hid (HW5.out.own hx6 (fun k e => by
        have e' : k = tb ∨ k = cb ∨ k = sb := e
        omega))
      have Ht6 := Lib.hid ht6
      clear o0 o1 o2 o3 o4 d0 d1 d2 ht6 hr6 hx6 hs6
      obtain ⟨o0, o1, o2, o3, o4⟩ := op_cells HB6.out
      go_wp2_with fail
      refine (client_any _ tb cb sb6 (stepM T x) (Ht6.out.keep ((Ext.refl _ w6).alloc _)) c nn).mono ?_
      rintro r w7 ⟨rfl, hx7'⟩
      have hx7 := ((Ext.refl (fun _ => False) w6).alloc _).trans hx7'
      clear hx7'
      have HB7 := Lib.hid ((hx7.blk (blk_lt HB6.out) id).trans HB6.out)
      have HW7 := Lib.hid (HW6.out.trans hx7)
      clear o0 o1 o2 o3 o4 hx7
      obtain ⟨o0, o1, o2, o3, o4⟩ := op_cells HB7.out
      by_cases h1 : x.k = 1
      · by_cases h2 : x.a = c
        · have e1 : (x.k == 1) = true := by simp [h1]
          have e2 : (x.a == c) = true := by simp [h2]
          clear h1 h2
          go_wp2_with fail
          exact bodyPost_ret (v := .bool true) (by simp [results, Try.results6, go_sem]) rfl ⟨rfl, HW7.out⟩
        · have e1 : (x.k == 1) = true := by simp [h1]
          have e2 : (x.a == c) = false := by simp [h2]
          have hl := client_law T x c nn (fun h => h2 h.2)
          rw [hl]
          clear h1 h2 hl
          generalize clientM T c nn = cm at *
          go_wp2_with fail
          exact bodyPost_ret (v := .bool true) (by simp [results, Try.results6, go_sem]) rfl ⟨rfl, HW7.out⟩
      · have e1 : (x.k == 1) = false := by simp [h1]
        have hl := client_law T x c nn (fun h => h1 h.1)
        rw [hl]
        clear h1 hl
        generalize clientM T c nn = cm at *
        go_wp2_with fail
        exact bodyPost_ret (v := .bool true) (by simp [results, Try.results6, go_sem]) rfl ⟨rfl, HW7.out⟩
end Go.Proofs.Ythligdgkhmgagaa
