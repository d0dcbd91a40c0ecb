/-
  The reference of package session: Load. Conditions: the text is small.
-/
import Derived.Test.YthligdgkhmgagaaV7
namespace Go.Proofs.Ythligdgkhmgagaa
open Go.RowKit Go.MapKept
open Go.ChangeMaps (setBlock)

theorem Try.infoStep2 : (Try.prog.info? 104).map (fun i => (i.zero, i.size, i.bytes)) = some (some (.agg #[.int .i64 0, .int .i64 0]), 2, 16) := by kernel_rfl
def LastI {α : Type} (K : List (Int × α)) (last : Nat) : Prop := (K = [] → last = 0) ∧ ∀ p, K.getLast? = some p → p.1 = last
theorem rnumM_le (lo hi : Nat) (s : RS) : (rnumM lo hi s).1 ≤ hi := by
  unfold rnumM
  by_cases h : (numberM s).2.c = 0 ∧ ((numberM s).1 < lo ∨ hi < (numberM s).1)
  · rw [if_pos h]; omega
  · rw [if_neg h]
    by_cases hc : (numberM s).2.c = 0
    · have : ¬ ((numberM s).1 < lo ∨ hi < (numberM s).1) := fun h' => h ⟨hc, h'⟩
      omega
    · have := numberM_zero s hc; omega
theorem rnumM_pos {lo hi : Nat} {s : RS} (h : (rnumM lo hi s).2.c = 0) : lo ≤ (rnumM lo hi s).1 ∧ s.c = 0 := by
  unfold rnumM at *
  by_cases hb : (numberM s).2.c = 0 ∧ ((numberM s).1 < lo ∨ hi < (numberM s).1)
  · rw [if_pos hb] at h; cases h
  · rw [if_neg hb] at h ⊢
    exact ⟨by have : ¬ ((numberM s).1 < lo ∨ hi < (numberM s).1) := fun h' => hb ⟨h, h'⟩; omega, (numberM_ok h).1⟩
theorem countM_most (most : Nat) (s : RS) : (countM most s).1 ≤ most := by
  unfold countM
  split
  · split
    · rename_i n t _
      by_cases h : (most : Int) < 0 ∨ (most : Int) < n
      · rw [if_pos h]; omega
      · rw [if_neg h]; simp only; omega
    · simp
  · simp
section
variable {w wi w' : World} {C T B : Nat} {u u' : Value} {s s' : RS} {vc : Value} {g : Int} {vs : Value} {K : List (Int × Ans)} {S : List (Int × Int)}
/-- the reader and a field of the row's box are written -/
theorem RtSt.numX (h : RtSt w wi C T B u s vc g vs K S) (hx : Ext (fun _ => False) wi w') (hb : BytesAt w' u' s'.l) {X : Nat} {cs ds : Array Value} {t : TypeId} (hX : blk wi X = some (.cells cs t (0, 0))) (hw : w.heap.size ≤ X) (h1 : t ≠ 39) (h2 : t ≠ 96) (h3 : t ≠ 5) (hc : ∀ k, vc.ownBlock = some k → ¬ k = X) (hs : ∀ k, vs.ownBlock = some k → ¬ k = X) (i : Nat) (x : Value) (he : cs.setIfInBounds i x = ds) :
    RtSt w ((set2 w' B u' (.int .i64 s'.c)).setCell ⟨X, i, none⟩ x) C T B u' s' vc g vs K S ∧ blk ((set2 w' B u' (.int .i64 s'.c)).setCell ⟨X, i, none⟩ x) X = some (.cells ds t (0, 0)) := by
  obtain ⟨h4, hx4⟩ := h.put hx hb
  have hX1 := (hx.blk (blk_lt hX) id).trans hX
  have hX2 := (hx4.blk (blk_lt hX1) (blk_ne hX1 (h.keep hx).r h2)).trans hX1
  exact ⟨h4.other hX2 hw h1 h2 h3 hc hs i x, by rw [← he]; exact blk_setCell_same hX2 i x⟩
theorem RtSt.fin (h : RtSt w wi C T B u s vc g vs K S) (u0 u1 u2 : Value) : blk (setT wi C u0 u1 u2) C = some (.cells #[u0, u1, u2] 39 (0, 0)) ∧ Ext (fun _ => False) w (setT wi C u0 u1 u2) := by
  have hq := setT_done h.c u0 u1 u2
  exact ⟨hq.1, h.ext.trans' hq.2 (fun k hk (e : k = C) => absurd h.nc (by omega))⟩
end
theorem rload_no {w w' : World} {rl : Bool} (h : rl = false) (hx : Ext (fun _ => False) w w') : RLoadPost w rl (.returned (.tuple #[.agg #[.slice none 0 0, .int .i64 0, .slice none 0 0], .bool false])) w' := ⟨_, _, _, _, _, _, _, by rw [h], hx⟩
set_option maxRecDepth 100000 in
set_option maxHeartbeats 8000000 in
theorem rload_any (w : World) (b : ByteArray) (hs : b.size ≤ 1000000) : Calls Try.prog 23 #[.string b] w (RLoadPost w (refLoad b.data.toList)) := by
  obtain ⟨w1, hw1⟩ : ∃ w1, w1 = (w.alloc (.cells #[.slice none 0 0, .int .i64 0, .slice none 0 0] 39)).alloc (.cells #[.slice none 0 0, .int .i64 0, .slice none 0 0] 39) := ⟨_, rfl⟩
  have hx1 : Ext (fun _ => False) w w1 := by rw [hw1]; exact ((Ext.refl _ w).alloc _).alloc _
  have hc1 : blk w1 w.heap.size = some (.cells #[.slice none 0 0, .int .i64 0, .slice none 0 0] 39 (0, 0)) := by rw [hw1]; exact (blk_alloc_past _ _ _ (by simp)).trans (blk_alloc_at _ _)
  have ht1 : blk w1 (w.heap.size + 1) = some (.cells #[.slice none 0 0, .int .i64 0, .slice none 0 0] 39 (0, 0)) := by rw [hw1]; simpa using blk_alloc_at (w.alloc (.cells #[.slice none 0 0, .int .i64 0, .slice none 0 0] 39)) (.cells #[.slice none 0 0, .int .i64 0, .slice none 0 0] 39)
  obtain ⟨cap, w2, hcv, hb2, hx2⟩ := run_string_bytesAt w1 b hs
  have hll : b.data.toList.length = b.size := Array.length_toList
  have hlp : refLoad b.data.toList = refAll b.size (refC (countM b.size ⟨b.data.toList, 0⟩).1 0 (countM b.size ⟨b.data.toList, 0⟩).2) := by unfold refLoad; rw [hll]
  have hle := countM_most b.size ⟨b.data.toList, 0⟩
  have hcnt : Calls Try.prog 49 #[.agg #[.slice (some ⟨w1.heap.size, 0, none⟩) b.size cap, .int .i64 0], .int .i64 b.size] w2 (CtPost w2 (countM b.size ⟨b.data.toList, 0⟩)) := rcount_any w2 _ ⟨b.data.toList, 0⟩ b.size ⟨_, rfl, hb2⟩ (by omega)
  obtain ⟨⟨N, s0⟩, hN⟩ : ∃ m, countM b.size ⟨b.data.toList, 0⟩ = m := ⟨_, rfl⟩
  rw [hN] at hlp hle hcnt
  simp only at hlp hle
  generalize refLoad b.data.toList = RL at *
  have Hcnt := Lib.hid hcnt
  have Hlp := Lib.hid hlp
  have Hx2 := Lib.hid (hx1.trans hx2)
  have Hc2 := Lib.hid ((hx2.blk (blk_lt hc1) id).trans hc1)
  have Ht2 := Lib.hid ((hx2.blk (blk_lt ht1) id).trans ht1)
  clear hcnt hlp hx1 hx2 hN hb2 hll hc1 ht1
  go_enter Try.func23, Try.ntmps23
  go_upto_region 2 with fail
  rw [← hw1]
  clear hw1
  generalize hCe : w.heap.size = C at *
  have hT1 : C + 1 = C + 1 := rfl
  go_wp2_with fail
  refine Hcnt.out.mono ?_
  rintro r w3 ⟨v3, rfl, hr3, hx3⟩
  obtain ⟨a3, c3, rfl, hb3⟩ := hr3.shape
  have Hx3 := Lib.hid (Hx2.out.trans hx3)
  have Hc3 := Lib.hid ((hx3.blk (blk_lt Hc2.out) id).trans Hc2.out)
  have Ht3 := Lib.hid ((hx3.blk (blk_lt Ht2.out) id).trans Ht2.out)
  have Hb3 := Lib.hid hb3
  obtain ⟨l0, e0⟩ := s0
  simp only at Hb3 ⊢
  clear hr3 hx3 hb3 hcv Hx2 Hc2 Ht2 Hcnt
  go_upto_region 3 with fail
  obtain ⟨w4, hw4⟩ : ∃ w4, w4 = w3.alloc (.cells #[.slice a3 l0.length c3, .int .i64 e0] 96) := ⟨_, rfl⟩
  have hx4 : Ext (fun _ => False) w3 w4 := by rw [hw4]; exact (Ext.refl _ w3).alloc _
  have hb4 : blk w4 w3.heap.size = some (.cells #[.slice a3 l0.length c3, .int .i64 e0] 96 (0, 0)) := by rw [hw4]; exact blk_alloc_at _ _
  have hI4 : RtSt w w4 C (C + 1) w3.heap.size (.slice a3 l0.length c3) ⟨l0, e0⟩ (.slice none 0 0) 0 (.slice none 0 0) [] [] :=
    ⟨Hx3.out.trans hx4, (hx4.blk (blk_lt Hc3.out) id).trans Hc3.out, (hx4.blk (blk_lt Ht3.out) id).trans Ht3.out, hb4, Hb3.out.keep hx4, World.ownsRow_nil _ _ _ _, World.ownsRow_nil _ _ _ _, (fun k e => by cases e), (fun k e => by cases e), by omega, by omega, Hx3.out.size, by omega⟩
  rw [← hw4]
  generalize w3.heap.size = B at *
  generalize hTe : C + 1 = T at *
  have HI4 := Lib.hid hI4
  obtain ⟨i0, hi0, hz0, hz1, hz2⟩ := info_parts Try.infoClient
  obtain ⟨i1, hi1, hy0, hy1, hy2⟩ := info_parts Try.infoStep2
  clear hw4 hx4 hb4 hI4 Hx3 Hb3 Hc3 Ht3
  go_wp2_with fail
  go_loopg [7] N (fun q v7 wr => ∃ (i last : Nat) (u : Value) (s : RS) (vc : Value) (K : List (Int × Ans)), i ≤ N ∧ q = N - i ∧ v7 = .int .i64 i ∧ RtSt w wr C T B u s vc 0 (.slice none 0 0) K [] ∧ K.length = i ∧ LastI K last ∧ RL = refAll b.size (refC (N - i) last s))
  case atStart => exact ⟨0, 0, _, _, _, [], Nat.zero_le _, rfl, rfl, HI4.out, rfl, ⟨fun _ => rfl, fun p h => by cases h⟩, Hlp.out⟩
  case round =>
    obtain ⟨i, last, u, s, vc, K, hi, rfl, rfl, hI, hKl, hlast, hlp⟩ := hrel
    clear HI4 Hlp
    by_cases hiN : i < N
    · have hstep : N - i = (N - (i + 1)) + 1 := by omega
      rw [hstep, refC_succ] at hlp
      have hpos : (textM (rnumM 1 top (rnumM 1 top s).2).2).2.c = 0 → 1 ≤ (rnumM 1 top s).1 := fun h => (rnumM_pos (rnumM_pos (textM_ok h).1).2).1
      have hn1 := fun (W : World) (v : Value) (h : IsRs W v s) => rnum35_any W v s 1 h (by omega)
      have hb1 := rnumM_le 1 top s
      obtain ⟨⟨k1, s1⟩, hm1⟩ : ∃ m, rnumM 1 top s = m := ⟨_, rfl⟩
      rw [hm1] at hlp hb1 hpos
      simp only [show rnumM 1 4611686018427387904 s = (k1, s1) from hm1] at hn1
      simp only at hlp hb1 hpos
      have hn2 := fun (W : World) (v : Value) (h : IsRs W v s1) => rnum35_any W v s1 1 h (by omega)
      obtain ⟨⟨k2, s2⟩, hm2⟩ : ∃ m, rnumM 1 top s1 = m := ⟨_, rfl⟩
      rw [hm2] at hlp hpos
      simp only [show rnumM 1 4611686018427387904 s1 = (k2, s2) from hm2] at hn2
      simp only at hlp
      have hn3 := fun (W : World) (v : Value) (h : IsRs W v s2) => rtxt_any W v s2 h
      obtain ⟨⟨tl, s3⟩, hm3⟩ : ∃ m, textM s2 = m := ⟨_, rfl⟩
      rw [hm3] at hlp hpos
      simp only [hm3] at hn3
      simp only at hlp hpos
      have Hpos := Lib.hid hpos
      obtain ⟨w5, hw5⟩ : ∃ w5, w5 = wr.alloc (.cells #[.int .i64 0, .int .i64 0, .string { data := #[] }] 74) := ⟨_, rfl⟩
      have hx5 : Ext (fun _ => False) wr w5 := by rw [hw5]; exact (Ext.refl _ wr).alloc _
      have hX5 : blk w5 wr.heap.size = some (.cells #[.int .i64 0, .int .i64 0, .string { data := #[] }] 74 (0, 0)) := by rw [hw5]; exact blk_alloc_at _ _
      have hI5 := hI.keep hx5
      have hXw : w.heap.size ≤ wr.heap.size := hI.ext.size
      have hXc : ∀ k, vc.ownBlock = some k → ¬ k = wr.heap.size := fun k hk e => by
        obtain ⟨cur, hc⟩ := row_type hI.rows hk
        have := blk_lt hc; omega
      have Hn1 := Lib.hid hn1
      have Hn2 := Lib.hid hn2
      have Hn3 := Lib.hid hn3
      have Hlp := Lib.hid hlp
      have HI5 := Lib.hid hI5
      have HX5 := Lib.hid hX5
      have HXw := Lib.hid hXw
      have HXc := Lib.hid hXc
      have HKl := Lib.hid hKl
      have Hlast := Lib.hid hlast
      clear hpos hn1 hn2 hn3 hlp hI hI5 hX5 hXw hXc hx5 hKl hlast hstep hm1 hm2 hm3
      go_upto_region 7 with fail
      rw [← hw5]
      clear hw5
      generalize wr.heap.size = X at *
      have hv := HI5.out.value
      try simp only at hv
      obtain ⟨y0, y1⟩ := box2 HI5.out.r
      try simp only at y1
      have hltB := blk_lt HI5.out.r
      have hcl := Hn1.out _ _ hv
      have Hcl := Lib.hid hcl
      clear hv hcl Hn1
      go_wp2_with fail
      refine Hcl.out.mono ?_
      rintro r w6 ⟨v6, rfl, hr, hx⟩
      obtain ⟨a6, c6, rfl, hb⟩ := hr.shape
      have hk := HI5.out.keep hx
      have hXk := (hx.blk (blk_lt HX5.out) id).trans HX5.out
      obtain ⟨l1, l1e⟩ := s1
      try simp only at hb ⊢
      have hnX := HI5.out.numX (s' := ⟨l1, l1e⟩) hx hb HX5.out HXw.out (by decide) (by decide) (by decide) HXc.out (fun k e => by cases e) 0 (.int .i64 k1) (ds := #[.int .i64 k1, .int .i64 0, .string { data := #[] }]) rfl
      unfold set2 at hnX
      try simp only at hnX
      clear y0 y1 hltB
      obtain ⟨y0, y1⟩ := box2 hk.r
      try simp only at y1
      have g0 := free_of_cells hk.r 0
      have g1 := free_of_cells hk.r 1
      have hltB := blk_lt hk.r
      have hXB : ¬ X = B := blk_ne hXk hk.r (by decide)
      have hBX : ¬ B = X := fun e => hXB e.symm
      obtain ⟨x0, x1, x2⟩ := box_cells hXk
      have x9 := free_of_cells hXk 0
      have hltX := blk_lt hXk
      have HI7 := Lib.hid hnX.1
      have HX7 := Lib.hid hnX.2
      clear hr hx hb hk hXk hnX Hcl
      go_upto_region 8 with fail
      clear y0 y1 g0 g1 hltB hXB hBX x0 x1 x2 x9 hltX
      generalize (((w6.setCell ⟨B, 0, none⟩ (.slice a6 l1.length c6)).setCell ⟨B, 1, none⟩ (.int .i64 l1e)).setCell ⟨X, 0, none⟩ (.int .i64 k1)) = w7 at *
      have hv := HI7.out.value
      try simp only at hv
      obtain ⟨y0, y1⟩ := box2 HI7.out.r
      try simp only at y1
      have hltB := blk_lt HI7.out.r
      have hcl := Hn2.out _ _ hv
      have Hcl := Lib.hid hcl
      clear hv hcl Hn2
      go_wp2_with fail
      refine Hcl.out.mono ?_
      rintro r w8 ⟨v8, rfl, hr, hx⟩
      obtain ⟨a8, c8, rfl, hb⟩ := hr.shape
      have hk := HI7.out.keep hx
      have hXk := (hx.blk (blk_lt HX7.out) id).trans HX7.out
      obtain ⟨l2, l2e⟩ := s2
      try simp only at hb ⊢
      have hnX := HI7.out.numX (s' := ⟨l2, l2e⟩) hx hb HX7.out HXw.out (by decide) (by decide) (by decide) HXc.out (fun k e => by cases e) 1 (.int .i64 k2) (ds := #[.int .i64 k1, .int .i64 k2, .string { data := #[] }]) rfl
      unfold set2 at hnX
      try simp only at hnX
      clear y0 y1 hltB
      obtain ⟨y0, y1⟩ := box2 hk.r
      try simp only at y1
      have g0 := free_of_cells hk.r 0
      have g1 := free_of_cells hk.r 1
      have hltB := blk_lt hk.r
      have hXB : ¬ X = B := blk_ne hXk hk.r (by decide)
      have hBX : ¬ B = X := fun e => hXB e.symm
      obtain ⟨x0, x1, x2⟩ := box_cells hXk
      have x9 := free_of_cells hXk 1
      have hltX := blk_lt hXk
      have HI9 := Lib.hid hnX.1
      have HX9 := Lib.hid hnX.2
      clear hr hx hb hk hXk hnX Hcl
      go_upto_region 9 with fail
      clear y0 y1 g0 g1 hltB hXB hBX x0 x1 x2 x9 hltX
      generalize (((w8.setCell ⟨B, 0, none⟩ (.slice a8 l2.length c8)).setCell ⟨B, 1, none⟩ (.int .i64 l2e)).setCell ⟨X, 1, none⟩ (.int .i64 k2)) = w9 at *
      generalize hte : (⟨tl.toArray⟩ : ByteArray) = t at *
      have Hn3' : Hid (∀ (W : World) (v : Value), IsRs W v ⟨l2, l2e⟩ → Calls Try.prog 51 #[v] W fun r w' => ∃ v', r = .returned (.tuple #[v', .string t]) ∧ IsRs w' v' s3 ∧ Ext (fun _ => False) W w') := Lib.hid (fun W v h => by rw [← hte]; exact Hn3.out W v h)
      clear Hn3 hte
      have hv := HI9.out.value
      try simp only at hv
      obtain ⟨y0, y1⟩ := box2 HI9.out.r
      try simp only at y1
      have hltB := blk_lt HI9.out.r
      have hcl := Hn3'.out _ _ hv
      have Hcl := Lib.hid hcl
      clear hv hcl Hn3'
      go_wp2_with fail
      refine Hcl.out.mono ?_
      rintro r w10 ⟨v10, rfl, hr, hx⟩
      obtain ⟨a10, c10, rfl, hb⟩ := hr.shape
      have hk := HI9.out.keep hx
      have hXk := (hx.blk (blk_lt HX9.out) id).trans HX9.out
      obtain ⟨l3, l3e⟩ := s3
      try simp only at hb ⊢
      have hnX := HI9.out.numX (s' := ⟨l3, l3e⟩) hx hb HX9.out HXw.out (by decide) (by decide) (by decide) HXc.out (fun k e => by cases e) 2 (.string t) (ds := #[.int .i64 k1, .int .i64 k2, .string t]) rfl
      unfold set2 at hnX
      try simp only at hnX
      clear y0 y1 hltB
      obtain ⟨y0, y1⟩ := box2 hk.r
      try simp only at y1
      have g0 := free_of_cells hk.r 0
      have g1 := free_of_cells hk.r 1
      have hltB := blk_lt hk.r
      have hXB : ¬ X = B := blk_ne hXk hk.r (by decide)
      have hBX : ¬ B = X := fun e => hXB e.symm
      obtain ⟨x0, x1, x2⟩ := box_cells hXk
      have x9 := free_of_cells hXk 2
      have hltX := blk_lt hXk
      have HI11 := Lib.hid hnX.1
      have HX11 := Lib.hid hnX.2
      clear hr hx hb hk hXk hnX Hcl
      go_upto_region 10 with fail
      clear y0 y1 g0 g1 hltB hXB hBX x0 x1 x2 x9 hltX
      generalize (((w10.setCell ⟨B, 0, none⟩ (.slice a10 l3.length c10)).setCell ⟨B, 1, none⟩ (.int .i64 l3e)).setCell ⟨X, 2, none⟩ (.string t)) = w11 at *
      clear HX9 HX7 HX5 HI9 HI7 HI5
      obtain ⟨ao, co, rfl⟩ := ownsRow_shape HI11.out.rows
      rw [HKl.out] at HI11 HXc
      obtain ⟨y0, y1⟩ := box2 HI11.out.r
      simp only at y1
      have hltB := blk_lt HI11.out.r
      obtain ⟨x0, x1, x2⟩ := box_cells HX11.out
      obtain ⟨t0, t1, t2⟩ := box_cells HI11.out.t
      have hltX := blk_lt HX11.out
      have hltT := blk_lt HI11.out.t
      by_cases hc0 : l3e = 0
      · subst hc0
        have hk1 := Hpos.out rfl
        by_cases hi0' : i = 0
        · subst hi0'
          have hl0 : last = 0 := Hlast.out.1 (List.eq_nil_of_length_eq_zero HKl.out)
          have hlp := Hlp.out
          rw [if_pos ⟨rfl, by omega⟩] at hlp
          have Hlp2 := Lib.hid hlp
          clear hlp Hlp hl0
          go_wp2_with fail
          go_quiet (fail)
          have HQ := Lib.hid (HI11.out.keep ((Ext.refl (fun _ => False) w11).drewN nq))
          have HXq := Lib.hid ((((Ext.refl (fun _ => False) w11).drewN nq).blk (blk_lt HX11.out) id).trans HX11.out)
          generalize w11.drewN nq = wq at *
          clear x0 x1 x2 t0 t1 t2 y0 y1 hltB hltT hltX HI11 HX11
          obtain ⟨x0, x1, x2⟩ := box_cells HXq.out
          obtain ⟨t0, t1, t2⟩ := box_cells HQ.out.t
          have hltX := blk_lt HXq.out
          have hltT := blk_lt HQ.out.t
          have hrow := HQ.out.rows
          rw [HKl.out] at hrow
          have Hrow := Lib.hid hrow
          clear hrow
          go_wp2_with (first
            | (at_builtin; refine wpList_append_any rfl (.tmp 67) (.tmp 69) 36 rfl 0 74 i0 _ 3 32 Try.underlying36 hi0 hz0 hz1 hz2 rfl (by decide) _ _ _ rfl (Hrow.out.alloc _) _ 1 1 (fun e => (by cases e)) (cellsC ((k1 : Int), ⟨k2, t⟩)) rfl rfl (.inr ⟨_, rfl, cells_new (cellsC ((k1 : Int), ⟨k2, t⟩)) _ rfl⟩) (by simp [cellsC, Value.oneCell']) (by simp only [maxLen]; omega) (by omega) (Nat.zero_le _) ?_; intro vn wn hown hgrow hat; obtain ⟨an, cn, rfl⟩ := ownsRow_shape hown; have hxn : Ext (fun k' => (Value.slice ao (0) co).ownBlock = some k') wq wn := ((Ext.refl (fun k' => (Value.slice ao (0) co).ownBlock = some k') wq).alloc _).grown hgrow (fun r hr _ => hr); have htn := (hxn.blk (blk_lt HQ.out.t) (fun e => ((own_not HQ.out).1 T e).2.1 rfl)).trans HQ.out.t; obtain ⟨y7, y8, y9⟩ := box_cells htn; have y6 := free_of_cells htn 0; have y5 := blk_lt htn; have Hown := Lib.hid hown; have Hxn := Lib.hid hxn; have Hat := Lib.hid hat; clear hown hgrow hat hxn htn))
          have hR2 := HQ.out.appC Hxn.out (p := ((k1 : Int), ⟨k2, t⟩)) (by rw [HKl.out]; exact Hown.out) (by
            rcases Hat.out with h | h
            · exact .inl h
            · refine .inr (fun g' hg' => ?_)
              have h1 : g' = (wq.alloc (.cells (cellsC ((k1 : Int), (⟨k2, t⟩ : Ans))).toArray 74)).heap.size := Option.some.inj (hg'.symm.trans h)
              have h2 : (wq.alloc (.cells (cellsC ((k1 : Int), (⟨k2, t⟩ : Ans))).toArray 74)).heap.size = wq.heap.size + 1 := by simp
              omega)
          have HR2 := Lib.hid hR2
          clear hR2 Hown Hxn Hat HQ Hrow y5 y6 y7 y8 y9 x0 x1 x2 t0 t1 t2 hltX hltT
          go_roundg (N - (0 + 1))
          case measure => omega
          case rel => exact ⟨0 + 1, k1, _, _, _, _, by omega, rfl, by go_num, HR2.out, by simp [HKl.out], ⟨fun h => absurd h (by simp), fun p hp => by simp at hp; subst hp; rfl⟩, Hlp2.out⟩
        · obtain ⟨j, rfl⟩ : ∃ j, i = j + 1 := ⟨i - 1, by omega⟩
          obtain ⟨p, hp⟩ : ∃ p, K[j]? = some p := ⟨_, List.getElem?_eq_getElem (by rw [HKl.out]; omega)⟩
          have hpl : p.1 = last := Hlast.out.2 p (by rw [List.getLast?_eq_getElem?, HKl.out]; exact hp)
          have hout := HI11.out.rows
          rw [HKl.out] at hout
          obtain ⟨gg, rfl, hglt⟩ := row_form hout (by omega)
          have q0 := row_at (f := cellsC) cellsC_len hout j hp 0 (by omega) rfl
          simp only [Nat.add_zero] at q0
          rw [hpl] at q0
          have d3 : decide ((0 : Int) < (j : Int) + 1) = true := by simp only [decide_eq_true_eq]; omega
          have j0 : (0 : Int) ≤ (j : Int) + 1 - 1 := by omega
          have j1 : (j : Int) + 1 - 1 < (j : Int) + 1 := by omega
          have j2 : ((j : Int) + 1 - 1).toNat = j := by omega
          have j3 : (j : Int) + 1 - 1 = j := by omega
          have w1' : IntKind.i64.wrap ((j : Int) + 1 - 1) = j := by rw [j3]; exact IntWalk.i64_in _ (by omega)
          clear hout hp hpl hi0'
          by_cases hcmp : last < k1
          · have d4 : decide ((k1 : Int) ≤ (last : Int)) = false := by simp only [decide_eq_false_iff_not]; omega
            have d5 : ¬ (k1 : Int) ≤ (last : Int) := by omega
            have d6 : ¬ k1 ≤ last := by omega
            have d7 : decide (k1 ≤ last) = false := by simp only [decide_eq_false_iff_not]; omega
            have hlp := Hlp.out
            rw [if_pos ⟨rfl, hcmp⟩] at hlp
            have Hlp2 := Lib.hid hlp
            clear hlp Hlp hcmp
            go_wp2_with fail
            go_quiet (fail)
            have HQ := Lib.hid (HI11.out.keep ((Ext.refl (fun _ => False) w11).drewN nq))
            have HXq := Lib.hid ((((Ext.refl (fun _ => False) w11).drewN nq).blk (blk_lt HX11.out) id).trans HX11.out)
            generalize w11.drewN nq = wq at *
            clear x0 x1 x2 t0 t1 t2 y0 y1 hltB hltT hltX HI11 HX11 q0
            obtain ⟨x0, x1, x2⟩ := box_cells HXq.out
            obtain ⟨t0, t1, t2⟩ := box_cells HQ.out.t
            have hltX := blk_lt HXq.out
            have hltT := blk_lt HQ.out.t
            have hrow := HQ.out.rows
            rw [HKl.out] at hrow
            have Hrow := Lib.hid hrow
            clear hrow
            go_wp2_with (first
              | (at_builtin; refine wpList_append_any rfl (.tmp 67) (.tmp 69) 36 rfl 0 74 i0 _ 3 32 Try.underlying36 hi0 hz0 hz1 hz2 rfl (by decide) _ _ _ rfl (Hrow.out.alloc _) _ 1 1 (fun e => (by cases e)) (cellsC ((k1 : Int), ⟨k2, t⟩)) rfl rfl (.inr ⟨_, rfl, cells_new (cellsC ((k1 : Int), ⟨k2, t⟩)) _ rfl⟩) (by simp [cellsC, Value.oneCell']) (by simp only [maxLen]; omega) (by omega) (Nat.zero_le _) ?_; intro vn wn hown hgrow hat; obtain ⟨an, cn, rfl⟩ := ownsRow_shape hown; have hxn : Ext (fun k' => (Value.slice (some ⟨gg, 0, none⟩) (j + 1) co).ownBlock = some k') wq wn := ((Ext.refl (fun k' => (Value.slice (some ⟨gg, 0, none⟩) (j + 1) co).ownBlock = some k') wq).alloc _).grown hgrow (fun r hr _ => hr); have htn := (hxn.blk (blk_lt HQ.out.t) (fun e => ((own_not HQ.out).1 T e).2.1 rfl)).trans HQ.out.t; obtain ⟨y7, y8, y9⟩ := box_cells htn; have y6 := free_of_cells htn 0; have y5 := blk_lt htn; have Hown := Lib.hid hown; have Hxn := Lib.hid hxn; have Hat := Lib.hid hat; clear hown hgrow hat hxn htn))
            have hR2 := HQ.out.appC Hxn.out (p := ((k1 : Int), ⟨k2, t⟩)) (by rw [HKl.out]; exact Hown.out) (by
              rcases Hat.out with h | h
              · exact .inl h
              · refine .inr (fun g' hg' => ?_)
                have h1 : g' = (wq.alloc (.cells (cellsC ((k1 : Int), (⟨k2, t⟩ : Ans))).toArray 74)).heap.size := Option.some.inj (hg'.symm.trans h)
                have h2 : (wq.alloc (.cells (cellsC ((k1 : Int), (⟨k2, t⟩ : Ans))).toArray 74)).heap.size = wq.heap.size + 1 := by simp
                omega)
            have HR2 := Lib.hid hR2
            clear hR2 Hown Hxn Hat HQ Hrow y5 y6 y7 y8 y9 x0 x1 x2 t0 t1 t2 hltX hltT
            go_roundg (N - (j + 1 + 1))
            case measure => omega
            case rel => exact ⟨j + 1 + 1, k1, _, _, _, _, by omega, rfl, by go_num, HR2.out, by simp [HKl.out], ⟨fun h => absurd h (by simp), fun p hp => by simp at hp; subst hp; rfl⟩, Hlp2.out⟩
          · have d4 : decide ((k1 : Int) ≤ (last : Int)) = true := by simp only [decide_eq_true_eq]; omega
            have d5 : (k1 : Int) ≤ (last : Int) := by omega
            have d6 : k1 ≤ last := by omega
            have d7 : decide (k1 ≤ last) = true := by simp only [decide_eq_true_eq]; omega
            have Hno : Hid (RL = false) := Lib.hid (by rw [Hlp.out, if_neg (fun h => hcmp h.2)]; rfl)
            clear Hlp
            go_wp2_with fail
            go_quiet (fail)
            have HQ := Lib.hid (HI11.out.keep ((Ext.refl (fun _ => False) w11).drewN nq))
            generalize w11.drewN nq = wq at *
            clear x0 x1 x2 t0 t1 t2 y0 y1 hltB hltT hltX HI11 HX11 q0
            obtain ⟨c0, c1, c2⟩ := box_cells HQ.out.c
            have g0 := free_of_cells HQ.out.c 0
            have g1 := free_of_cells HQ.out.c 1
            have g2 := free_of_cells HQ.out.c 2
            have hltC := blk_lt HQ.out.c
            obtain ⟨hq, hqx⟩ := HQ.out.fin (.slice none 0 0) (.int .i64 0) (.slice none 0 0)
            have Hfin := Lib.hid (And.intro hq (rload_no Hno.out hqx))
            unfold setT at Hfin
            clear hq hqx
            go_wp2
            obtain ⟨hq, hfin⟩ := Hfin.out
            obtain ⟨z0, z1, z2⟩ := box_cells hq
            exact bodyPost_ret (v := .tuple #[.agg #[.slice none 0 0, .int .i64 0, .slice none 0 0], .bool false]) (by simp [results, Try.results23, go_sem, z0, z1, z2]) rfl hfin
      · have hc1 : (l3e == 0) = false := by simpa using hc0
        have hc2 : (l3e != 0) = true := by simpa using hc0
        have hc3 : decide (l3e = 0) = false := by simpa using hc0
        have Hno : Hid (RL = false) := Lib.hid (by rw [Hlp.out, if_neg (fun h => hc0 h.1)]; rfl)
        clear Hlp
        go_wp2_with fail
        go_quiet (fail)
        have HQ := Lib.hid (HI11.out.keep ((Ext.refl (fun _ => False) w11).drewN nq))
        generalize w11.drewN nq = wq at *
        clear x0 x1 x2 t0 t1 t2 y0 y1 hltB hltT hltX HI11 HX11
        obtain ⟨c0, c1, c2⟩ := box_cells HQ.out.c
        have g0 := free_of_cells HQ.out.c 0
        have g1 := free_of_cells HQ.out.c 1
        have g2 := free_of_cells HQ.out.c 2
        have hltC := blk_lt HQ.out.c
        obtain ⟨hq, hqx⟩ := HQ.out.fin (.slice none 0 0) (.int .i64 0) (.slice none 0 0)
        have Hfin := Lib.hid (And.intro hq (rload_no Hno.out hqx))
        unfold setT at Hfin
        clear hq hqx
        go_wp2
        obtain ⟨hq, hfin⟩ := Hfin.out
        obtain ⟨z0, z1, z2⟩ := box_cells hq
        exact bodyPost_ret (v := .tuple #[.agg #[.slice none 0 0, .int .i64 0, .slice none 0 0], .bool false]) (by simp [results, Try.results23, go_sem, z0, z1, z2]) rfl hfin
    · have hj' : N - i = 0 := by omega
      rw [hj'] at hlp
      have hlp : RL = refMid b.size s := hlp
      unfold refMid at hlp
      have hn1 := fun (W : World) (v : Value) (h : IsRs W v s) => (rnum35_any W v s 0 h (by omega) : Calls Try.prog 50 #[v, .int .u64 0] W (CtPost W (rnumM 0 4611686018427387904 s)))
      obtain ⟨⟨gn, s1⟩, hm1⟩ : ∃ m, rnumM 0 top s = m := ⟨_, rfl⟩
      have hgb := rnumM_le 0 top s
      rw [hm1] at hlp hgb
      simp only [show rnumM 0 4611686018427387904 s = (gn, s1) from hm1] at hn1
      simp only at hlp hgb
      have hn2 := fun (W : World) (v : Value) (h : IsRs W v s1) => rcount_any W v s1 b.size h (by omega)
      have hMb := countM_most b.size s1
      obtain ⟨⟨M, s2⟩, hm2⟩ : ∃ m, countM b.size s1 = m := ⟨_, rfl⟩
      rw [hm2] at hlp hMb
      simp only [hm2] at hn2
      simp only at hlp hMb
      have Hn1 := Lib.hid hn1
      have Hn2 := Lib.hid hn2
      have Hlp := Lib.hid hlp
      have HI := Lib.hid hI
      clear hn1 hn2 hlp hI hj' hlast hKl hm1 hm2
      have hv := HI.out.value
      try simp only at hv
      obtain ⟨y0, y1⟩ := box2 HI.out.r
      have hltB := blk_lt HI.out.r
      have hcl := Hn1.out _ _ hv
      have Hcl := Lib.hid hcl
      clear hv hcl Hn1
      go_wp2_with fail
      refine Hcl.out.mono ?_
      rintro r w6 ⟨v6, rfl, hr, hx⟩
      obtain ⟨a6, c6, rfl, hb⟩ := hr.shape
      have hk := HI.out.keep hx
      obtain ⟨l1, l1e⟩ := s1
      try simp only at hb ⊢
      have hput := (HI.out.put (s' := ⟨l1, l1e⟩) hx hb).1.gen (gn : Int)
      unfold set2 at hput
      try simp only at hput
      clear y0 y1 hltB
      obtain ⟨y0, y1⟩ := box2 hk.r
      have g0 := free_of_cells hk.r 0
      have g1 := free_of_cells hk.r 1
      have hltB := blk_lt hk.r
      obtain ⟨t0, t1, t2⟩ := box_cells hk.t
      have x9 := free_of_cells hk.t 1
      have hltT := blk_lt hk.t
      have hTB : ¬ T = B := blk_ne hk.t hk.r (by decide)
      have hBT : ¬ B = T := fun e => hTB e.symm
      have HI7 := Lib.hid hput
      clear hr hx hb hk hput Hcl HI
      go_upto_region 14 with fail
      clear y0 y1 g0 g1 hltB t0 t1 t2 x9 hltT hTB hBT
      generalize (((w6.setCell ⟨B, 0, none⟩ (.slice a6 l1.length c6)).setCell ⟨B, 1, none⟩ (.int .i64 l1e)).setCell ⟨T, 1, none⟩ (.int .i64 gn)) = w7 at *
      have hv := HI7.out.value
      try simp only at hv
      obtain ⟨y0, y1⟩ := box2 HI7.out.r
      try simp only at y1
      have hltB := blk_lt HI7.out.r
      have hcl := Hn2.out _ _ hv
      have Hcl := Lib.hid hcl
      clear hv hcl Hn2
      go_wp2_with fail
      refine Hcl.out.mono ?_
      rintro r w8 ⟨v8, rfl, hr, hx⟩
      obtain ⟨a8, c8, rfl, hb⟩ := hr.shape
      have hk := HI7.out.keep hx
      obtain ⟨l2, l2e⟩ := s2
      try simp only at hb ⊢
      have hput := (HI7.out.put (s' := ⟨l2, l2e⟩) hx hb).1
      unfold set2 at hput
      try simp only at hput
      clear y0 y1 hltB
      obtain ⟨y0, y1⟩ := box2 hk.r
      try simp only at y1
      have g0 := free_of_cells hk.r 0
      have g1 := free_of_cells hk.r 1
      have hltB := blk_lt hk.r
      have HI9 := Lib.hid hput
      clear hr hx hb hk hput Hcl HI7
      go_upto_region 15 with fail
      clear y0 y1 g0 g1 hltB
      generalize ((w8.setCell ⟨B, 0, none⟩ (.slice a8 l2.length c8)).setCell ⟨B, 1, none⟩ (.int .i64 l2e)) = w9 at *
      go_wp2_with fail
      go_loopg [9] M (fun q v9 wr => ∃ (i last : Nat) (u : Value) (s : RS) (vs : Value) (S : List (Int × Int)), i ≤ M ∧ q = M - i ∧ v9 = .int .i64 i ∧ RtSt w wr C T B u s vc gn vs K S ∧ S.length = i ∧ LastI S last ∧ RL = refEnd gn M (refT gn (M - i) last s))
      case atStart => exact ⟨0, 0, _, _, _, [], Nat.zero_le _, rfl, rfl, HI9.out, rfl, ⟨fun _ => rfl, fun p h => by cases h⟩, Hlp.out⟩
      case round =>
        obtain ⟨i, last, u, s, vs, S, hi, rfl, rfl, hI, hSl, hlast, hlp⟩ := hrel
        clear HI9 Hlp
        by_cases hiN : i < M
        · have hstep : M - i = (M - (i + 1)) + 1 := by omega
          rw [hstep, refT_succ] at hlp
          have hpos : (intM (rnumM 1 top s).2).2.c = 0 → 1 ≤ (rnumM 1 top s).1 := fun h => (rnumM_pos (intM_ok h).1).1
          have hn1 := fun (W : World) (v : Value) (h : IsRs W v s) => rnum35_any W v s 1 h (by omega)
          have hb1 := rnumM_le 1 top s
          obtain ⟨⟨k1, s1⟩, hm1⟩ : ∃ m, rnumM 1 top s = m := ⟨_, rfl⟩
          rw [hm1] at hlp hb1 hpos
          simp only [show rnumM 1 4611686018427387904 s = (k1, s1) from hm1] at hn1
          simp only at hlp hb1 hpos
          have hn2 := fun (W : World) (v : Value) (h : IsRs W v s1) => rgetint_any W v s1 h
          obtain ⟨⟨x, s3⟩, hm3⟩ : ∃ m, intM s1 = m := ⟨_, rfl⟩
          rw [hm3] at hlp hpos
          simp only [hm3] at hn2
          simp only at hlp hpos
          have Hpos := Lib.hid hpos
          obtain ⟨w5, hw5⟩ : ∃ w5, w5 = wr.alloc (.cells #[.int .i64 0, .int .i64 0] 104) := ⟨_, rfl⟩
          have hx5 : Ext (fun _ => False) wr w5 := by rw [hw5]; exact (Ext.refl _ wr).alloc _
          have hX5 : blk w5 wr.heap.size = some (.cells #[.int .i64 0, .int .i64 0] 104 (0, 0)) := by rw [hw5]; exact blk_alloc_at _ _
          have hI5 := hI.keep hx5
          have hXw : w.heap.size ≤ wr.heap.size := hI.ext.size
          have hXc : ∀ k, vc.ownBlock = some k → ¬ k = wr.heap.size := fun k hk e => by
            obtain ⟨cur, hc⟩ := row_type hI.rows hk
            have := blk_lt hc; omega
          have hXs : ∀ k, vs.ownBlock = some k → ¬ k = wr.heap.size := fun k hk e => by
            obtain ⟨cur, hc⟩ := row_type hI.steps hk
            have := blk_lt hc; omega
          have Hn1 := Lib.hid hn1
          have Hn2 := Lib.hid hn2
          have Hlp := Lib.hid hlp
          have HI5 := Lib.hid hI5
          have HX5 := Lib.hid hX5
          have HXw := Lib.hid hXw
          have HXc := Lib.hid hXc
          have HXs := Lib.hid hXs
          have HSl := Lib.hid hSl
          have Hlast := Lib.hid hlast
          clear hpos hn1 hn2 hlp hI hI5 hX5 hXw hXc hXs hx5 hSl hlast hstep hm1 hm3
          go_upto_region 19 with fail
          rw [← hw5]
          clear hw5
          generalize wr.heap.size = X at *
          have hv := HI5.out.value
          try simp only at hv
          obtain ⟨y0, y1⟩ := box2 HI5.out.r
          have hltB := blk_lt HI5.out.r
          have hcl := Hn1.out _ _ hv
          have Hcl := Lib.hid hcl
          clear hv hcl Hn1
          go_wp2_with fail
          refine Hcl.out.mono ?_
          rintro r w6 ⟨v6, rfl, hr, hx⟩
          obtain ⟨a6, c6, rfl, hb⟩ := hr.shape
          have hk := HI5.out.keep hx
          have hXk := (hx.blk (blk_lt HX5.out) id).trans HX5.out
          obtain ⟨l1, l1e⟩ := s1
          try simp only at hb ⊢
          have hnX := HI5.out.numX (s' := ⟨l1, l1e⟩) hx hb HX5.out HXw.out (by decide) (by decide) (by decide) HXc.out HXs.out 0 (.int .i64 k1) (ds := #[.int .i64 k1, .int .i64 0]) rfl
          unfold set2 at hnX
          try simp only at hnX
          clear y0 y1 hltB
          obtain ⟨y0, y1⟩ := box2 hk.r
          have g0 := free_of_cells hk.r 0
          have g1 := free_of_cells hk.r 1
          have hltB := blk_lt hk.r
          have hXB : ¬ X = B := blk_ne hXk hk.r (by decide)
          have hBX : ¬ B = X := fun e => hXB e.symm
          obtain ⟨x0, x1⟩ := cells_two hXk
          have x9 := free_of_cells hXk 0
          have hltX := blk_lt hXk
          have HI7 := Lib.hid hnX.1
          have HX7 := Lib.hid hnX.2
          clear hr hx hb hk hXk hnX Hcl HI5 HX5
          go_upto_region 21 with fail
          clear y0 y1 g0 g1 hltB hXB hBX x0 x1 x9 hltX
          generalize (((w6.setCell ⟨B, 0, none⟩ (.slice a6 l1.length c6)).setCell ⟨B, 1, none⟩ (.int .i64 l1e)).setCell ⟨X, 0, none⟩ (.int .i64 k1)) = w7 at *
          have hv := HI7.out.value
          try simp only at hv
          obtain ⟨y0, y1⟩ := box2 HI7.out.r
          try simp only at y1
          have hltB := blk_lt HI7.out.r
          have hcl := Hn2.out _ _ hv
          have Hcl := Lib.hid hcl
          clear hv hcl Hn2
          go_wp2_with fail
          refine Hcl.out.mono ?_
          rintro r w8 ⟨v8, rfl, hr, hx⟩
          obtain ⟨a8, c8, rfl, hb⟩ := hr.shape
          have hk := HI7.out.keep hx
          have hXk := (hx.blk (blk_lt HX7.out) id).trans HX7.out
          obtain ⟨l3, l3e⟩ := s3
          try simp only at hb ⊢
          have hnX := HI7.out.numX (s' := ⟨l3, l3e⟩) hx hb HX7.out HXw.out (by decide) (by decide) (by decide) HXc.out HXs.out 1 (.int .i64 x) (ds := #[.int .i64 k1, .int .i64 x]) rfl
          unfold set2 at hnX
          try simp only at hnX
          clear y0 y1 hltB
          obtain ⟨y0, y1⟩ := box2 hk.r
          try simp only at y1
          have g0 := free_of_cells hk.r 0
          have g1 := free_of_cells hk.r 1
          have hltB := blk_lt hk.r
          have hXB : ¬ X = B := blk_ne hXk hk.r (by decide)
          have hBX : ¬ B = X := fun e => hXB e.symm
          obtain ⟨x0, x1⟩ := cells_two hXk
          have x9 := free_of_cells hXk 1
          have hltX := blk_lt hXk
          have HI11 := Lib.hid hnX.1
          have HX11 := Lib.hid hnX.2
          clear hr hx hb hk hXk hnX Hcl HI7 HX7
          go_upto_region 23 with fail
          clear y0 y1 g0 g1 hltB hXB hBX x0 x1 x9 hltX
          generalize (((w8.setCell ⟨B, 0, none⟩ (.slice a8 l3.length c8)).setCell ⟨B, 1, none⟩ (.int .i64 l3e)).setCell ⟨X, 1, none⟩ (.int .i64 x)) = w11 at *
          obtain ⟨ao, co, rfl⟩ := ownsRow_shape HI11.out.steps
          rw [HSl.out] at HI11 HXs
          obtain ⟨y0, y1⟩ := box2 HI11.out.r
          simp only at y1
          have hltB := blk_lt HI11.out.r
          obtain ⟨x0, x1⟩ := cells_two HX11.out
          obtain ⟨t0, t1, t2⟩ := box_cells HI11.out.t
          have hltX := blk_lt HX11.out
          have hltT := blk_lt HI11.out.t
          by_cases hc0 : l3e = 0
          · subst hc0
            have hk1 := Hpos.out rfl
            by_cases hg0 : gn = 0
            · subst hg0
              have Hno : Hid (RL = false) := Lib.hid (by rw [Hlp.out, if_neg (fun h => h.2.1 rfl)]; rfl)
              clear Hlp
              go_wp2_with fail
              go_quiet (fail)
              have HQ := Lib.hid (HI11.out.keep ((Ext.refl (fun _ => False) w11).drewN nq))
              generalize w11.drewN nq = wq at *
              clear x0 x1 t0 t1 t2 y0 y1 hltB hltT hltX HI11 HX11
              obtain ⟨c0, c1, c2⟩ := box_cells HQ.out.c
              have g0 := free_of_cells HQ.out.c 0
              have g1 := free_of_cells HQ.out.c 1
              have g2 := free_of_cells HQ.out.c 2
              have hltC := blk_lt HQ.out.c
              obtain ⟨hq, hqx⟩ := HQ.out.fin (.slice none 0 0) (.int .i64 0) (.slice none 0 0)
              have Hfin := Lib.hid (And.intro hq (rload_no Hno.out hqx))
              unfold setT at Hfin
              clear hq hqx
              go_wp2
              obtain ⟨hq, hfin⟩ := Hfin.out
              obtain ⟨z0, z1, z2⟩ := box_cells hq
              exact bodyPost_ret (v := .tuple #[.agg #[.slice none 0 0, .int .i64 0, .slice none 0 0], .bool false]) (by simp [results, Try.results23, go_sem, z0, z1, z2]) rfl hfin
            · have e1 : ((gn : Int) == 0) = false := by simpa using hg0
              have e2 : ¬ (gn : Int) = 0 := by omega
              by_cases hi0' : i = 0
              · subst hi0'
                have hl0 : last = 0 := Hlast.out.1 (List.eq_nil_of_length_eq_zero HSl.out)
                have hlp := Hlp.out
                rw [if_pos ⟨rfl, hg0, by omega⟩] at hlp
                have Hlp2 := Lib.hid hlp
                clear hlp Hlp hl0
                go_wp2_with fail
                go_quiet (fail)
                have HQ := Lib.hid (HI11.out.keep ((Ext.refl (fun _ => False) w11).drewN nq))
                have HXq := Lib.hid ((((Ext.refl (fun _ => False) w11).drewN nq).blk (blk_lt HX11.out) id).trans HX11.out)
                generalize w11.drewN nq = wq at *
                clear x0 x1 t0 t1 t2 y0 y1 hltB hltT hltX HI11 HX11
                obtain ⟨x0, x1⟩ := cells_two HXq.out
                obtain ⟨t0, t1, t2⟩ := box_cells HQ.out.t
                have hltX := blk_lt HXq.out
                have hltT := blk_lt HQ.out.t
                have hrow := HQ.out.steps
                rw [HSl.out] at hrow
                have Hrow := Lib.hid hrow
                clear hrow
                go_wp2_with (first
                  | (at_builtin; refine wpList_append_any rfl (.tmp 130) (.tmp 132) 37 rfl 0 104 i1 _ 2 16 Try.underlying37 hi1 hy0 hy1 hy2 rfl (by decide) _ _ _ rfl (Hrow.out.alloc _) _ 1 1 (fun e => (by cases e)) (cellsS ((k1 : Int), x)) rfl rfl (.inr ⟨_, rfl, cells_new (cellsS ((k1 : Int), x)) _ rfl⟩) (by simp [cellsS, Value.oneCell']) (by simp only [maxLen]; omega) (by omega) (Nat.zero_le _) ?_; intro vn wn hown hgrow hat; obtain ⟨an, cn, rfl⟩ := ownsRow_shape hown; have hxn : Ext (fun k' => (Value.slice ao (0) co).ownBlock = some k') wq wn := ((Ext.refl (fun k' => (Value.slice ao (0) co).ownBlock = some k') wq).alloc _).grown hgrow (fun r hr _ => hr); have htn := (hxn.blk (blk_lt HQ.out.t) (fun e => ((own_not HQ.out).2 T e).2.1 rfl)).trans HQ.out.t; obtain ⟨y7, y8, y9⟩ := box_cells htn; have y6 := free_of_cells htn 2; have y5 := blk_lt htn; have Hown := Lib.hid hown; have Hxn := Lib.hid hxn; have Hat := Lib.hid hat; clear hown hgrow hat hxn htn))
                have hR2 := HQ.out.appS Hxn.out (p := ((k1 : Int), x)) (by rw [HSl.out]; exact Hown.out) (by
                  rcases Hat.out with h | h
                  · exact .inl h
                  · refine .inr (fun g' hg' => ?_)
                    have h1 : g' = (wq.alloc (.cells (cellsS ((k1 : Int), x)).toArray 104)).heap.size := Option.some.inj (hg'.symm.trans h)
                    have h2 : (wq.alloc (.cells (cellsS ((k1 : Int), x)).toArray 104)).heap.size = wq.heap.size + 1 := by simp
                    omega)
                have HR2 := Lib.hid hR2
                clear hR2 Hown Hxn Hat HQ Hrow y5 y6 y7 y8 y9 x0 x1 t0 t1 t2 hltX hltT
                go_roundg (M - (0 + 1))
                case measure => omega
                case rel => exact ⟨0 + 1, k1, _, _, _, _, by omega, rfl, by go_num, HR2.out, by simp [HSl.out], ⟨fun h => absurd h (by simp), fun p hp => by simp at hp; subst hp; rfl⟩, Hlp2.out⟩
              · obtain ⟨j, rfl⟩ : ∃ j, i = j + 1 := ⟨i - 1, by omega⟩
                obtain ⟨p, hp⟩ : ∃ p, S[j]? = some p := ⟨_, List.getElem?_eq_getElem (by rw [HSl.out]; omega)⟩
                have hpl : p.1 = last := Hlast.out.2 p (by rw [List.getLast?_eq_getElem?, HSl.out]; exact hp)
                have hout := HI11.out.steps
                rw [HSl.out] at hout
                obtain ⟨gg, rfl, hglt⟩ := row_form hout (by omega)
                have q0 := row_at (f := cellsS) cellsS_len hout j hp 0 (by omega) rfl
                simp only [Nat.add_zero] at q0
                rw [hpl] at q0
                have d3 : decide ((0 : Int) < (j : Int) + 1) = true := by simp only [decide_eq_true_eq]; omega
                have j0 : (0 : Int) ≤ (j : Int) + 1 - 1 := by omega
                have j1 : (j : Int) + 1 - 1 < (j : Int) + 1 := by omega
                have j2 : ((j : Int) + 1 - 1).toNat = j := by omega
                have j3 : (j : Int) + 1 - 1 = j := by omega
                have w1' : IntKind.i64.wrap ((j : Int) + 1 - 1) = j := by rw [j3]; exact IntWalk.i64_in _ (by omega)
                clear hout hp hpl hi0'
                by_cases hcmp : last < k1
                · have d4 : decide ((k1 : Int) ≤ (last : Int)) = false := by simp only [decide_eq_false_iff_not]; omega
                  have d5 : ¬ (k1 : Int) ≤ (last : Int) := by omega
                  have d6 : ¬ k1 ≤ last := by omega
                  have d7 : decide (k1 ≤ last) = false := by simp only [decide_eq_false_iff_not]; omega
                  have hlp := Hlp.out
                  rw [if_pos ⟨rfl, hg0, hcmp⟩] at hlp
                  have Hlp2 := Lib.hid hlp
                  clear hlp Hlp hcmp
                  go_wp2_with fail
                  go_quiet (fail)
                  have HQ := Lib.hid (HI11.out.keep ((Ext.refl (fun _ => False) w11).drewN nq))
                  have HXq := Lib.hid ((((Ext.refl (fun _ => False) w11).drewN nq).blk (blk_lt HX11.out) id).trans HX11.out)
                  generalize w11.drewN nq = wq at *
                  clear x0 x1 t0 t1 t2 y0 y1 hltB hltT hltX HI11 HX11 q0
                  obtain ⟨x0, x1⟩ := cells_two HXq.out
                  obtain ⟨t0, t1, t2⟩ := box_cells HQ.out.t
                  have hltX := blk_lt HXq.out
                  have hltT := blk_lt HQ.out.t
                  have hrow := HQ.out.steps
                  rw [HSl.out] at hrow
                  have Hrow := Lib.hid hrow
                  clear hrow
                  go_wp2_with (first
                    | (at_builtin; refine wpList_append_any rfl (.tmp 130) (.tmp 132) 37 rfl 0 104 i1 _ 2 16 Try.underlying37 hi1 hy0 hy1 hy2 rfl (by decide) _ _ _ rfl (Hrow.out.alloc _) _ 1 1 (fun e => (by cases e)) (cellsS ((k1 : Int), x)) rfl rfl (.inr ⟨_, rfl, cells_new (cellsS ((k1 : Int), x)) _ rfl⟩) (by simp [cellsS, Value.oneCell']) (by simp only [maxLen]; omega) (by omega) (Nat.zero_le _) ?_; intro vn wn hown hgrow hat; obtain ⟨an, cn, rfl⟩ := ownsRow_shape hown; have hxn : Ext (fun k' => (Value.slice (some ⟨gg, 0, none⟩) (j + 1) co).ownBlock = some k') wq wn := ((Ext.refl (fun k' => (Value.slice (some ⟨gg, 0, none⟩) (j + 1) co).ownBlock = some k') wq).alloc _).grown hgrow (fun r hr _ => hr); have htn := (hxn.blk (blk_lt HQ.out.t) (fun e => ((own_not HQ.out).2 T e).2.1 rfl)).trans HQ.out.t; obtain ⟨y7, y8, y9⟩ := box_cells htn; have y6 := free_of_cells htn 2; have y5 := blk_lt htn; have Hown := Lib.hid hown; have Hxn := Lib.hid hxn; have Hat := Lib.hid hat; clear hown hgrow hat hxn htn))
                  have hR2 := HQ.out.appS Hxn.out (p := ((k1 : Int), x)) (by rw [HSl.out]; exact Hown.out) (by
                    rcases Hat.out with h | h
                    · exact .inl h
                    · refine .inr (fun g' hg' => ?_)
                      have h1 : g' = (wq.alloc (.cells (cellsS ((k1 : Int), x)).toArray 104)).heap.size := Option.some.inj (hg'.symm.trans h)
                      have h2 : (wq.alloc (.cells (cellsS ((k1 : Int), x)).toArray 104)).heap.size = wq.heap.size + 1 := by simp
                      omega)
                  have HR2 := Lib.hid hR2
                  clear hR2 Hown Hxn Hat HQ Hrow y5 y6 y7 y8 y9 x0 x1 t0 t1 t2 hltX hltT
                  go_roundg (M - (j + 1 + 1))
                  case measure => omega
                  case rel => exact ⟨j + 1 + 1, k1, _, _, _, _, by omega, rfl, by go_num, HR2.out, by simp [HSl.out], ⟨fun h => absurd h (by simp), fun p hp => by simp at hp; subst hp; rfl⟩, Hlp2.out⟩
                · have d4 : decide ((k1 : Int) ≤ (last : Int)) = true := by simp only [decide_eq_true_eq]; omega
                  have d5 : (k1 : Int) ≤ (last : Int) := by omega
                  have d6 : k1 ≤ last := by omega
                  have d7 : decide (k1 ≤ last) = true := by simp only [decide_eq_true_eq]; omega
                  have Hno : Hid (RL = false) := Lib.hid (by rw [Hlp.out, if_neg (fun h => hcmp h.2.2)]; rfl)
                  clear Hlp
                  go_wp2_with fail
                  go_quiet (fail)
                  have HQ := Lib.hid (HI11.out.keep ((Ext.refl (fun _ => False) w11).drewN nq))
                  generalize w11.drewN nq = wq at *
                  clear x0 x1 t0 t1 t2 y0 y1 hltB hltT hltX HI11 HX11 q0
                  obtain ⟨c0, c1, c2⟩ := box_cells HQ.out.c
                  have g0 := free_of_cells HQ.out.c 0
                  have g1 := free_of_cells HQ.out.c 1
                  have g2 := free_of_cells HQ.out.c 2
                  have hltC := blk_lt HQ.out.c
                  obtain ⟨hq, hqx⟩ := HQ.out.fin (.slice none 0 0) (.int .i64 0) (.slice none 0 0)
                  have Hfin := Lib.hid (And.intro hq (rload_no Hno.out hqx))
                  unfold setT at Hfin
                  clear hq hqx
                  go_wp2
                  obtain ⟨hq, hfin⟩ := Hfin.out
                  obtain ⟨z0, z1, z2⟩ := box_cells hq
                  exact bodyPost_ret (v := .tuple #[.agg #[.slice none 0 0, .int .i64 0, .slice none 0 0], .bool false]) (by simp [results, Try.results23, go_sem, z0, z1, z2]) rfl hfin
          · have hc1 : (l3e == 0) = false := by simpa using hc0
            have hc2 : (l3e != 0) = true := by simpa using hc0
            have hc3 : decide (l3e = 0) = false := by simpa using hc0
            have Hno : Hid (RL = false) := Lib.hid (by rw [Hlp.out, if_neg (fun h => hc0 h.1)]; rfl)
            clear Hlp
            go_wp2_with fail
            go_quiet (fail)
            have HQ := Lib.hid (HI11.out.keep ((Ext.refl (fun _ => False) w11).drewN nq))
            generalize w11.drewN nq = wq at *
            clear x0 x1 t0 t1 t2 y0 y1 hltB hltT hltX HI11 HX11
            obtain ⟨c0, c1, c2⟩ := box_cells HQ.out.c
            have g0 := free_of_cells HQ.out.c 0
            have g1 := free_of_cells HQ.out.c 1
            have g2 := free_of_cells HQ.out.c 2
            have hltC := blk_lt HQ.out.c
            obtain ⟨hq, hqx⟩ := HQ.out.fin (.slice none 0 0) (.int .i64 0) (.slice none 0 0)
            have Hfin := Lib.hid (And.intro hq (rload_no Hno.out hqx))
            unfold setT at Hfin
            clear hq hqx
            go_wp2
            obtain ⟨hq, hfin⟩ := Hfin.out
            obtain ⟨z0, z1, z2⟩ := box_cells hq
            exact bodyPost_ret (v := .tuple #[.agg #[.slice none 0 0, .int .i64 0, .slice none 0 0], .bool false]) (by simp [results, Try.results23, go_sem, z0, z1, z2]) rfl hfin
        · have hi' : M - i = 0 := by omega
          rw [hi'] at hlp
          have hlp : RL = (decide (endM s = 0) && !(decide (0 < gn) && decide (M = 0))) := hlp
          have hiM : i = M := by omega
          subst hiM
          have hv := hI.value
          obtain ⟨ao, co, rfl⟩ := ownsRow_shape hI.steps
          rw [hSl] at hI
          obtain ⟨ac, cc, rfl⟩ := ownsRow_shape hI.rows
          have hrend := rend_any wr _ s hv
          obtain ⟨y0, y1⟩ := box2 hI.r
          have hltB := blk_lt hI.r
          have Hrend := Lib.hid hrend
          have Hlp := Lib.hid hlp
          have HI := Lib.hid hI
          clear hrend hv hlp hI hlast hi' hiN hi hSl
          generalize endM s = en at *
          generalize s.c = scc at *
          go_wp2_with fail
          refine Hrend.out.mono ?_
          rintro r w9 ⟨rfl, hx9⟩
          have HI9 := Lib.hid (HI.out.keep hx9)
          clear hx9 HI y0 y1 hltB Hrend
          obtain ⟨t0, t1, t2⟩ := box_cells HI9.out.t
          have hltT := blk_lt HI9.out.t
          by_cases he : en = 0
          · subst he
            by_cases hg : gn = 0
            · subst hg
              have Hyes : Hid (RL = true) := Lib.hid (by rw [Hlp.out]; simp)
              clear Hlp
              obtain ⟨c0, c1, c2⟩ := box_cells HI9.out.c
              have g0 := free_of_cells HI9.out.c 0
              have g1 := free_of_cells HI9.out.c 1
              have g2 := free_of_cells HI9.out.c 2
              have hltC := blk_lt HI9.out.c
              obtain ⟨hq, hqx⟩ := HI9.out.fin (.slice ac K.length cc) (.int .i64 0) (.slice ao i co)
              have hfin : RLoadPost w RL (.returned (.tuple #[.agg #[.slice ac K.length cc, .int .i64 0, .slice ao i co], .bool true])) (setT w9 C (.slice ac K.length cc) (.int .i64 0) (.slice ao i co)) := ⟨_, _, _, _, _, _, _, by rw [Hyes.out], hqx⟩
              have Hfin := Lib.hid (And.intro hq hfin)
              unfold setT at Hfin
              have hCT : ¬ C = T := HI9.out.ct
              have hTC : ¬ T = C := fun e => hCT e.symm
              clear hq hqx hfin HI9
              go_wp2
              obtain ⟨hq, hfin⟩ := Hfin.out
              obtain ⟨z0, z1, z2⟩ := box_cells hq
              exact bodyPost_ret (v := .tuple #[.agg #[.slice ac K.length cc, .int .i64 0, .slice ao i co], .bool true]) (by simp [results, Try.results23, go_sem, z0, z1, z2]) rfl hfin
            · have d1 : (0 : Int) < (gn : Int) := by omega
              have d2 : 0 < gn := by omega
              by_cases hi0 : i = 0
              · subst hi0
                have Hno : Hid (RL = false) := Lib.hid (by rw [Hlp.out]; simp; omega)
                clear Hlp
                obtain ⟨c0, c1, c2⟩ := box_cells HI9.out.c
                have g0 := free_of_cells HI9.out.c 0
                have g1 := free_of_cells HI9.out.c 1
                have g2 := free_of_cells HI9.out.c 2
                have hltC := blk_lt HI9.out.c
                obtain ⟨hq, hqx⟩ := HI9.out.fin (.slice none 0 0) (.int .i64 0) (.slice none 0 0)
                have Hfin := Lib.hid (And.intro hq (rload_no Hno.out hqx))
                unfold setT at Hfin
                clear hq hqx HI9
                go_wp2
                obtain ⟨hq, hfin⟩ := Hfin.out
                obtain ⟨z0, z1, z2⟩ := box_cells hq
                exact bodyPost_ret (v := .tuple #[.agg #[.slice none 0 0, .int .i64 0, .slice none 0 0], .bool false]) (by simp [results, Try.results23, go_sem, z0, z1, z2]) rfl hfin
              · have d3 : ((i : Int) == 0) = false := by simp; omega
                have d4 : ¬ (i : Int) = 0 := by omega
                have Hyes : Hid (RL = true) := Lib.hid (by rw [Hlp.out]; simp; omega)
                clear Hlp
                obtain ⟨c0, c1, c2⟩ := box_cells HI9.out.c
                have g0 := free_of_cells HI9.out.c 0
                have g1 := free_of_cells HI9.out.c 1
                have g2 := free_of_cells HI9.out.c 2
                have hltC := blk_lt HI9.out.c
                obtain ⟨hq, hqx⟩ := HI9.out.fin (.slice ac K.length cc) (.int .i64 gn) (.slice ao i co)
                have hfin : RLoadPost w RL (.returned (.tuple #[.agg #[.slice ac K.length cc, .int .i64 gn, .slice ao i co], .bool true])) (setT w9 C (.slice ac K.length cc) (.int .i64 gn) (.slice ao i co)) := ⟨_, _, _, _, _, _, _, by rw [Hyes.out], hqx⟩
                have Hfin := Lib.hid (And.intro hq hfin)
                unfold setT at Hfin
                have hCT : ¬ C = T := HI9.out.ct
                have hTC : ¬ T = C := fun e => hCT e.symm
                clear hq hqx hfin HI9
                go_wp2
                obtain ⟨hq, hfin⟩ := Hfin.out
                obtain ⟨z0, z1, z2⟩ := box_cells hq
                exact bodyPost_ret (v := .tuple #[.agg #[.slice ac K.length cc, .int .i64 gn, .slice ao i co], .bool true]) (by simp [results, Try.results23, go_sem, z0, z1, z2]) rfl hfin
          · have hc1 : (en == 0) = false := by simpa using he
            have hc2 : (en != 0) = true := by simpa using he
            have Hno : Hid (RL = false) := Lib.hid (by rw [Hlp.out]; simp [he])
            clear Hlp
            obtain ⟨c0, c1, c2⟩ := box_cells HI9.out.c
            have g0 := free_of_cells HI9.out.c 0
            have g1 := free_of_cells HI9.out.c 1
            have g2 := free_of_cells HI9.out.c 2
            have hltC := blk_lt HI9.out.c
            obtain ⟨hq, hqx⟩ := HI9.out.fin (.slice none 0 0) (.int .i64 0) (.slice none 0 0)
            have Hfin := Lib.hid (And.intro hq (rload_no Hno.out hqx))
            unfold setT at Hfin
            clear hq hqx HI9
            go_wp2
            obtain ⟨hq, hfin⟩ := Hfin.out
            obtain ⟨z0, z1, z2⟩ := box_cells hq
            exact bodyPost_ret (v := .tuple #[.agg #[.slice none 0 0, .int .i64 0, .slice none 0 0], .bool false]) (by simp [results, Try.results23, go_sem, z0, z1, z2]) rfl hfin
end Go.Proofs.Ythligdgkhmgagaa
