/-
  The reference of package names: Load. Conditions: the text is small.
-/
import Derived.Test.YtgmopnbejjfbjaaR35
namespace Go.Proofs.Ytgmopnbejjfbjaa
open Go.RowKit Go.MapKept
open Go.ChangeMaps (setBlock)

def RLoadPost (w : World) (b : ByteArray) (r : Ending) (w' : World) : Prop := ∃ v, r = .returned (.tuple #[v, .bool (refLoad b)]) ∧ Ext (fun _ => False) w w'
theorem rnumM_le (lo hi : Nat) (s : RS) : (rnumM lo hi s).1 ≤ hi := by
  unfold rnumM
  by_cases h : (numberM s).2.c = 0 ∧ ((numberM s).1 < lo ∨ hi < (numberM s).1)
  · rw [if_pos h]; omega
  · rw [if_neg h]
    by_cases hc : (numberM s).2.c = 0
    · have : ¬ ((numberM s).1 < lo ∨ hi < (numberM s).1) := fun h' => h ⟨hc, h'⟩
      omega
    · have := numberM_zero s hc; omega
theorem rload_no {w w' : World} {b : ByteArray} (h : refLoad b = false) (hx : Ext (fun _ => False) w w') : RLoadPost w b (.returned (.tuple #[.slice none 0 0, .bool false])) w' := ⟨_, by rw [h], hx⟩
theorem RlSt.app {w wi w1 : World} {B : Nat} {s : RS} {vo v' : Value} {R : List (ByteArray × Slot)} (h : RlSt w wi B s vo R) (hx : Ext (fun k => vo.ownBlock = some k) wi w1) (p : ByteArray × Slot) (hp : p.2.v.oneCell' = true)
    (hown : w1.ownsRow 0 122 2 v' (R.length + 1) (R.flatMap cellsN ++ cellsN p)) (hloc : v'.ownBlock = vo.ownBlock ∨ ∀ g, v'.ownBlock = some g → wi.heap.size ≤ g) : RlSt w w1 B s v' (R ++ [p]) := by
  refine ⟨h.ext.trans' hx (fun k hk e => absurd (h.no k e) (by omega)), h.rd.ext hx (fun e => ?_) (fun g cur hc e => ?_), h.nb, by simpa using hown, fun g hg => ?_, fun q hq => ?_⟩
  · obtain ⟨v, hv, _⟩ := h.rd
    obtain ⟨c, hc⟩ := row_type h.out e
    rw [hv] at hc; cases hc
  · obtain ⟨c, h2⟩ := row_type h.out e
    exact hc.ne h2 (by decide)
  · rcases hloc with e | e
    · exact h.no g (e.symm.trans hg)
    · exact Nat.le_trans h.ext.size (e g hg)
  · rcases List.mem_append.1 hq with hq | hq
    · exact h.one q hq
    · simp at hq; subst hq; exact hp
theorem leS_empty {t : ByteArray} (h : isNameB t = true) : leS t { data := #[] } = false := by
  unfold leS
  obtain ⟨⟨l⟩⟩ := t
  cases l with
  | nil => simp [isNameB] at h; exact absurd h.1 (by decide)
  | cons a r =>
    simp only [decide_eq_false_iff_not]
    intro h2
    simp at h2
/-- the last name so far -/
def LastIs (R : List (ByteArray × Slot)) (last : ByteArray) : Prop := (R = [] → last = { data := #[] }) ∧ ∀ p, R.getLast? = some p → p.1 = last
set_option maxRecDepth 100000 in
set_option maxHeartbeats 4000000 in
theorem rload_any (w : World) (b : ByteArray) (hs : b.size ≤ 1000000) : Calls Try.prog 32 #[.string b] w (RLoadPost w b) := by
  obtain ⟨w1, hw1⟩ : ∃ w1, w1 = w.alloc (.cells #[] 122) := ⟨_, rfl⟩
  have hx1 : Ext (fun _ => False) w w1 := by rw [hw1]; exact (Ext.refl _ w).alloc _
  have hb1 : blk w1 w.heap.size = some (.cells #[] 122 (0, 0)) := by rw [hw1]; exact blk_alloc_at _ _
  obtain ⟨cap, w2, hcv, hb2, hx2⟩ := run_string_bytesAt w1 b hs
  have hll : b.data.toList.length = b.size := Array.length_toList
  have hlp : refLoad b = refRows (countM b.size ⟨b.data.toList, 0⟩).1 { data := #[] } (countM b.size ⟨b.data.toList, 0⟩).2 := rfl
  have hle := countM_most b.size ⟨b.data.toList, 0⟩
  have hcnt := rcount_any w2 (.agg #[.slice (some ⟨w1.heap.size, 0, none⟩) b.size cap, .int .i64 0]) ⟨b.data.toList, 0⟩ b.size ⟨_, rfl, hb2⟩ (by omega)
  obtain ⟨⟨N, s0⟩, hN⟩ : ∃ m, countM b.size ⟨b.data.toList, 0⟩ = m := ⟨_, rfl⟩
  rw [hN] at hlp hle hcnt
  simp only at hlp hle
  have Hcnt := Lib.hid hcnt
  have Hlp := Lib.hid hlp
  have Hx2 := Lib.hid (hx1.trans hx2)
  have Hb2 := Lib.hid ((hx2.blk (blk_lt hb1) id).trans hb1)
  clear hcnt hlp hx1 hx2 hN hb1 hb2 hll
  go_enter Try.func32, Try.ntmps32
  go_upto_region 2 with fail
  rw [← hw1]
  clear hw1
  go_wp2_with fail
  refine Hcnt.out.mono ?_
  rintro r w3 ⟨v3, rfl, hr3, hx3⟩
  obtain ⟨a3, c3, rfl, hb3⟩ := hr3.shape
  have Hx3 := Lib.hid (Hx2.out.trans hx3)
  have Hb1 := Lib.hid ((hx3.blk (blk_lt Hb2.out) id).trans Hb2.out)
  have Hb3 := Lib.hid hb3
  clear hr3 hx3 hb3 hcv Hx2 Hb2 Hcnt
  simp only at Hb3 ⊢
  go_upto_region 3 with fail
  obtain ⟨w4, hw4⟩ : ∃ w4, w4 = w3.alloc (.cells #[.slice a3 s0.l.length c3, .int .i64 s0.c] 128) := ⟨_, rfl⟩
  have hx4 : Ext (fun _ => False) w3 w4 := by rw [hw4]; exact (Ext.refl _ w3).alloc _
  have hb4 : blk w4 w3.heap.size = some (.cells #[.slice a3 s0.l.length c3, .int .i64 s0.c] 128 (0, 0)) := by rw [hw4]; exact blk_alloc_at _ _
  have hI4 : RlSt w w4 w3.heap.size s0 (.slice (some ⟨w.heap.size, 0, none⟩) 0 0) [] := ⟨Hx3.out.trans hx4, ⟨_, hb4, Hb3.out.keep hx4⟩, Hx3.out.size, ownsRow_keep (ownsRow_empty 2 Hb1.out) hx4, fun g e => Nat.le_of_eq (Option.some.inj e), fun _ h => (by cases h)⟩
  rw [← hw4]
  generalize w3.heap.size = B at *
  have HI4 := Lib.hid hI4
  obtain ⟨i0, hi0, hz0, hz1, hz2⟩ := info_parts Try.infoName
  obtain ⟨i1, hi1, hy0, hy1, hy2⟩ := info_parts Try.infoEpoch
  clear hw4 hx4 hb4 hI4 Hx3 Hb1 Hb3
  go_wp2_with fail
  go_loopg [4, 7] N (fun q v4 v7 wr => ∃ (i : Nat) (last : ByteArray) (R : List (ByteArray × Slot)) (s : RS), i ≤ N ∧ q = N - i ∧ v7 = .int .i64 i ∧ RlSt w wr B s v4 R ∧ R.length = i ∧ LastIs R last ∧ refLoad b = refRows (N - i) last s)
  case atStart => exact ⟨0, _, [], s0, Nat.zero_le _, rfl, rfl, HI4.out, rfl, ⟨fun _ => rfl, fun _ h => (by cases h)⟩, Hlp.out⟩
  case round =>
    obtain ⟨i, last, R, s, hi, rfl, rfl, hI, hRl, hlast, hlp⟩ := hrel
    clear HI4 Hlp
    by_cases hiN : i < N
    · have hstep : N - i = (N - (i + 1)) + 1 := by omega
      rw [hstep] at hlp
      have hlp : refLoad b = (if (refEps (rnumM 1 1024 (textM s).2).1 (rnumM 1 1024 (textM s).2).2).c = 0 ∧ isNameB (ofL (textM s).1) = true ∧ leS (ofL (textM s).1) last = false then
        refRows (N - (i + 1)) (ofL (textM s).1) (refEps (rnumM 1 1024 (textM s).2).1 (rnumM 1 1024 (textM s).2).2) else false) := hlp
      obtain ⟨w5, hw5⟩ : ∃ w5, w5 = wr.alloc (.cells #[.string { data := #[] }, .slice none 0 0] 122) := ⟨_, rfl⟩
      have hx5 : Ext (fun _ => False) wr w5 := by rw [hw5]; exact (Ext.refl _ wr).alloc _
      have hb5 : blk w5 wr.heap.size = some (.cells #[.string { data := #[] }, .slice none 0 0] 122 (0, 0)) := by rw [hw5]; exact blk_alloc_at _ _
      have hI5 : InSt w w5 B wr.heap.size s u4 R { data := #[] } (.slice none 0 0) [] := ⟨hI.keep hx5, hb5, hI.ext.size, fun g hg e => by
        obtain ⟨cur, hc⟩ := row_type hI.out hg
        have := blk_lt hc
        omega, World.ownsRow_nil _ _ _ _, fun g e => (by cases e)⟩
      obtain ⟨aB, cB, hpB, hrs⟩ := hI5.base.rd.val
      have htx := rtxt_any w5 _ s hrs
      have htl := textM_len s
      have hsm : s.l.length ≤ 9223372036854775807 := by
        obtain ⟨_, hv⟩ := hrs
        obtain ⟨_, _, _, h1, h2, _⟩ := hv.2
        exact Nat.le_trans h1 h2
      obtain ⟨⟨tl, s1⟩, ht⟩ : ∃ m, textM s = m := ⟨_, rfl⟩
      rw [ht] at htx htl hlp
      simp only at htl hlp
      have htz : (ofL tl).size ≤ 9223372036854775807 := by
        show tl.toArray.size ≤ _
        simp; omega
      have htx' : Calls Try.prog 57 #[.agg #[.slice aB s.l.length cB, .int .i64 s.c]] w5 fun r w' => ∃ v', r = .returned (.tuple #[v', .string (ofL tl)]) ∧ IsRs w' v' s1 ∧ Ext (fun _ => False) w5 w' := htx
      generalize ofL tl = t at *
      obtain ⟨y0, y1⟩ := box2 hpB
      have hXB : ¬ wr.heap.size = B := fun e => by
        rw [e, hpB] at hb5; cases hb5
      have Htx := Lib.hid htx'
      have HI5 := Lib.hid hI5
      have HRl := Lib.hid hRl
      have Hlast := Lib.hid hlast
      have Hlp := Lib.hid hlp
      clear htx htx' hI hRl hlast hlp hstep htl hsm ht hx5 hb5 hrs hpB
      go_upto_region 8 with fail
      rw [← hw5]
      clear hw5
      generalize wr.heap.size = X at *
      generalize s.l.length = m at *
      generalize s.c = sc at *
      go_wp2_with fail
      refine Htx.out.mono ?_
      rintro r w6 ⟨v6, rfl, hr6, hx6⟩
      obtain ⟨a6, c6, rfl, hb6⟩ := hr6.shape
      have hI6 := HI5.out.keep hx6
      have HI8 := Lib.hid ((hI6.rdset hb6).1.name t)
      unfold set2 at HI8
      obtain ⟨vB, hpB, _⟩ := hI6.base.rd
      obtain ⟨y0, y1⟩ := box2 hpB
      obtain ⟨x0, x1⟩ := box2 hI6.x
      have f0 := free_of_cells hpB 0
      have f1 := free_of_cells hpB 1
      have g0 := free_of_cells hI6.x 0
      have hltB := blk_lt hpB
      have hltX := blk_lt hI6.x
      clear hr6 hx6 hb6 hI6 hpB HI5 Htx
      go_upto_region 9 with fail
      generalize ((w6.setCell ⟨B, 0, none⟩ (.slice a6 s1.l.length c6)).setCell ⟨B, 1, none⟩ (.int .i64 s1.c)).setCell ⟨X, 0, none⟩ (.string t) = w8 at *
      clear y0 y1 x0 x1 f0 f1 g0 hltB hltX
      obtain ⟨aB, cB, hpB, hrs⟩ := HI8.out.base.rd.val
      have hnm : Calls Try.prog 58 #[.agg #[.slice aB s1.l.length cB, .int .i64 s1.c], .int .u64 1, .int .u64 1024] w8 (CtPost w8 (rnumM 1 1024 s1)) := rnum45_any w8 _ s1 1 1024 hrs (by omega) (by omega)
      obtain ⟨y0, y1⟩ := box2 hpB
      have hK := rnumM_le 1 1024 s1
      obtain ⟨⟨K, s2⟩, hk⟩ : ∃ m, rnumM 1 1024 s1 = m := ⟨_, rfl⟩
      rw [hk] at hnm Hlp hK
      simp only at Hlp hK
      have Hnm := Lib.hid hnm
      clear hnm hk hpB hrs
      go_wp2_with fail
      refine Hnm.out.mono ?_
      rintro r w9 ⟨v9, rfl, hr9, hx9⟩
      obtain ⟨a9, c9, rfl, hb9⟩ := hr9.shape
      have hI9 := HI8.out.keep hx9
      have HI10 := Lib.hid (hI9.rdset hb9).1
      unfold set2 at HI10
      obtain ⟨vB, hpB, _⟩ := hI9.base.rd
      obtain ⟨y0, y1⟩ := box2 hpB
      have f0 := free_of_cells hpB 0
      have f1 := free_of_cells hpB 1
      have hltB := blk_lt hpB
      clear hr9 hx9 hb9 hI9 hpB HI8 Hnm
      go_upto_region 10 with fail
      generalize (w9.setCell ⟨B, 0, none⟩ (.slice a9 s2.l.length c9)).setCell ⟨B, 1, none⟩ (.int .i64 s2.c) = w10 at *
      clear y0 y1 f0 f1 hltB
      go_wp2_with fail
      go_loopg [10] K (fun q v10 wx => ∃ (j : Nat) (s : RS) (ve : Value) (l : List Ep), j ≤ K ∧ q = K - j ∧ v10 = .int .i64 j ∧ InSt w wx B X s u4 R t ve l ∧ l.length = j ∧ refEps K s2 = refEps (K - j) s)
      case atStart => exact ⟨0, s2, _, [], Nat.zero_le _, rfl, rfl, HI10.out, rfl, rfl⟩
      case round =>
        obtain ⟨j, s3, ve, l, hj, rfl, rfl, hI, hlj, hre⟩ := hrel
        clear HI10
        obtain ⟨aB, cB, hpB, hrs⟩ := hI.base.rd.val
        obtain ⟨y0, y1⟩ := box2 hpB
        have hltB := blk_lt hpB
        by_cases hgo : j < K ∧ s3.c = 0
        · obtain ⟨hjK, hc0⟩ := hgo
          obtain ⟨w11, hw11⟩ : ∃ w11, w11 = wr.alloc (.cells #[.int .i64 0, .int .i64 0, .int .i64 0] 110) := ⟨_, rfl⟩
          have hx11 : Ext (fun _ => False) wr w11 := by rw [hw11]; exact (Ext.refl _ wr).alloc _
          have hE11 : blk w11 wr.heap.size = some (.cells #[.int .i64 0, .int .i64 0, .int .i64 0] 110 (0, 0)) := by rw [hw11]; exact blk_alloc_at _ _
          have hI11 := hI.keep hx11
          have hEv : ∀ k, ve.ownBlock = some k → ¬ k = wr.heap.size := fun k hk e => by
            obtain ⟨cur, hc⟩ := row_type hI.ep hk
            have := blk_lt hc
            omega
          have hEw : w.heap.size ≤ wr.heap.size := hI.base.ext.size
          have hEB : ¬ wr.heap.size = B := by omega
          have hst : K - j = (K - (j + 1)) + 1 := by omega
          rw [hst, refEps_ok hc0] at hre
          have hstep : refStep s3 = (rnumM 0 1099511627777 (rnumM 1 65536 (rnumM 1 1099511627776 s3).2).2).2 := rfl
          rw [hstep] at hre
          obtain ⟨⟨n1, s4⟩, h1⟩ : ∃ m, rnumM 1 1099511627776 s3 = m := ⟨_, rfl⟩
          rw [h1] at hre
          simp only at hre
          obtain ⟨⟨n2, s5⟩, h2⟩ : ∃ m, rnumM 1 65536 s4 = m := ⟨_, rfl⟩
          rw [h2] at hre
          simp only at hre
          obtain ⟨⟨n3, s6⟩, h3⟩ : ∃ m, rnumM 0 1099511627777 s5 = m := ⟨_, rfl⟩
          rw [h3] at hre
          simp only at hre
          have hn1 : ∀ (W : World) (a : Option Addr) (c : Nat), IsRs W (.agg #[.slice a s3.l.length c, .int .i64 s3.c]) s3 → Calls Try.prog 58 #[.agg #[.slice a s3.l.length c, .int .i64 s3.c], .int .u64 1, .int .u64 1099511627776] W (CtPost W (n1, s4)) := fun W a c h => h1 ▸ rnum45_any W _ s3 1 1099511627776 h (by omega) (by omega)
          have hn2 : ∀ (W : World) (a : Option Addr) (c : Nat), IsRs W (.agg #[.slice a s4.l.length c, .int .i64 s4.c]) s4 → Calls Try.prog 58 #[.agg #[.slice a s4.l.length c, .int .i64 s4.c], .int .u64 1, .int .u64 65536] W (CtPost W (n2, s5)) := fun W a c h => h2 ▸ rnum45_any W _ s4 1 65536 h (by omega) (by omega)
          have hn3 : ∀ (W : World) (a : Option Addr) (c : Nat), IsRs W (.agg #[.slice a s5.l.length c, .int .i64 s5.c]) s5 → Calls Try.prog 58 #[.agg #[.slice a s5.l.length c, .int .i64 s5.c], .int .u64 0, .int .u64 1099511627777] W (CtPost W (n3, s6)) := fun W a c h => h3 ▸ rnum45_any W _ s5 0 1099511627777 h (by omega) (by omega)
          have Hn1 := Lib.hid hn1
          have Hn2 := Lib.hid hn2
          have Hn3 := Lib.hid hn3
          have HI11 := Lib.hid hI11
          have HE11 := Lib.hid hE11
          have HEv := Lib.hid hEv
          have Hre := Lib.hid hre
          have Hlj := Lib.hid hlj
          clear hn1 hn2 hn3 hI11 hE11 hEv hre hst hstep h1 h2 h3 hx11 hI hrs hpB hlj
          go_upto_region 14 with fail
          rw [← hw11]
          clear hw11
          generalize wr.heap.size = E at *
          clear y0 y1 hltB hc0
          obtain ⟨aB, cB, hpB, hrs⟩ := HI11.out.base.rd.val
          obtain ⟨y0, y1⟩ := box2 hpB
          have Hnum := Lib.hid (Hn1.out w11 aB cB hrs)
          clear hpB hrs Hn1
          go_wp2_with fail
          refine Hnum.out.mono ?_
          rintro r w12 ⟨v9, rfl, hr9, hx9⟩
          obtain ⟨a9, c9, rfl, hb9⟩ := hr9.shape
          have hI9 := HI11.out.keep hx9
          have hq := HI11.out.num HE11.out HEv.out hEw hx9 hb9 0 (.int .i64 n1) (a' := n1) (b' := 0) (g' := 0) rfl
          have HI14 := Lib.hid hq.1
          have HE14 := Lib.hid hq.2
          unfold set2 at HI14 HE14
          obtain ⟨vB, hpB, _⟩ := hI9.base.rd
          obtain ⟨y0, y1⟩ := box2 hpB
          have f0 := free_of_cells hpB 0
          have f1 := free_of_cells hpB 1
          have hE9 := (hx9.blk (blk_lt HE11.out) id).trans HE11.out
          obtain ⟨e0, e1, e2⟩ := box_cells hE9
          have k0 := free_of_cells hE9 0
          have hltB := blk_lt hpB
          have hltE := blk_lt hE9
          clear hr9 hx9 hb9 hI9 hpB HI11 HE11 Hnum hq hE9
          go_upto_region 15 with fail
          generalize ((w12.setCell ⟨B, 0, none⟩ (.slice a9 s4.l.length c9)).setCell ⟨B, 1, none⟩ (.int .i64 s4.c)).setCell ⟨E, 0, none⟩ (.int .i64 n1) = w14 at *
          clear y0 y1 f0 f1 e0 e1 e2 k0 hltB hltE
          obtain ⟨aB, cB, hpB, hrs⟩ := HI14.out.base.rd.val
          obtain ⟨y0, y1⟩ := box2 hpB
          have Hnum := Lib.hid (Hn2.out w14 aB cB hrs)
          clear hpB hrs Hn2
          go_wp2_with fail
          refine Hnum.out.mono ?_
          rintro r w15 ⟨v9, rfl, hr9, hx9⟩
          obtain ⟨a9, c9, rfl, hb9⟩ := hr9.shape
          have hI9 := HI14.out.keep hx9
          have hq := HI14.out.num HE14.out HEv.out hEw hx9 hb9 1 (.int .i64 n2) (a' := n1) (b' := n2) (g' := 0) rfl
          have HI17 := Lib.hid hq.1
          have HE17 := Lib.hid hq.2
          unfold set2 at HI17 HE17
          obtain ⟨vB, hpB, _⟩ := hI9.base.rd
          obtain ⟨y0, y1⟩ := box2 hpB
          have f0 := free_of_cells hpB 0
          have f1 := free_of_cells hpB 1
          have hE9 := (hx9.blk (blk_lt HE14.out) id).trans HE14.out
          obtain ⟨e0, e1, e2⟩ := box_cells hE9
          have k0 := free_of_cells hE9 1
          have hltB := blk_lt hpB
          have hltE := blk_lt hE9
          clear hr9 hx9 hb9 hI9 hpB HI14 HE14 Hnum hq hE9
          go_upto_region 16 with fail
          generalize ((w15.setCell ⟨B, 0, none⟩ (.slice a9 s5.l.length c9)).setCell ⟨B, 1, none⟩ (.int .i64 s5.c)).setCell ⟨E, 1, none⟩ (.int .i64 n2) = w17 at *
          clear y0 y1 f0 f1 e0 e1 e2 k0 hltB hltE
          obtain ⟨aB, cB, hpB, hrs⟩ := HI17.out.base.rd.val
          obtain ⟨y0, y1⟩ := box2 hpB
          have Hnum := Lib.hid (Hn3.out w17 aB cB hrs)
          clear hpB hrs Hn3
          go_wp2_with fail
          refine Hnum.out.mono ?_
          rintro r w18 ⟨v9, rfl, hr9, hx9⟩
          obtain ⟨a9, c9, rfl, hb9⟩ := hr9.shape
          have hI9 := HI17.out.keep hx9
          have hq := HI17.out.num HE17.out HEv.out hEw hx9 hb9 2 (.int .i64 n3) (a' := n1) (b' := n2) (g' := n3) rfl
          have HI20 := Lib.hid hq.1
          have HE20 := Lib.hid hq.2
          unfold set2 at HI20 HE20
          obtain ⟨vB, hpB, _⟩ := hI9.base.rd
          obtain ⟨y0, y1⟩ := box2 hpB
          have f0 := free_of_cells hpB 0
          have f1 := free_of_cells hpB 1
          have hE9 := (hx9.blk (blk_lt HE17.out) id).trans HE17.out
          obtain ⟨e0, e1, e2⟩ := box_cells hE9
          have k0 := free_of_cells hE9 2
          have hltB := blk_lt hpB
          have hltE := blk_lt hE9
          clear hr9 hx9 hb9 hI9 hpB HI17 HE17 Hnum hq hE9
          go_upto_region 17 with fail
          generalize ((w18.setCell ⟨B, 0, none⟩ (.slice a9 s6.l.length c9)).setCell ⟨B, 1, none⟩ (.int .i64 s6.c)).setCell ⟨E, 2, none⟩ (.int .i64 n3) = w20 at *
          clear y0 y1 f0 f1 e0 e1 e2 k0 hltB hltE
          obtain ⟨av, cv, rfl⟩ := ownsRow_shape HI20.out.ep
          have hep := HI20.out.ep
          rw [Hlj.out] at hep HI20 HEv
          obtain ⟨x0, x1⟩ := box2 HI20.out.x
          obtain ⟨e0, e1, e2⟩ := box_cells HE20.out
          have hX20 := HI20.out.x
          have hXe : ¬ (Value.slice av j cv).ownBlock = some X := fun e => by
            obtain ⟨c2, h2⟩ := row_type HI20.out.ep e
            rw [HI20.out.x] at h2; cases h2
          have Hep := Lib.hid hep
          have HX20 := Lib.hid hX20
          have HXe := Lib.hid hXe
          clear hep hX20 hXe
          go_wp2_with (first
            | (at_builtin; refine wpList_append_any rfl (.tmp 69) (.tmp 71) 107 rfl 0 110 i1 _ 3 24 Try.underlying107 hi1 hy0 hy1 hy2 rfl (by decide) _ _ _ rfl (Hep.out.alloc _) _ 1 1 (fun e => (by cases e)) (Ep.cs ⟨n1, n2, n3⟩) rfl rfl (.inr ⟨_, rfl, cells_new (Ep.cs ⟨n1, n2, n3⟩) _ rfl⟩) (by simp [Ep.cs, Value.oneCell']) (by simp only [maxLen]; omega) (by omega) (Nat.zero_le _) ?_; intro v21 w21 hown21 hgrow21 hat21; obtain ⟨a21, c21, rfl⟩ := ownsRow_shape hown21; have hx21 : Ext (fun k => (Value.slice av j cv).ownBlock = some k) w20 w21 := ((Ext.refl (fun k => (Value.slice av j cv).ownBlock = some k) w20).alloc _).grown hgrow21 (fun r hr _ => hr); have hX21 := (hx21.blk (blk_lt HX20.out) HXe.out).trans HX20.out; obtain ⟨x0, x1⟩ := box2 hX21; have g1 := free_of_cells hX21 1; have hltX := blk_lt hX21; have Hown21 := Lib.hid hown21; have Hx21 := Lib.hid hx21; have Hat21 := Lib.hid hat21; clear hown21 hx21 hat21 hgrow21 hX21))
          have hown21 : w21.ownsRow 0 110 3 (.slice a21 (j + 1) c21) (l ++ [(⟨n1, n2, n3⟩ : Ep)]).length (eps (l ++ [⟨n1, n2, n3⟩])) := by
            rw [eps_append, List.length_append, Hlj.out]; simpa [eps] using Hown21.out
          have hloc : ∀ g, (Value.slice a21 (j + 1) c21).ownBlock = some g → (Value.slice av j cv).ownBlock = some g ∨ w20.heap.size ≤ g := fun g hg => by
            rcases Hat21.out with h | h
            · exact .inl (h.symm.trans hg)
            · have h1 : g = (w20.alloc (.cells #[.int .i64 n1, .int .i64 n2, .int .i64 n3] 110)).heap.size := Option.some.inj (hg.symm.trans h)
              have h2 : (w20.alloc (.cells #[.int .i64 n1, .int .i64 n2, .int .i64 n3] 110)).heap.size = w20.heap.size + 1 := by simp
              exact .inr (by omega)
          have hI22 := HI20.out.app Hx21.out hown21 hloc
          have HI22 := Lib.hid hI22
          clear hI22 hown21 hloc Hx21 Hown21 Hat21
          go_roundg (K - (j + 1))
          case measure => omega
          case rel => exact ⟨j + 1, s6, (.slice a21 (j + 1) c21), l ++ [⟨n1, n2, n3⟩], by omega, rfl, by go_num, HI22.out, by rw [List.length_append, Hlj.out]; rfl, Hre.out⟩
        · have hre2 : refEps K s2 = s3 := by
            rw [hre]
            by_cases hc0 : s3.c = 0
            · have : K - j = 0 := by omega
              rw [this]; rfl
            · exact refEps_err hc0
          rw [hre2] at Hlp
          by_cases hjK : j < K
          · have hc0 : ¬ s3.c = 0 := fun h => hgo ⟨hjK, h⟩
            have hc1 : (s3.c == 0) = false := by simpa using hc0
            have hc2 : (s3.c != 0) = true := by simpa using hc0
            have hc3 : decide (s3.c = 0) = false := by simpa using hc0
            have hno : refLoad b = false := by rw [Hlp.out, if_neg (fun h => hc0 h.1)]
            have Hno := Lib.hid hno
            have Hx := Lib.hid hI.base.ext
            generalize s3.c = cc at *
            clear hno hI hpB hrs hre hre2 Hlp hc0 hgo
            go_wp2_with fail
            go_quiet (fail)
            go_wp2
            go_ret2
            exact rload_no Hno.out (Hx.out.drewN _)
          · obtain ⟨ao, co, hu4⟩ := ownsRow_shape hI.base.out
            rw [HRl.out] at hu4
            subst hu4
            obtain ⟨av, cv, hve⟩ := ownsRow_shape hI.ep
            rw [hlj] at hve
            subst hve
            obtain ⟨x0, x1⟩ := box2 hI.x
            have hltX := blk_lt hI.x
            have Hlj := Lib.hid hlj
            clear hlj
            by_cases hc0 : s3.c = 0
            · rw [hc0] at y1
              by_cases hz1' : (t.size : Int) < 1
              · have Hno : Hid (refLoad b = false) := Lib.hid (by rw [Hlp.out, if_neg (fun h => by have h2 := h.2.1; simp [isNameB] at h2; omega)])
                have Hx := Lib.hid hI.base.ext
                have d1 : decide ((t.size : Int) < 1) = true := by simpa using hz1'
                clear hI hpB hrs hre hre2 Hlp hgo Hlast HRl Hlj
                go_wp2_with fail
                go_quiet (fail)
                go_wp2
                go_ret2
                exact rload_no Hno.out (Hx.out.drewN _)
              · have d1 : decide ((t.size : Int) < 1) = false := by simpa using hz1'
                by_cases hz2' : (31 : Int) < t.size
                · have Hno : Hid (refLoad b = false) := Lib.hid (by rw [Hlp.out, if_neg (fun h => by have h2 := h.2.1; simp [isNameB] at h2; omega)])
                  have Hx := Lib.hid hI.base.ext
                  have d2 : decide ((31 : Int) < (t.size : Int)) = true := by simpa using hz2'
                  clear hI hpB hrs hre hre2 Hlp hgo Hlast HRl Hlj
                  go_wp2_with fail
                  go_quiet (fail)
                  go_wp2
                  go_ret2
                  exact rload_no Hno.out (Hx.out.drewN _)
                · have d2 : decide ((31 : Int) < (t.size : Int)) = false := by simpa using hz2'
                  have hname : isNameB t = true := by simp [isNameB]; omega
                  by_cases hi0' : i = 0
                  · have hcmp : leS t last = false := by
                      have hR0 : R = [] := List.eq_nil_of_length_eq_zero (HRl.out.trans hi0')
                      rw [Hlast.out.1 hR0]; exact leS_empty hname
                    have d3 : decide ((0 : Int) < (i : Int)) = false := by simp only [decide_eq_false_iff_not]; omega
                    subst hi0'
                    have hlp := Hlp.out
                    rw [if_pos ⟨hc0, hname, hcmp⟩] at hlp
                    have Hlp2 := Lib.hid hlp
                    have HI := Lib.hid hI
                    clear hlp Hlp hI hpB hrs hre hre2 hgo
                    go_wp2_with fail
                    go_quiet (fail)
                    have HQ := Lib.hid (HI.out.keep ((Ext.refl (fun _ => False) wr).drewN nq))
                    generalize wr.drewN nq = wq at *
                    clear x0 x1 y0 y1 hltB hltX HI
                    obtain ⟨x0, x1⟩ := box2 HQ.out.x
                    have hltX := blk_lt HQ.out.x
                    have hout := HQ.out.base.out
                    rw [HRl.out] at hout
                    have Hout := Lib.hid hout
                    clear hout
                    go_wp2_with (first
                      | (at_builtin; refine wpList_append_any rfl (.tmp 104) (.tmp 106) 64 rfl 0 122 i0 _ 2 40 Try.underlying64 hi0 hz0 hz1 hz2 rfl (by decide) _ _ _ rfl (Hout.out.alloc _) _ 1 1 (fun e => (by cases e)) (cellsN (t, ⟨.slice av j cv, l⟩)) rfl rfl (.inr ⟨_, rfl, cells_new (cellsN (t, ⟨.slice av j cv, l⟩)) _ rfl⟩) (by simp [cellsN, Value.oneCell']) (by simp only [maxLen]; omega) (by omega) (Nat.zero_le _) ?_; intro vn wn hown hgrow hat; obtain ⟨an, cn, rfl⟩ := ownsRow_shape hown; have Hown := Lib.hid hown; have Hgrow := Lib.hid hgrow; have Hat := Lib.hid hat; clear hown hgrow hat))
                    have hxn : Ext (fun k => (Value.slice ao 0 co).ownBlock = some k) wq wn := ((Ext.refl (fun k => (Value.slice ao 0 co).ownBlock = some k) wq).alloc _).grown Hgrow.out (fun r hr _ => hr)
                    have hR2 := HQ.out.base.app hxn (t, ⟨.slice av j cv, l⟩) rfl (by rw [HRl.out]; exact Hown.out) (by
                      rcases Hat.out with h | h
                      · exact .inl h
                      · refine .inr (fun g hg => ?_)
                        have h1 : g = (wq.alloc (.cells (cellsN (t, ⟨.slice av j cv, l⟩)).toArray 122)).heap.size := Option.some.inj (hg.symm.trans h)
                        have h2 : (wq.alloc (.cells (cellsN (t, ⟨.slice av j cv, l⟩)).toArray 122)).heap.size = wq.heap.size + 1 := by simp
                        omega)
                    have HR2 := Lib.hid hR2
                    clear hxn hR2 Hown Hgrow Hat HQ Hout x0 x1 hltX
                    go_roundg (N - (0 + 1))
                    case measure => omega
                    case rel => exact ⟨0 + 1, t, _, s3, by omega, rfl, by go_num, HR2.out, by simp [HRl.out], ⟨fun h => absurd h (by simp), fun p hp => by simp at hp; subst hp; rfl⟩, Hlp2.out⟩
                  · obtain ⟨k, rfl⟩ : ∃ k, i = k + 1 := ⟨i - 1, by omega⟩
                    obtain ⟨p, hp⟩ : ∃ p, R[k]? = some p := ⟨_, List.getElem?_eq_getElem (by rw [HRl.out]; omega)⟩
                    have hpl : p.1 = last := Hlast.out.2 p (by rw [List.getLast?_eq_getElem?, HRl.out]; exact hp)
                    have hout := hI.base.out
                    rw [HRl.out] at hout
                    obtain ⟨g, rfl, hglt⟩ := row_form hout (by omega)
                    have c0 := row_at (f := cellsN) cellsN_len hout k hp 0 (by omega) rfl
                    simp only [Nat.add_zero] at c0
                    rw [hpl] at c0
                    have d3 : decide ((0 : Int) < (k : Int) + 1) = true := by simp only [decide_eq_true_eq]; omega
                    have hd1 : -9223372036854775808 ≤ (k : Int) + 1 - 1 := by omega
                    have j0 : (0 : Int) ≤ (k : Int) + 1 - 1 := by omega
                    have j1 : (k : Int) + 1 - 1 < (k : Int) + 1 := by omega
                    have j2 : ((k : Int) + 1 - 1).toNat = k := by omega
                    have j3 : (k : Int) + 1 - 1 = k := by omega
                    have w1' : IntKind.i64.wrap ((k : Int) + 1 - 1) = k := by rw [j3]; exact IntWalk.i64_in _ (by omega)
                    have l1 := less_leS t last
                    have l2 := less_leS last t
                    clear hout hp hpl hi0'
                    cases hcmp : leS t last with
                    | true =>
                      have Hno : Hid (refLoad b = false) := Lib.hid (by rw [Hlp.out, if_neg (fun h => by have := h.2.2; rw [hcmp] at this; cases this)])
                      have Hx := Lib.hid hI.base.ext
                      clear hI hpB hrs hre hre2 Hlp hgo Hlast HRl Hlj
                      by_cases heq : t = last
                      · subst heq
                        rw [hcmp] at l1
                        clear l2 hcmp
                        go_wp2_with fail
                        go_quiet (fail)
                        go_wp2
                        go_ret2
                        exact rload_no Hno.out (Hx.out.drewN _)
                      · have h2 : leS last t = false := by
                          cases h : leS last t with
                          | false => rfl
                          | true => exact absurd (linS.anti _ _ hcmp h) heq
                        have l3 := bytes_ne heq
                        have l4 := bytes_ne (fun e => heq e.symm)
                        rw [h2] at l1
                        rw [hcmp] at l2
                        clear h2 heq hcmp
                        go_wp2_with fail
                        go_quiet (fail)
                        go_wp2
                        go_ret2
                        exact rload_no Hno.out (Hx.out.drewN _)
                    | false =>
                      have h2 : leS last t = true := by
                        have := linS.total t last
                        rw [hcmp] at this; simpa using this
                      have heq : ¬ t = last := fun e => by subst e; rw [hcmp] at h2; cases h2
                      have l3 := bytes_ne heq
                      have l4 := bytes_ne (fun e => heq e.symm)
                      rw [h2] at l1
                      rw [hcmp] at l2
                      clear h2 heq
                      have hlp := Hlp.out
                      rw [if_pos ⟨hc0, hname, hcmp⟩] at hlp
                      have Hlp2 := Lib.hid hlp
                      have HI := Lib.hid hI
                      clear hlp Hlp hI hpB hrs hre hre2 hgo hcmp
                      go_wp2_with fail
                      go_quiet (fail)
                      have HQ := Lib.hid (HI.out.keep ((Ext.refl (fun _ => False) wr).drewN nq))
                      generalize wr.drewN nq = wq at *
                      clear x0 x1 y0 y1 hltB hltX HI c0
                      obtain ⟨x0, x1⟩ := box2 HQ.out.x
                      have hltX := blk_lt HQ.out.x
                      have hout := HQ.out.base.out
                      rw [HRl.out] at hout
                      have Hout := Lib.hid hout
                      clear hout
                      go_wp2_with (first
                        | (at_builtin; refine wpList_append_any rfl (.tmp 104) (.tmp 106) 64 rfl 0 122 i0 _ 2 40 Try.underlying64 hi0 hz0 hz1 hz2 rfl (by decide) _ _ _ rfl (Hout.out.alloc _) _ 1 1 (fun e => (by cases e)) (cellsN (t, ⟨.slice av j cv, l⟩)) rfl rfl (.inr ⟨_, rfl, cells_new (cellsN (t, ⟨.slice av j cv, l⟩)) _ rfl⟩) (by simp [cellsN, Value.oneCell']) (by simp only [maxLen]; omega) (by omega) (Nat.zero_le _) ?_; intro vn wn hown hgrow hat; obtain ⟨an, cn, rfl⟩ := ownsRow_shape hown; have Hown := Lib.hid hown; have Hgrow := Lib.hid hgrow; have Hat := Lib.hid hat; clear hown hgrow hat))
                      have hxn : Ext (fun k => (Value.slice (some ⟨g, 0, none⟩) (k + 1) co).ownBlock = some k) wq wn := ((Ext.refl (fun k => (Value.slice (some ⟨g, 0, none⟩) (k + 1) co).ownBlock = some k) wq).alloc _).grown Hgrow.out (fun r hr _ => hr)
                      have hR2 := HQ.out.base.app hxn (t, ⟨.slice av j cv, l⟩) rfl (by rw [HRl.out]; exact Hown.out) (by
                        rcases Hat.out with h | h
                        · exact .inl h
                        · refine .inr (fun g hg => ?_)
                          have h1 : g = (wq.alloc (.cells (cellsN (t, ⟨.slice av j cv, l⟩)).toArray 122)).heap.size := Option.some.inj (hg.symm.trans h)
                          have h2 : (wq.alloc (.cells (cellsN (t, ⟨.slice av j cv, l⟩)).toArray 122)).heap.size = wq.heap.size + 1 := by simp
                          omega)
                      have HR2 := Lib.hid hR2
                      clear hxn hR2 Hown Hgrow Hat HQ Hout x0 x1 hltX
                      go_roundg (N - ((k + 1) + 1))
                      case measure => omega
                      case rel => exact ⟨(k + 1) + 1, t, _, s3, by omega, rfl, by go_num, HR2.out, by simp [HRl.out], ⟨fun h => absurd h (by simp), fun p hp => by simp at hp; subst hp; rfl⟩, Hlp2.out⟩
            · have hc1 : (s3.c == 0) = false := by simpa using hc0
              have hc2 : (s3.c != 0) = true := by simpa using hc0
              have hc3 : decide (s3.c = 0) = false := by simpa using hc0
              have Hno : Hid (refLoad b = false) := Lib.hid (by rw [Hlp.out, if_neg (fun h => hc0 h.1)])
              have Hx := Lib.hid hI.base.ext
              generalize s3.c = cc at *
              clear hI hpB hrs hre hre2 Hlp hc0 hgo
              go_wp2_with fail
              go_quiet (fail)
              go_wp2
              go_ret2
              exact rload_no Hno.out (Hx.out.drewN _)
    · have hj' : N - i = 0 := by omega
      rw [hj'] at hlp
      have hlp : refLoad b = decide (endM s = 0) := hlp
      obtain ⟨aB, cB, hpB, hrs⟩ := hI.rd.val
      obtain ⟨y0, y1⟩ := box2 hpB
      have hltB := blk_lt hpB
      have Hend := Lib.hid (rend_any wr _ s hrs)
      have Hlp := Lib.hid hlp
      have Hx := Lib.hid hI.ext
      clear hI hpB hrs hlp hj' hlast hRl
      generalize endM s = en at *
      generalize s.l.length = sl at *
      generalize s.c = scc at *
      go_wp2_with fail
      refine Hend.out.mono ?_
      rintro r w9 ⟨rfl, hx9⟩
      have Hx9 := Lib.hid (Hx.out.trans hx9)
      clear hx9
      go_wp2
      go_ret2
      exact ⟨_, by rw [Hlp.out]; first | rfl | simp, Hx9.out⟩
end Go.Proofs.Ytgmopnbejjfbjaa
