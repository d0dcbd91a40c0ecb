/-
  The reference of package wire: a reader by value; GetNumber. Conditions: the reader reads as IsRs says.
-/
import Derived.Test.YthligdgkhmgagaaQ1
import Derived.Test.YthligdgkhmgagaaWR
namespace Go.Proofs.Ythligdgkhmgagaa
open Go.RowKit Go.MapKept
open Go.ChangeMaps (setBlock)

def IsRs (w : World) (v : Value) (s : RS) : Prop := ∃ vs, v = .agg #[vs, .int .i64 s.c] ∧ BytesAt w vs s.l
theorem IsRs.keep {w w' : World} {v : Value} {s : RS} (h : IsRs w v s) (hx : Ext (fun _ => False) w w') : IsRs w' v s := by
  obtain ⟨vs, h1, h2⟩ := h
  exact ⟨vs, h1, h2.keep hx⟩
theorem IsRs.nil (w : World) (c : Int) : IsRs w (.agg #[.slice none 0 0, .int .i64 c]) ⟨[], c⟩ := ⟨_, rfl, BytesAt.nil w⟩
def RsPost (w : World) (m : Nat × RS) (r : Ending) (w' : World) : Prop := ∃ v', r = .returned (.tuple #[v', .int .u64 m.1]) ∧ IsRs w' v' m.2 ∧ Ext (fun _ => False) w w'
def set2 (w : World) (R : Nat) (u0 u1 : Value) : World := (w.setCell ⟨R, 0, none⟩ u0).setCell ⟨R, 1, none⟩ u1
theorem set2_done {w : World} {R : Nat} {v0 v1 : Value} {t : TypeId} (h : blk w R = some (.cells #[v0, v1] t (0, 0))) (u0 u1 : Value) :
    blk (set2 w R u0 u1) R = some (.cells #[u0, u1] t (0, 0)) ∧ Ext (fun x => x = R) w (set2 w R u0 u1) :=
  ⟨by simpa [set2] using blk_setCell_same (blk_setCell_same h 0 u0) 1 u1, ((Ext.refl (fun x => x = R) w).setCell (p := ⟨R, 0, none⟩) u0 (fun _ => rfl)).setCell (p := ⟨R, 1, none⟩) u1 (fun _ => rfl)⟩
theorem fail_any (w : World) (e : Int) : Calls Try.prog 76 #[.int .i64 e] w fun r w' => r = .returned (.agg #[.slice none 0 0, .int .i64 e]) ∧ Ext (fun _ => False) w w' := by
  obtain ⟨w0, hw0⟩ : ∃ w0, w0 = w.alloc (.cells #[.slice none 0 0, .int .i64 0] 96) := ⟨_, rfl⟩
  have hb0 : blk w0 w.heap.size = some (.cells #[.slice none 0 0, .int .i64 0] 96 (0, 0)) := by rw [hw0]; exact blk_alloc_at _ _
  have hx0 : Ext (fun _ => False) w w0 := by rw [hw0]; exact (Ext.refl _ w).alloc _
  obtain ⟨y0, y1⟩ := box2 hb0
  have f0 := free_of_cells hb0 0
  have f1 := free_of_cells hb0 1
  have hq := set2_done hb0 (.slice none 0 0) (.int .i64 e)
  have Hq := Lib.hid (box2 hq.1)
  have Hx := Lib.hid (hx0.trans' hq.2 (fun k hk (e : k = w.heap.size) => absurd hk (by omega)))
  unfold set2 at Hq Hx
  clear hq hx0 hb0
  go_enter Try.func76, Try.ntmps76
  go_upto_region 1 with fail
  rw [← hw0]
  clear hw0
  go_wp2
  obtain ⟨z0, z1⟩ := Hq.out
  exact bodyPost_ret (v := .agg #[.slice none 0 0, .int .i64 e]) (by simp [results, Try.results76, go_sem, z0, z1]) rfl ⟨rfl, Hx.out⟩
end Go.Proofs.Ythligdgkhmgagaa
/-
  The reference of package wire: GetNumber. Conditions: the reader reads as IsRs says.
-/
namespace Go.Proofs.Ythligdgkhmgagaa
open Go.RowKit Go.MapKept
open Go.ChangeMaps (setBlock)

theorem numberM_some {l : List UInt8} {n : Nat} {t : List UInt8} (h : getNum l = some (n, t)) : numberM ⟨l, 0⟩ = (n, ⟨t, 0⟩) := by unfold numberM; simp only [if_true, h]
theorem numberM_none {l : List UInt8} (h : getNum l = none) : numberM ⟨l, 0⟩ = (0, ⟨[], 11⟩) := by unfold numberM; simp only [if_true, h]
theorem numberM_err {s : RS} (h : ¬ s.c = 0) : numberM s = (0, s) := if_neg h
/-- the two boxes of GetNumber: its parameter's, its result's -/
structure Boxes (w w1 : World) (v0 v1 : Value) : Prop where
  b : blk w1 w.heap.size = some (.cells #[v0, v1] 96 (0, 0))
  c : blk w1 (w.heap.size + 1) = some (.cells #[.slice none 0 0, .int .i64 0] 96 (0, 0))
  ext : Ext (fun _ => False) w w1
theorem boxes_made (w : World) (v0 v1 : Value) : Boxes w ((w.alloc (.cells #[v0, v1] 96)).alloc (.cells #[.slice none 0 0, .int .i64 0] 96)) v0 v1 :=
  ⟨(blk_alloc_past _ _ _ (by simp)).trans (blk_alloc_at _ _), by simpa using blk_alloc_at (w.alloc (.cells #[v0, v1] 96)) (.cells #[.slice none 0 0, .int .i64 0] 96), ((Ext.refl _ w).alloc _).alloc _⟩
/-- the result is laid into its box -/
theorem Boxes.fin {w w1 w2 : World} {v0 v1 : Value} (h : Boxes w w1 v0 v1) (hx : Ext (fun b => b = w.heap.size) w1 w2) (u0 u1 : Value) :
    (set2 w2 (w.heap.size + 1) u0 u1).cell? ⟨w.heap.size + 1, 0, none⟩ = some u0 ∧ (set2 w2 (w.heap.size + 1) u0 u1).cell? ⟨w.heap.size + 1, 1, none⟩ = some u1 ∧ Ext (fun _ => False) w (set2 w2 (w.heap.size + 1) u0 u1) := by
  have hc := (hx.blk (blk_lt h.c) (by show ¬ w.heap.size + 1 = w.heap.size; omega)).trans h.c
  have hq := set2_done hc u0 u1
  obtain ⟨a, b⟩ := box2 hq.1
  exact ⟨a, b, (h.ext.trans' hx (fun k hk (e : k = w.heap.size) => absurd hk (by omega))).trans' hq.2 (fun k hk (e : k = w.heap.size + 1) => absurd hk (by omega))⟩
set_option maxRecDepth 100000 in
set_option maxHeartbeats 4000000 in
theorem rnum_any (w : World) (v : Value) (s : RS) (h : IsRs w v s) : Calls Try.prog 75 #[v] w (RsPost w (numberM s)) := by
  obtain ⟨l, c⟩ := s
  obtain ⟨vs, rfl, hb⟩ := h
  simp only at hb
  have hb' := hb
  obtain ⟨ao, cp, rfl, hle, hmx, hat⟩ := hb'
  obtain ⟨m, hml⟩ : ∃ m, l.length = m := ⟨_, rfl⟩
  rw [hml] at hb hle ⊢
  obtain ⟨w1, hw1⟩ : ∃ w1, w1 = (w.alloc (.cells #[.slice ao m cp, .int .i64 c] 96)).alloc (.cells #[.slice none 0 0, .int .i64 0] 96) := ⟨_, rfl⟩
  have hbx : Boxes w w1 (.slice ao m cp) (.int .i64 c) := by rw [hw1]; exact boxes_made _ _ _
  have Hbx := Lib.hid hbx
  have Hb := Lib.hid hb
  have Hat := Lib.hid hat
  obtain ⟨y0, y1⟩ := box2 hbx.b
  obtain ⟨z0, z1⟩ := box2 hbx.c
  have f0 := free_of_cells hbx.c 0
  have f1 := free_of_cells hbx.c 1
  have g0 := free_of_cells hbx.b 0
  have hltc := blk_lt hbx.c
  have hne1 : ¬ w.heap.size = w.heap.size + 1 := by omega
  have hne2 : ¬ w.heap.size + 1 = w.heap.size := by omega
  have hltb : w.heap.size < w1.heap.size := by omega
  clear hb hat
  by_cases hc : c = 0
  · subst hc
    -- what a failure hands back
    have hbad : ∀ w2, Ext (fun _ => False) w1 w2 → (set2 w2 (w.heap.size + 1) (.slice none 0 0) (.int .i64 11)).cell? ⟨w.heap.size + 1, 0, none⟩ = some (.slice none 0 0) ∧ (set2 w2 (w.heap.size + 1) (.slice none 0 0) (.int .i64 11)).cell? ⟨w.heap.size + 1, 1, none⟩ = some (.int .i64 11) ∧
        RsPost w (0, ⟨[], 11⟩) (.returned (.tuple #[.agg #[.slice none 0 0, .int .i64 11], .int .u64 0])) (set2 w2 (w.heap.size + 1) (.slice none 0 0) (.int .i64 11)) := fun w2 hx => by
      obtain ⟨a, b, e⟩ := Hbx.out.fin (hx.mono (fun _ _ h => h.elim)) (.slice none 0 0) (.int .i64 11)
      exact ⟨a, b, _, rfl, IsRs.nil _ 11, e⟩
    have Hbad := Lib.hid hbad
    unfold set2 at Hbad
    clear hbad
    cases l with
    | nil =>
      have q0 : ((m : Int) == 0) = true := by rw [← hml]; rfl
      have hm := numberM_none (l := []) rfl
      rw [hm]
      have hmxx : m ≤ 9223372036854775807 := by unfold maxLen at hmx; omega
      clear hm hml
      go_enter Try.func75, Try.ntmps75
      go_upto_region 1 with fail
      rw [← hw1]
      clear hw1 hbx
      go_upto_region 3 with fail
      go_quiet (fail)
      go_wp2_with fail
      refine (fail_any _ 11).mono ?_
      rintro r w2 ⟨rfl, hx2⟩
      have hx2' : Ext (fun _ => False) w1 w2 := ((Ext.refl _ w1).drewN _).trans hx2
      have hc2 := (hx2'.blk hltc id).trans Hbx.out.c
      obtain ⟨z0, z1⟩ := box2 hc2
      have f0 := free_of_cells hc2 0
      have f1 := free_of_cells hc2 1
      have Hbad := Lib.hid (Hbad.out w2 hx2')
      clear hx2 hx2' hc2
      go_wp2
      obtain ⟨e0, e1, hfin⟩ := Hbad.out
      exact bodyPost_ret (v := .tuple #[.agg #[.slice none 0 0, .int .i64 11], .int .u64 0]) (by simp [results, Try.results75, go_sem, e0, e1]) rfl hfin
    | cons k t =>
      have hmt : t.length + 1 = m := hml
      have hk := k.toNat_lt
      obtain ⟨g, off, cur, rfl, _, hcell⟩ : ∃ g off cur, ao = some ⟨g, off, none⟩ ∧ U8 w g cur ∧ ∀ i b, (k :: t)[i]? = some b → w.cell? ⟨g, off + i, none⟩ = some (bv b) := by
        rcases Hat.out with ⟨_, h0⟩ | h
        · omega
        · exact h
      have hg1 : ∀ i b, (k :: t)[i]? = some b → w1.cell? ⟨g, off + i, none⟩ = some (bv b) := fun i b hi => by
        obtain ⟨_, _, _, e, hbg, _⟩ := Hat.out.resolve_left (fun h => by have := h.2; omega)
        cases e
        exact (hbx.ext.cell (p := ⟨g, off + i, none⟩) hbg.lt id).trans (hcell i b hi)
      have c0 : w1.cell? ⟨g, off, none⟩ = some (.int .u8 k.toNat) := by simpa [bv] using hg1 0 k rfl
      obtain ⟨kn, hkn⟩ : ∃ kn, k.toNat = kn := ⟨_, rfl⟩
      rw [hkn] at c0 hk
      have Hkn := Lib.hid hkn
      have Hg1 := Lib.hid hg1
      have Hml := Lib.hid hml
      have q0 : ((m : Int) == 0) = false := by simp; omega
      have hm1 : 1 ≤ m := by omega
      have hm2 : (0 : Int) < m := by omega
      have Hmt := Lib.hid hmt
      have hmxx : m ≤ 9223372036854775807 := by unfold maxLen at hmx; omega
      clear hcell hg1 hkn hmt hml
      by_cases hfail : 8 < kn ∨ m < 1 + kn
      · have hgn : getNum (k :: t) = none := by
          rw [getNum_cons, if_pos]
          rw [Hkn.out]
          have := Hmt.out
          rcases hfail with h | h
          · exact .inl h
          · exact .inr (.inl (by omega))
        have hm := numberM_none hgn
        rw [hm]
        clear hm hgn
        by_cases h8 : 8 < kn
        · have q1 : decide ((8 : Int) < kn) = true := by simp; omega
          clear hfail h8
          go_enter Try.func75, Try.ntmps75
          go_upto_region 1 with fail
          rw [← hw1]
          clear hw1 hbx
          go_upto_region 3 with fail
          go_quiet (fail)
          go_wp2_with fail
          refine (fail_any _ 11).mono ?_
          rintro r w2 ⟨rfl, hx2⟩
          have hx2' : Ext (fun _ => False) w1 w2 := ((Ext.refl _ w1).drewN _).trans hx2
          have hc2 := (hx2'.blk hltc id).trans Hbx.out.c
          obtain ⟨z0, z1⟩ := box2 hc2
          have f0 := free_of_cells hc2 0
          have f1 := free_of_cells hc2 1
          have Hbad := Lib.hid (Hbad.out w2 hx2')
          clear hx2 hx2' hc2
          go_wp2
          obtain ⟨e0, e1, hfin⟩ := Hbad.out
          exact bodyPost_ret (v := .tuple #[.agg #[.slice none 0 0, .int .i64 11], .int .u64 0]) (by simp [results, Try.results75, go_sem, e0, e1]) rfl hfin
        · have q1 : decide ((8 : Int) < kn) = false := by simp; omega
          have q2 : decide ((m : Int) < 1 + kn) = true := by simp; omega
          have hk8 : kn ≤ 8 := by omega
          clear hfail h8
          go_enter Try.func75, Try.ntmps75
          go_upto_region 1 with fail
          rw [← hw1]
          clear hw1 hbx
          go_upto_region 3 with fail
          go_quiet (fail)
          go_wp2_with fail
          refine (fail_any _ 11).mono ?_
          rintro r w2 ⟨rfl, hx2⟩
          have hx2' : Ext (fun _ => False) w1 w2 := ((Ext.refl _ w1).drewN _).trans hx2
          have hc2 := (hx2'.blk hltc id).trans Hbx.out.c
          obtain ⟨z0, z1⟩ := box2 hc2
          have f0 := free_of_cells hc2 0
          have f1 := free_of_cells hc2 1
          have Hbad := Lib.hid (Hbad.out w2 hx2')
          clear hx2 hx2' hc2
          go_wp2
          obtain ⟨e0, e1, hfin⟩ := Hbad.out
          exact bodyPost_ret (v := .tuple #[.agg #[.slice none 0 0, .int .i64 11], .int .u64 0]) (by simp [results, Try.results75, go_sem, e0, e1]) rfl hfin
      · have q1 : decide ((8 : Int) < kn) = false := by simp; omega
        have q2 : decide ((m : Int) < 1 + kn) = false := by simp; omega
        have hk8 : kn ≤ 8 := by omega
        have hkm : 1 + kn ≤ m := by omega
        clear hfail
        go_enter Try.func75, Try.ntmps75
        go_upto_region 1 with fail
        rw [← hw1]
        clear hw1 hbx
        go_upto_region 3 with fail
        go_quiet (fail)
        obtain ⟨d, hd⟩ : ∃ d, t.take kn = d := ⟨_, rfl⟩
        have hdl : d.length = kn := by rw [← hd, List.length_take]; have := Hmt.out; omega
        have Hd := Lib.hid hd
        have Hdl := Lib.hid hdl
        clear hd hdl
        by_cases hk0 : kn = 0
        · have hgn : getNum (k :: t) = some (beVal d, t.drop kn) := by
            rw [getNum_cons, Hkn.out, Hd.out, if_neg (by have := Hmt.out; omega)]
          have Hm := Lib.hid (numberM_some hgn)
          have q4 : ¬ (0 : Int) < kn := by omega
          clear hgn hk0
          go_upto_region 9 with fail
          go_wp2_with fail
          go_loopg [5, 6] kn (fun q v5 v6 wr => ∃ i nq : Nat, 1 ≤ i ∧ i ≤ kn + 1 ∧ q = kn + 1 - i ∧ v6 = .int .i64 i ∧ v5 = .int .u64 (beVal (d.take (i - 1))) ∧ wr = w1.drewN nq)
          case atStart => exact ⟨1, _, Nat.le_refl _, by omega, rfl, rfl, rfl, rfl⟩
          case round =>
            obtain ⟨i, nq, hi1, hi, rfl, rfl, rfl, rfl⟩ := hrel
            by_cases hik : i ≤ kn
            · exfalso; omega
            · have hie : i = kn + 1 := by omega
              subst hie
              have hde : d.take (kn + 1 - 1) = d := List.take_of_length_le (by rw [Hdl.out]; omega)
              rw [hde]
              have i2 : ¬ ((kn + 1 : Nat) : Int) ≤ (kn : Int) := by omega
              clear hde
              obtain ⟨N1, hN1⟩ : ∃ N1, N1 = 1 + kn := ⟨_, rfl⟩
              have hkk : ((1 : Int) + (kn : Int)) = (N1 : Int) := by omega
              have hdr : (k :: t).drop N1 = t.drop kn := by rw [hN1, Nat.add_comm, List.drop_succ_cons]
              have hn1 : N1 ≤ m := by omega
              have n0 : (0 : Int) ≤ (N1 : Int) := by omega
              have n1 : (N1 : Int) ≤ (m : Int) := by omega
              by_cases hcp : N1 = cp
              · have hmc : m = cp := by omega
                have hfin : ∀ nv, BytesAt w nv (t.drop kn) → (set2 ((w1.drewN nq).setCell ⟨w.heap.size, 0, none⟩ nv) (w.heap.size + 1) nv (.int .i64 0)).cell? ⟨w.heap.size + 1, 0, none⟩ = some nv ∧ (set2 ((w1.drewN nq).setCell ⟨w.heap.size, 0, none⟩ nv) (w.heap.size + 1) nv (.int .i64 0)).cell? ⟨w.heap.size + 1, 1, none⟩ = some (.int .i64 0) ∧
                    RsPost w (numberM ⟨k :: t, 0⟩) (.returned (.tuple #[.agg #[nv, .int .i64 0], .int .u64 (beVal d)])) (set2 ((w1.drewN nq).setCell ⟨w.heap.size, 0, none⟩ nv) (w.heap.size + 1) nv (.int .i64 0)) := fun nv hnv => by
                  obtain ⟨a, b, e⟩ := Hbx.out.fin (((Ext.refl (fun b => b = w.heap.size) w1).drewN nq).setCell (p := ⟨w.heap.size, 0, none⟩) nv (fun _ => rfl)) nv (.int .i64 0)
                  exact ⟨a, b, by rw [Hm.out]; exact ⟨_, rfl, ⟨nv, rfl, hnv.keep e⟩, e⟩⟩
                have hbd : BytesAt w (.slice (some ⟨g, off, none⟩) 0 0) (t.drop kn) := by
                  have := Hb.out.dropAll hmc
                  rwa [show m = N1 by omega, hdr] at this
                have Hfin := Lib.hid (hfin _ hbd)
                unfold set2 at Hfin
                subst hcp
                subst hmc
                clear hfin hbd hdr hN1
                go_wp2_with fail
                obtain ⟨e0, e1, hfin⟩ := Hfin.out
                exact bodyPost_ret (v := .tuple #[.agg #[.slice (some ⟨g, off, none⟩) 0 0, .int .i64 0], .int .u64 (beVal d)]) (by simp [results, Try.results75, go_sem, e0, e1]) rfl hfin
              · have hfin : ∀ nv, BytesAt w nv (t.drop kn) → (set2 ((w1.drewN nq).setCell ⟨w.heap.size, 0, none⟩ nv) (w.heap.size + 1) nv (.int .i64 0)).cell? ⟨w.heap.size + 1, 0, none⟩ = some nv ∧ (set2 ((w1.drewN nq).setCell ⟨w.heap.size, 0, none⟩ nv) (w.heap.size + 1) nv (.int .i64 0)).cell? ⟨w.heap.size + 1, 1, none⟩ = some (.int .i64 0) ∧
                    RsPost w (numberM ⟨k :: t, 0⟩) (.returned (.tuple #[.agg #[nv, .int .i64 0], .int .u64 (beVal d)])) (set2 ((w1.drewN nq).setCell ⟨w.heap.size, 0, none⟩ nv) (w.heap.size + 1) nv (.int .i64 0)) := fun nv hnv => by
                  obtain ⟨a, b, e⟩ := Hbx.out.fin (((Ext.refl (fun b => b = w.heap.size) w1).drewN nq).setCell (p := ⟨w.heap.size, 0, none⟩) nv (fun _ => rfl)) nv (.int .i64 0)
                  exact ⟨a, b, by rw [Hm.out]; exact ⟨_, rfl, ⟨nv, rfl, hnv.keep e⟩, e⟩⟩
                have hbd : BytesAt w (.slice (some ⟨g, off + N1, none⟩) (m - N1) (cp - N1)) (t.drop kn) := by
                  have := Hb.out.drop N1 hn1 hcp
                  rw [Option.map_some, Addr.add_lit] at this
                  rwa [hdr] at this
                have Hfin := Lib.hid (hfin _ hbd)
                unfold set2 at Hfin
                have n2 : N1 ≤ cp := by omega
                clear hfin hbd hdr hN1
                go_wp2_with fail
                obtain ⟨e0, e1, hfin⟩ := Hfin.out
                exact bodyPost_ret (v := .tuple #[.agg #[.slice (some ⟨g, off + N1, none⟩) (m - N1) (cp - N1), .int .i64 0], .int .u64 (beVal d)]) (by simp [results, Try.results75, go_sem, e0, e1]) rfl hfin
        · obtain ⟨d0, hd0⟩ : ∃ d0, d[0]? = some d0 := ⟨_, List.getElem?_eq_getElem (by rw [Hdl.out]; omega)⟩
          have ht0 : t.head? = some d0 := by
            have := hd0
            rw [← Hd.out, List.getElem?_take_of_lt (by omega)] at this
            rw [List.head?_eq_getElem?]; exact this
          have e0 : w1.cell? ⟨g, off + 1, none⟩ = some (.int .u8 d0.toNat) := Hg1.out 1 d0 (by
            rw [List.getElem?_cons_succ]; rw [List.head?_eq_getElem?] at ht0; exact ht0)
          have hk0' : (0 : Int) < kn := by omega
          have hm3 : (1 : Int) < m := by omega
          have Ht0 := Lib.hid ht0
          clear ht0 hd0
          by_cases hz : d0.toNat = 0
          · have hz' : d0 = 0 := UInt8.toNat_inj.1 hz
            have hgn : getNum (k :: t) = none := by rw [getNum_cons, if_pos (.inr (.inr ⟨by rw [Hkn.out]; omega, by rw [Ht0.out, hz']⟩))]
            have Hm := Lib.hid (numberM_none hgn)
            rw [hz] at e0
            clear hgn hz hz' hk0
            go_wp2_with fail
            refine (fail_any _ 11).mono ?_
            rintro r w2 ⟨rfl, hx2⟩
            have hx2' : Ext (fun _ => False) w1 w2 := ((Ext.refl _ w1).drewN _).trans hx2
            have hc2 := (hx2'.blk hltc id).trans Hbx.out.c
            obtain ⟨z0, z1⟩ := box2 hc2
            have f0 := free_of_cells hc2 0
            have f1 := free_of_cells hc2 1
            have Hbad := Lib.hid (Hbad.out w2 hx2')
            clear hx2 hx2' hc2
            go_wp2
            obtain ⟨e0, e1, hfin⟩ := Hbad.out
            exact bodyPost_ret (v := .tuple #[.agg #[.slice none 0 0, .int .i64 11], .int .u64 0]) (by simp [results, Try.results75, go_sem, e0, e1]) rfl (by rw [Hm.out]; exact hfin)
          · have hz' : ¬ d0 = 0 := fun e => hz (by rw [e]; rfl)
            have hz2 : ((d0.toNat : Int) == 0) = false := by simp; omega
            have hgn : getNum (k :: t) = some (beVal d, t.drop kn) := by
              rw [getNum_cons, Hkn.out, Hd.out, if_neg]
              rintro (h | h | ⟨_, h⟩)
              · omega
              · have := Hmt.out; omega
              · rw [Ht0.out] at h; cases h; exact hz' rfl
            have Hm := Lib.hid (numberM_some hgn)
            clear hgn hz hz' hk0
            go_upto_region 9 with fail
            go_wp2_with fail
            go_loopg [5, 6] kn (fun q v5 v6 wr => ∃ i nq : Nat, 1 ≤ i ∧ i ≤ kn + 1 ∧ q = kn + 1 - i ∧ v6 = .int .i64 i ∧ v5 = .int .u64 (beVal (d.take (i - 1))) ∧ wr = w1.drewN nq)
            case atStart => exact ⟨1, _, Nat.le_refl _, by omega, rfl, rfl, rfl, rfl⟩
            case round =>
              obtain ⟨i, nq, hi1, hi, rfl, rfl, rfl, rfl⟩ := hrel
              by_cases hik : i ≤ kn
              · obtain ⟨b, hb⟩ : ∃ b, d[i - 1]? = some b := ⟨_, List.getElem?_eq_getElem (by rw [Hdl.out]; omega)⟩
                have e1 : w1.cell? ⟨g, off + i, none⟩ = some (.int .u8 b.toNat) := Hg1.out i b (by
                  obtain ⟨j, rfl⟩ : ∃ j, i = j + 1 := ⟨i - 1, by omega⟩
                  rw [List.getElem?_cons_succ]
                  have := hb
                  rw [← Hd.out, List.getElem?_take_of_lt (by omega)] at this
                  simpa using this)
                have hstep := beVal_take hb
                have hlt := beVal_lt d (i - 1) (by rw [Hdl.out]; omega)
                have hlt2 : (256 : Nat) ^ (i - 1) ≤ 256 ^ 7 := Nat.pow_le_pow_right (by omega) (by omega)
                have hbl := b.toNat_lt
                rw [show i - 1 + 1 = i + 1 - 1 by omega] at hstep
                have Hstep := Lib.hid hstep
                generalize beVal (d.take (i - 1)) = X at *
                generalize b.toNat = bn at *
                have hX : X < 72057594037927936 := by omega
                clear hlt hlt2 hb hstep
                have i0 : (0 : Int) ≤ (i : Int) := by omega
                have i1 : (i : Int) < (m : Int) := by omega
                have i2 : (i : Int) ≤ (kn : Int) := by omega
                go_wp2_with fail
                go_roundg (kn + 1 - (i + 1))
                case measure => omega
                case rel => exact ⟨i + 1, _, by omega, by omega, rfl, by go_num, by rw [Hstep.out]; go_num, rfl⟩
              · have hie : i = kn + 1 := by omega
                subst hie
                have hde : d.take (kn + 1 - 1) = d := List.take_of_length_le (by rw [Hdl.out]; omega)
                rw [hde]
                have i2 : ¬ ((kn + 1 : Nat) : Int) ≤ (kn : Int) := by omega
                clear hde
                obtain ⟨N1, hN1⟩ : ∃ N1, N1 = 1 + kn := ⟨_, rfl⟩
                have hkk : ((1 : Int) + (kn : Int)) = (N1 : Int) := by omega
                have hdr : (k :: t).drop N1 = t.drop kn := by rw [hN1, Nat.add_comm, List.drop_succ_cons]
                have hn1 : N1 ≤ m := by omega
                have n0 : (0 : Int) ≤ (N1 : Int) := by omega
                have n1 : (N1 : Int) ≤ (m : Int) := by omega
                by_cases hcp : N1 = cp
                · have hmc : m = cp := by omega
                  have hfin : ∀ nv, BytesAt w nv (t.drop kn) → (set2 ((w1.drewN nq).setCell ⟨w.heap.size, 0, none⟩ nv) (w.heap.size + 1) nv (.int .i64 0)).cell? ⟨w.heap.size + 1, 0, none⟩ = some nv ∧ (set2 ((w1.drewN nq).setCell ⟨w.heap.size, 0, none⟩ nv) (w.heap.size + 1) nv (.int .i64 0)).cell? ⟨w.heap.size + 1, 1, none⟩ = some (.int .i64 0) ∧
                      RsPost w (numberM ⟨k :: t, 0⟩) (.returned (.tuple #[.agg #[nv, .int .i64 0], .int .u64 (beVal d)])) (set2 ((w1.drewN nq).setCell ⟨w.heap.size, 0, none⟩ nv) (w.heap.size + 1) nv (.int .i64 0)) := fun nv hnv => by
                    obtain ⟨a, b, e⟩ := Hbx.out.fin (((Ext.refl (fun b => b = w.heap.size) w1).drewN nq).setCell (p := ⟨w.heap.size, 0, none⟩) nv (fun _ => rfl)) nv (.int .i64 0)
                    exact ⟨a, b, by rw [Hm.out]; exact ⟨_, rfl, ⟨nv, rfl, hnv.keep e⟩, e⟩⟩
                  have hbd : BytesAt w (.slice (some ⟨g, off, none⟩) 0 0) (t.drop kn) := by
                    have := Hb.out.dropAll hmc
                    rwa [show m = N1 by omega, hdr] at this
                  have Hfin := Lib.hid (hfin _ hbd)
                  unfold set2 at Hfin
                  subst hcp
                  subst hmc
                  clear hfin hbd hdr hN1
                  go_wp2_with fail
                  obtain ⟨e0, e1, hfin⟩ := Hfin.out
                  exact bodyPost_ret (v := .tuple #[.agg #[.slice (some ⟨g, off, none⟩) 0 0, .int .i64 0], .int .u64 (beVal d)]) (by simp [results, Try.results75, go_sem, e0, e1]) rfl hfin
                · have hfin : ∀ nv, BytesAt w nv (t.drop kn) → (set2 ((w1.drewN nq).setCell ⟨w.heap.size, 0, none⟩ nv) (w.heap.size + 1) nv (.int .i64 0)).cell? ⟨w.heap.size + 1, 0, none⟩ = some nv ∧ (set2 ((w1.drewN nq).setCell ⟨w.heap.size, 0, none⟩ nv) (w.heap.size + 1) nv (.int .i64 0)).cell? ⟨w.heap.size + 1, 1, none⟩ = some (.int .i64 0) ∧
                      RsPost w (numberM ⟨k :: t, 0⟩) (.returned (.tuple #[.agg #[nv, .int .i64 0], .int .u64 (beVal d)])) (set2 ((w1.drewN nq).setCell ⟨w.heap.size, 0, none⟩ nv) (w.heap.size + 1) nv (.int .i64 0)) := fun nv hnv => by
                    obtain ⟨a, b, e⟩ := Hbx.out.fin (((Ext.refl (fun b => b = w.heap.size) w1).drewN nq).setCell (p := ⟨w.heap.size, 0, none⟩) nv (fun _ => rfl)) nv (.int .i64 0)
                    exact ⟨a, b, by rw [Hm.out]; exact ⟨_, rfl, ⟨nv, rfl, hnv.keep e⟩, e⟩⟩
                  have hbd : BytesAt w (.slice (some ⟨g, off + N1, none⟩) (m - N1) (cp - N1)) (t.drop kn) := by
                    have := Hb.out.drop N1 hn1 hcp
                    rw [Option.map_some, Addr.add_lit] at this
                    rwa [hdr] at this
                  have Hfin := Lib.hid (hfin _ hbd)
                  unfold set2 at Hfin
                  have n2 : N1 ≤ cp := by omega
                  clear hfin hbd hdr hN1
                  go_wp2_with fail
                  obtain ⟨e0, e1, hfin⟩ := Hfin.out
                  exact bodyPost_ret (v := .tuple #[.agg #[.slice (some ⟨g, off + N1, none⟩) (m - N1) (cp - N1), .int .i64 0], .int .u64 (beVal d)]) (by simp [results, Try.results75, go_sem, e0, e1]) rfl hfin
  · have hc' : (c == 0) = false := by simpa using hc
    have hm : numberM ⟨l, c⟩ = (0, ⟨l, c⟩) := numberM_err hc
    rw [hm]
    have hf := hbx.fin (Ext.refl _ w1) (.slice ao m cp) (.int .i64 c)
    have Hf := Lib.hid hf
    unfold set2 at Hf
    clear hm hf hle hbx
    go_enter Try.func75, Try.ntmps75
    go_upto_region 1 with fail
    rw [← hw1]
    clear hw1
    go_wp2
    obtain ⟨e0, e1, hx⟩ := Hf.out
    exact bodyPost_ret (v := .tuple #[.agg #[.slice ao m cp, .int .i64 c], .int .u64 0]) (by simp [results, Try.results75, go_sem, e0, e1]) rfl ⟨_, rfl, ⟨_, rfl, Hb.out.keep hx⟩, hx⟩
end Go.Proofs.Ythligdgkhmgagaa
/-
  The reference of package wire: GetCount, End. Conditions: the reader reads as IsRs says.
-/
namespace Go.Proofs.Ythligdgkhmgagaa
open Go.RowKit Go.MapKept
open Go.ChangeMaps (setBlock)

theorem IsRs.shape {w : World} {v : Value} {s : RS} (h : IsRs w v s) : ∃ ao cp, v = .agg #[.slice ao s.l.length cp, .int .i64 s.c] ∧ BytesAt w (.slice ao s.l.length cp) s.l := by
  obtain ⟨vs, rfl, hb⟩ := h
  have hb' := hb
  obtain ⟨ao, cp, rfl, _⟩ := hb'
  exact ⟨ao, cp, rfl, hb⟩
theorem rend_any (w : World) (v : Value) (s : RS) (h : IsRs w v s) : Calls Try.prog 53 #[v] w fun r w' => r = .returned (.int .i64 (endM s)) ∧ Ext (fun _ => False) w w' := by
  obtain ⟨ao, cp, rfl, _⟩ := h.shape
  obtain ⟨l, c⟩ := s
  simp only
  clear h
  by_cases hc : c = 0
  · subst hc
    by_cases hl : 0 < l.length
    · have hm : endM ⟨l, 0⟩ = 11 := by unfold endM; rw [if_pos ⟨rfl, hl⟩]
      rw [hm]
      have hl' : (0 : Int) < l.length := by omega
      clear hm
      go_enter Try.func53, Try.ntmps53
      go_wp2
      go_ret
      exact ⟨rfl, (Ext.refl _ w).alloc _⟩
    · have hm : endM ⟨l, 0⟩ = 0 := by unfold endM; rw [if_neg (fun h => hl h.2)]
      have h0 : l.length = 0 := by omega
      rw [hm, h0]
      clear hm h0 hl
      go_enter Try.func53, Try.ntmps53
      go_wp2
      go_ret
      exact ⟨rfl, (Ext.refl _ w).alloc _⟩
  · have hm : endM ⟨l, c⟩ = c := by unfold endM; rw [if_neg (fun h => hc h.1)]
    have hc' : (c == 0) = false := by simpa using hc
    rw [hm]
    clear hm hc
    go_enter Try.func53, Try.ntmps53
    go_wp2
    go_ret
    exact ⟨rfl, (Ext.refl _ w).alloc _⟩
/-- the reader's box is written, whatever stands in it -/
theorem Boxes.put {w w1 w2 : World} {v0 v1 : Value} (h : Boxes w w1 v0 v1) (hx : Ext (fun _ => False) w1 w2) (u0 u1 : Value) :
    blk (set2 w2 w.heap.size u0 u1) w.heap.size = some (.cells #[u0, u1] 96 (0, 0)) ∧ blk (set2 w2 w.heap.size u0 u1) (w.heap.size + 1) = some (.cells #[.slice none 0 0, .int .i64 0] 96 (0, 0)) ∧ Ext (fun _ => False) w (set2 w2 w.heap.size u0 u1) := by
  have hb := (hx.blk (blk_lt h.b) id).trans h.b
  have hc := (hx.blk (blk_lt h.c) id).trans h.c
  have hq := set2_done hb u0 u1
  exact ⟨hq.1, (hq.2.blk (blk_lt hc) (by show ¬ w.heap.size + 1 = w.heap.size; omega)).trans hc, (h.ext.trans hx).trans' hq.2 (fun k hk (e : k = w.heap.size) => absurd hk (by omega))⟩
theorem res_done {w w4 : World} {C : Nat} (hC : blk w4 C = some (.cells #[.slice none 0 0, .int .i64 0] 96 (0, 0))) (hx : Ext (fun _ => False) w w4) (hge : w.heap.size ≤ C) (u0 u1 : Value) :
    (set2 w4 C u0 u1).cell? ⟨C, 0, none⟩ = some u0 ∧ (set2 w4 C u0 u1).cell? ⟨C, 1, none⟩ = some u1 ∧ Ext (fun _ => False) w (set2 w4 C u0 u1) ∧ ∀ v l, BytesAt w4 v l → BytesAt (set2 w4 C u0 u1) v l := by
  have hq := set2_done hC u0 u1
  obtain ⟨a, b⟩ := box2 hq.1
  exact ⟨a, b, hx.trans' hq.2 (fun k hk (e : k = C) => absurd hk (by omega)), fun v l h => h.ext hq.2 (fun g cur hc e => by subst e; exact hc.ne hC (by decide))⟩
def CtPost (w : World) (m : Nat × RS) (r : Ending) (w' : World) : Prop := ∃ v', r = .returned (.tuple #[v', .int .i64 m.1]) ∧ IsRs w' v' m.2 ∧ Ext (fun _ => False) w w'
theorem countM_num (most : Int) (s : RS) : countM most s = if (numberM s).2.c = 0 then (if most < 0 ∨ most < (numberM s).1 then (0, ⟨[], 8⟩) else numberM s) else (0, (numberM s).2) := by
  unfold countM numberM
  by_cases hc : s.c = 0
  · rw [if_pos hc, if_pos hc]
    cases getNum s.l with
    | none => rfl
    | some nt => rfl
  · rw [if_neg hc, if_neg hc, if_neg hc]
set_option maxRecDepth 100000 in
set_option maxHeartbeats 2000000 in
theorem rcount_any (w : World) (v : Value) (s : RS) (most : Int) (h : IsRs w v s) (hm1 : most ≤ 9223372036854775807) : Calls Try.prog 49 #[v, .int .i64 most] w (CtPost w (countM most s)) := by
  have hnum := fun (W : World) (hx : Ext (fun _ => False) w W) => rnum_any W v s (h.keep hx)
  obtain ⟨ao, cp, rfl, _⟩ := h.shape
  have hle := countM_le most s hm1
  have hcm := countM_num most s
  obtain ⟨l, c⟩ := s
  simp only at hnum ⊢
  generalize l.length = m at *
  obtain ⟨w1, hw1⟩ : ∃ w1, w1 = (w.alloc (.cells #[.slice ao m cp, .int .i64 c] 96)).alloc (.cells #[.slice none 0 0, .int .i64 0] 96) := ⟨_, rfl⟩
  have hbx : Boxes w w1 (.slice ao m cp) (.int .i64 c) := by rw [hw1]; exact boxes_made _ _ _
  have hnum1 := hnum w1 hbx.ext
  obtain ⟨y0, y1⟩ := box2 hbx.b
  have hltc := blk_lt hbx.c
  have hne1 : ¬ w.heap.size = w.heap.size + 1 := by omega
  have hne2 : ¬ w.heap.size + 1 = w.heap.size := by omega
  have Hbx := Lib.hid hbx
  have Hnum := Lib.hid hnum1
  generalize countM most ⟨l, c⟩ = M at *
  generalize numberM ⟨l, c⟩ = nm at *
  obtain ⟨nn, sn⟩ := nm
  simp only at hcm
  have Hcm := Lib.hid hcm
  clear hnum hnum1 h hbx hcm
  go_enter Try.func49, Try.ntmps49
  go_upto_region 1 with fail
  rw [← hw1]
  clear hw1
  go_wp2_with fail
  refine Hnum.out.mono ?_
  rintro r w2 ⟨v2, rfl, hr2, hx2⟩
  obtain ⟨a2, c2, rfl, hb2⟩ := hr2.shape
  obtain ⟨hB, hC, hx3⟩ := Hbx.out.put hx2 (.slice a2 sn.l.length c2) (.int .i64 sn.c)
  have hb20 := (hx2.blk (blk_lt Hbx.out.b) id).trans Hbx.out.b
  obtain ⟨y0, y1⟩ := box2 hb20
  have f0 := free_of_cells hb20 0
  have f1 := free_of_cells hb20 1
  have hq0 := (set2_done hb20 (.slice a2 sn.l.length c2) (.int .i64 sn.c)).2
  have hb3 : BytesAt (set2 w2 w.heap.size (.slice a2 sn.l.length c2) (.int .i64 sn.c)) (.slice a2 sn.l.length c2) sn.l := hb2.ext hq0 (fun g cur hc e => by subst e; exact hc.ne hb20 (by decide))
  have HB := Lib.hid hB
  have HC := Lib.hid hC
  have Hx3 := Lib.hid hx3
  have Hb3 := Lib.hid hb3
  unfold set2 at HB HC Hx3 Hb3
  obtain ⟨sl, sc⟩ := sn
  simp only at HB HC Hx3 Hb3 Hcm ⊢
  generalize sl.length = m2 at *
  clear hr2 hx2 hb2 hB hC hx3 hb20 hq0 hb3
  go_upto_region 2 with fail
  generalize (w2.setCell ⟨w.heap.size, 0, none⟩ (.slice a2 m2 c2)).setCell ⟨w.heap.size, 1, none⟩ (.int .i64 sc) = w3 at *
  clear y0 y1 f0 f1
  obtain ⟨y0, y1⟩ := box2 HB.out
  obtain ⟨z0, z1⟩ := box2 HC.out
  have f0 := free_of_cells HC.out 0
  have f1 := free_of_cells HC.out 1
  have hltb := blk_lt HB.out
  have hltc := blk_lt HC.out
  by_cases hsc : sc = 0
  · subst hsc
    rw [if_pos rfl] at Hcm
    have hwi : nn < 18446744073709551616 ∨ True := .inr trivial
    by_cases hbad : most < 0 ∨ most < nn
    · rw [if_pos hbad] at Hcm
      have hfin : ∀ w4, Ext (fun _ => False) w3 w4 → (set2 w4 (w.heap.size + 1) (.slice none 0 0) (.int .i64 8)).cell? ⟨w.heap.size + 1, 0, none⟩ = some (.slice none 0 0) ∧ (set2 w4 (w.heap.size + 1) (.slice none 0 0) (.int .i64 8)).cell? ⟨w.heap.size + 1, 1, none⟩ = some (.int .i64 8) ∧
          CtPost w M (.returned (.tuple #[.agg #[.slice none 0 0, .int .i64 8], .int .i64 0])) (set2 w4 (w.heap.size + 1) (.slice none 0 0) (.int .i64 8)) := fun w4 hx4 => by
        obtain ⟨a, b, e, _⟩ := res_done ((hx4.blk hltc id).trans HC.out) (Hx3.out.trans hx4) (by omega) (.slice none 0 0) (.int .i64 8)
        exact ⟨a, b, by rw [Hcm.out]; exact ⟨_, rfl, IsRs.nil _ 8, e⟩⟩
      have Hfin := Lib.hid hfin
      unfold set2 at Hfin
      clear hfin
      by_cases h1 : most < 0
      · clear hbad
        go_wp2_with fail
        refine (fail_any _ 8).mono ?_
        rintro r w4 ⟨rfl, hx4⟩
        have hc4 := (hx4.blk hltc id).trans HC.out
        obtain ⟨z0, z1⟩ := box2 hc4
        have f0 := free_of_cells hc4 0
        have f1 := free_of_cells hc4 1
        have Hf := Lib.hid (Hfin.out w4 hx4)
        clear hx4 hc4
        go_wp2
        obtain ⟨e0, e1, hfin⟩ := Hf.out
        exact bodyPost_ret (v := .tuple #[.agg #[.slice none 0 0, .int .i64 8], .int .i64 0]) (by simp [results, Try.results49, go_sem, e0, e1]) rfl hfin
      · have h2 : most < nn := by omega
        have hw : IntKind.u64.wrap most = most := IntWalk.u64_in _ (by omega)
        clear hbad
        go_wp2_with fail
        refine (fail_any _ 8).mono ?_
        rintro r w4 ⟨rfl, hx4⟩
        have hc4 := (hx4.blk hltc id).trans HC.out
        obtain ⟨z0, z1⟩ := box2 hc4
        have f0 := free_of_cells hc4 0
        have f1 := free_of_cells hc4 1
        have Hf := Lib.hid (Hfin.out w4 hx4)
        clear hx4 hc4
        go_wp2
        obtain ⟨e0, e1, hfin⟩ := Hf.out
        exact bodyPost_ret (v := .tuple #[.agg #[.slice none 0 0, .int .i64 8], .int .i64 0]) (by simp [results, Try.results49, go_sem, e0, e1]) rfl hfin
    · rw [if_neg hbad] at Hcm
      have h1 : 0 ≤ most := by omega
      have h2 : (nn : Int) ≤ most := by omega
      have hw : IntKind.u64.wrap most = most := IntWalk.u64_in _ (by omega)
      have hwi : IntKind.i64.wrap (nn : Int) = nn := IntWalk.i64_in _ (by omega)
      have hres := res_done HC.out Hx3.out (by omega) (.slice a2 m2 c2) (.int .i64 0)
      have hfin : CtPost w M (.returned (.tuple #[.agg #[.slice a2 m2 c2, .int .i64 0], .int .i64 nn])) (set2 w3 (w.heap.size + 1) (.slice a2 m2 c2) (.int .i64 0)) := by
        rw [Hcm.out]; exact ⟨_, rfl, ⟨_, rfl, hres.2.2.2 _ _ Hb3.out⟩, hres.2.2.1⟩
      have Hfin := Lib.hid (And.intro hres.1 (And.intro hres.2.1 hfin))
      unfold set2 at Hfin
      clear hfin hres hbad
      go_wp2_with fail
      obtain ⟨e0, e1, hfin⟩ := Hfin.out
      exact bodyPost_ret (v := .tuple #[.agg #[.slice a2 m2 c2, .int .i64 0], .int .i64 nn]) (by simp [results, Try.results49, go_sem, e0, e1]) rfl hfin
  · have hsc' : (sc == 0) = false := by simpa using hsc
    rw [if_neg hsc] at Hcm
    have hres := res_done HC.out Hx3.out (by omega) (.slice a2 m2 c2) (.int .i64 sc)
    have hfin : CtPost w M (.returned (.tuple #[.agg #[.slice a2 m2 c2, .int .i64 sc], .int .i64 0])) (set2 w3 (w.heap.size + 1) (.slice a2 m2 c2) (.int .i64 sc)) := by
      rw [Hcm.out]; exact ⟨_, rfl, ⟨_, rfl, hres.2.2.2 _ _ Hb3.out⟩, hres.2.2.1⟩
    have Hfin := Lib.hid (And.intro hres.1 (And.intro hres.2.1 hfin))
    unfold set2 at Hfin
    clear hfin hres hsc
    go_wp2_with fail
    obtain ⟨e0, e1, hfin⟩ := Hfin.out
    exact bodyPost_ret (v := .tuple #[.agg #[.slice a2 m2 c2, .int .i64 sc], .int .i64 0]) (by simp [results, Try.results49, go_sem, e0, e1]) rfl hfin
end Go.Proofs.Ythligdgkhmgagaa
/-
  The reference of package wire: GetText. Conditions: the reader reads as IsRs says.
-/
namespace Go.Proofs.Ythligdgkhmgagaa
open Go.RowKit Go.MapKept
open Go.ChangeMaps (setBlock)

def TxPost (w : World) (m : List UInt8 × RS) (r : Ending) (w' : World) : Prop := ∃ v', r = .returned (.tuple #[v', .string ⟨m.1.toArray⟩]) ∧ IsRs w' v' m.2 ∧ Ext (fun _ => False) w w'
theorem textM_num (s : RS) : textM s = if (numberM s).2.c = 0 then (if (numberM s).1 ≤ (numberM s).2.l.length then ((numberM s).2.l.take (numberM s).1, ⟨(numberM s).2.l.drop (numberM s).1, 0⟩) else ([], ⟨[], 11⟩)) else ([], (numberM s).2) := by
  unfold textM numberM textR
  by_cases hc : s.c = 0
  · rw [if_pos hc, if_pos hc]
    cases getNum s.l with
    | none => rfl
    | some nt =>
      obtain ⟨n, t⟩ := nt
      by_cases hn : n ≤ t.length <;> simp [hn]
  · rw [if_neg hc, if_neg hc, if_neg hc]
theorem numberM_lt (s : RS) : (numberM s).1 < 18446744073709551616 := by
  unfold numberM
  split
  · cases h : getNum s.l with
    | none => simp
    | some nt => exact getNum_lt h
  · simp
set_option maxRecDepth 100000 in
set_option maxHeartbeats 2000000 in
theorem rtxt_any (w : World) (v : Value) (s : RS) (h : IsRs w v s) : Calls Try.prog 51 #[v] w (TxPost w (textM s)) := by
  have hnum := fun (W : World) (hx : Ext (fun _ => False) w W) => rnum_any W v s (h.keep hx)
  obtain ⟨ao, cp, rfl, _⟩ := h.shape
  have hle := numberM_lt s
  have hcm := textM_num s
  obtain ⟨l, c⟩ := s
  simp only at hnum ⊢
  generalize l.length = m at *
  obtain ⟨w1, hw1⟩ : ∃ w1, w1 = (w.alloc (.cells #[.slice ao m cp, .int .i64 c] 96)).alloc (.cells #[.slice none 0 0, .int .i64 0] 96) := ⟨_, rfl⟩
  have hbx : Boxes w w1 (.slice ao m cp) (.int .i64 c) := by rw [hw1]; exact boxes_made _ _ _
  have hnum1 := hnum w1 hbx.ext
  obtain ⟨y0, y1⟩ := box2 hbx.b
  have hltc := blk_lt hbx.c
  have hne1 : ¬ w.heap.size = w.heap.size + 1 := by omega
  have hne2 : ¬ w.heap.size + 1 = w.heap.size := by omega
  have Hbx := Lib.hid hbx
  have Hnum := Lib.hid hnum1
  generalize textM ⟨l, c⟩ = M at *
  generalize numberM ⟨l, c⟩ = nm at *
  obtain ⟨nn, sn⟩ := nm
  simp only at hcm hle
  have Hcm := Lib.hid hcm
  clear hnum hnum1 h hbx hcm
  go_enter Try.func51, Try.ntmps51
  go_upto_region 1 with fail
  rw [← hw1]
  clear hw1
  go_wp2_with fail
  refine Hnum.out.mono ?_
  rintro r w2 ⟨v2, rfl, hr2, hx2⟩
  obtain ⟨a2, c2, rfl, hb2⟩ := hr2.shape
  obtain ⟨hB, hC, hx3⟩ := Hbx.out.put hx2 (.slice a2 sn.l.length c2) (.int .i64 sn.c)
  have hb20 := (hx2.blk (blk_lt Hbx.out.b) id).trans Hbx.out.b
  obtain ⟨y0, y1⟩ := box2 hb20
  have f0 := free_of_cells hb20 0
  have f1 := free_of_cells hb20 1
  have hq0 := (set2_done hb20 (.slice a2 sn.l.length c2) (.int .i64 sn.c)).2
  have hb3 : BytesAt (set2 w2 w.heap.size (.slice a2 sn.l.length c2) (.int .i64 sn.c)) (.slice a2 sn.l.length c2) sn.l := hb2.ext hq0 (fun g cur hc e => by subst e; exact hc.ne hb20 (by decide))
  have HB := Lib.hid hB
  have HC := Lib.hid hC
  have Hx3 := Lib.hid hx3
  have Hb3 := Lib.hid hb3
  unfold set2 at HB HC Hx3 Hb3
  obtain ⟨sl, sc⟩ := sn
  simp only at HB HC Hx3 Hb3 Hcm ⊢
  obtain ⟨m2, hm2⟩ : ∃ m2, sl.length = m2 := ⟨_, rfl⟩
  rw [hm2] at HB HC Hx3 Hb3 Hcm ⊢
  have Hm2 := Lib.hid hm2
  clear hr2 hx2 hb2 hB hC hx3 hb20 hq0 hb3 hm2
  go_upto_region 2 with fail
  generalize (w2.setCell ⟨w.heap.size, 0, none⟩ (.slice a2 m2 c2)).setCell ⟨w.heap.size, 1, none⟩ (.int .i64 sc) = w3 at *
  clear y0 y1 f0 f1
  obtain ⟨y0, y1⟩ := box2 HB.out
  obtain ⟨z0, z1⟩ := box2 HC.out
  have f0 := free_of_cells HC.out 0
  have f1 := free_of_cells HC.out 1
  have hltb := blk_lt HB.out
  have hltc := blk_lt HC.out
  by_cases hsc : sc = 0
  · subst hsc
    rw [if_pos rfl] at Hcm
    have hm2x : m2 ≤ 9223372036854775807 := by
      obtain ⟨_, _, e, h1, h2, _⟩ := Hb3.out
      cases e
      unfold maxLen at h2; omega
    by_cases hbad : m2 < nn
    · rw [if_neg (by omega)] at Hcm
      have hfin : ∀ w4, Ext (fun _ => False) w3 w4 → (set2 w4 (w.heap.size + 1) (.slice none 0 0) (.int .i64 11)).cell? ⟨w.heap.size + 1, 0, none⟩ = some (.slice none 0 0) ∧ (set2 w4 (w.heap.size + 1) (.slice none 0 0) (.int .i64 11)).cell? ⟨w.heap.size + 1, 1, none⟩ = some (.int .i64 11) ∧
          TxPost w M (.returned (.tuple #[.agg #[.slice none 0 0, .int .i64 11], .string { data := #[] }])) (set2 w4 (w.heap.size + 1) (.slice none 0 0) (.int .i64 11)) := fun w4 hx4 => by
        obtain ⟨a, b, e, _⟩ := res_done ((hx4.blk hltc id).trans HC.out) (Hx3.out.trans hx4) (by omega) (.slice none 0 0) (.int .i64 11)
        exact ⟨a, b, by rw [Hcm.out]; exact ⟨_, rfl, IsRs.nil _ 11, e⟩⟩
      have Hfin := Lib.hid hfin
      unfold set2 at Hfin
      clear hfin
      go_wp2_with fail
      refine (fail_any _ 11).mono ?_
      rintro r w4 ⟨rfl, hx4⟩
      have hc4 := (hx4.blk hltc id).trans HC.out
      obtain ⟨z0, z1⟩ := box2 hc4
      have f0 := free_of_cells hc4 0
      have f1 := free_of_cells hc4 1
      have Hf := Lib.hid (Hfin.out w4 hx4)
      clear hx4 hc4
      go_wp2
      obtain ⟨e0, e1, hfin⟩ := Hf.out
      exact bodyPost_ret (v := .tuple #[.agg #[.slice none 0 0, .int .i64 11], .string { data := #[] }]) (by simp [results, Try.results51, go_sem, e0, e1]) rfl hfin
    · rw [if_pos (by omega)] at Hcm
      have hnm : nn ≤ m2 := by omega
      have hnb : ¬ m2 < nn := hbad
      have hle2 : m2 ≤ c2 := by
        obtain ⟨_, _, e, h1, _⟩ := Hb3.out
        have hm := Hm2.out
        cases e; omega
      have hT := Hb3.out.take nn hnm
      obtain ⟨T, hTe⟩ : ∃ T, sl.take nn = T := ⟨_, rfl⟩
      rw [hTe] at hT Hcm
      have hconv := run_bytesAt_string hT
      have HT := Lib.hid hT
      have g0 := free_of_cells HB.out 0
      by_cases hcp : nn = c2
      · have hmc : m2 = c2 := by omega
        have hxB : Ext (fun b => b = w.heap.size) w3 (w3.setCell ⟨w.heap.size, 0, none⟩ (.slice a2 0 0)) := (Ext.refl _ w3).setCell _ (fun _ => rfl)
        have hD : BytesAt (w3.setCell ⟨w.heap.size, 0, none⟩ (.slice a2 0 0)) (.slice a2 0 0) (sl.drop nn) := by
          have := (Hb3.out.dropAll hmc).ext hxB (fun g cur hc e => by subst e; exact hc.ne HB.out (by decide))
          rwa [show m2 = nn by omega] at this
        have hres := res_done ((hxB.blk hltc (by show ¬ w.heap.size + 1 = w.heap.size; omega)).trans HC.out) (Hx3.out.trans' hxB (fun k hk (e : k = w.heap.size) => absurd hk (by omega))) (by omega) (.slice a2 0 0) (.int .i64 0)
        have hfin : TxPost w M (.returned (.tuple #[.agg #[.slice a2 0 0, .int .i64 0], .string ⟨T.toArray⟩])) (set2 (w3.setCell ⟨w.heap.size, 0, none⟩ (.slice a2 0 0)) (w.heap.size + 1) (.slice a2 0 0) (.int .i64 0)) := by
          rw [Hcm.out]; exact ⟨_, rfl, ⟨_, rfl, hres.2.2.2 _ _ hD⟩, hres.2.2.1⟩
        have Hfin := Lib.hid (And.intro hres.1 (And.intro hres.2.1 hfin))
        unfold set2 at Hfin
        clear hfin hres hbad hD hxB hT
        subst hcp
        subst hmc
        go_wp2_with fail
        obtain ⟨e0, e1, hfin⟩ := Hfin.out
        exact bodyPost_ret (v := .tuple #[.agg #[.slice a2 0 0, .int .i64 0], .string ⟨T.toArray⟩]) (by simp [results, Try.results51, go_sem, e0, e1]) rfl hfin
      · have hxB : Ext (fun b => b = w.heap.size) w3 (w3.setCell ⟨w.heap.size, 0, none⟩ (.slice (Option.map (fun x => x.add nn) a2) (m2 - nn) (c2 - nn))) := (Ext.refl _ w3).setCell _ (fun _ => rfl)
        have hD : BytesAt (w3.setCell ⟨w.heap.size, 0, none⟩ (.slice (Option.map (fun x => x.add nn) a2) (m2 - nn) (c2 - nn))) (.slice (Option.map (fun x => x.add nn) a2) (m2 - nn) (c2 - nn)) (sl.drop nn) := (Hb3.out.drop nn hnm hcp).ext hxB (fun g cur hc e => by subst e; exact hc.ne HB.out (by decide))
        have hres := res_done ((hxB.blk hltc (by show ¬ w.heap.size + 1 = w.heap.size; omega)).trans HC.out) (Hx3.out.trans' hxB (fun k hk (e : k = w.heap.size) => absurd hk (by omega))) (by omega) (.slice (Option.map (fun x => x.add nn) a2) (m2 - nn) (c2 - nn)) (.int .i64 0)
        have hfin : TxPost w M (.returned (.tuple #[.agg #[.slice (Option.map (fun x => x.add nn) a2) (m2 - nn) (c2 - nn), .int .i64 0], .string ⟨T.toArray⟩])) (set2 (w3.setCell ⟨w.heap.size, 0, none⟩ (.slice (Option.map (fun x => x.add nn) a2) (m2 - nn) (c2 - nn))) (w.heap.size + 1) (.slice (Option.map (fun x => x.add nn) a2) (m2 - nn) (c2 - nn)) (.int .i64 0)) := by
          rw [Hcm.out]; exact ⟨_, rfl, ⟨_, rfl, hres.2.2.2 _ _ hD⟩, hres.2.2.1⟩
        have Hfin := Lib.hid (And.intro hres.1 (And.intro hres.2.1 hfin))
        unfold set2 at Hfin
        clear hfin hres hbad hD hxB hT
        go_wp2_with fail
        obtain ⟨e0, e1, hfin⟩ := Hfin.out
        exact bodyPost_ret (v := .tuple #[.agg #[.slice (Option.map (fun x => x.add nn) a2) (m2 - nn) (c2 - nn), .int .i64 0], .string ⟨T.toArray⟩]) (by simp [results, Try.results51, go_sem, e0, e1]) rfl hfin
  · have hsc' : (sc == 0) = false := by simpa using hsc
    rw [if_neg hsc] at Hcm
    have hres := res_done HC.out Hx3.out (by omega) (.slice a2 m2 c2) (.int .i64 sc)
    have hfin : TxPost w M (.returned (.tuple #[.agg #[.slice a2 m2 c2, .int .i64 sc], .string { data := #[] }])) (set2 w3 (w.heap.size + 1) (.slice a2 m2 c2) (.int .i64 sc)) := by
      rw [Hcm.out]; exact ⟨_, rfl, ⟨_, rfl, hres.2.2.2 _ _ Hb3.out⟩, hres.2.2.1⟩
    have Hfin := Lib.hid (And.intro hres.1 (And.intro hres.2.1 hfin))
    unfold set2 at Hfin
    clear hfin hres hsc
    go_wp2_with fail
    obtain ⟨e0, e1, hfin⟩ := Hfin.out
    exact bodyPost_ret (v := .tuple #[.agg #[.slice a2 m2 c2, .int .i64 sc], .string { data := #[] }]) (by simp [results, Try.results51, go_sem, e0, e1]) rfl hfin
end Go.Proofs.Ythligdgkhmgagaa
/-
  Package wire: NewReader; a string's bytes. Conditions: the slice reads as BytesAt says.
-/
namespace Go.Proofs.Ythligdgkhmgagaa
open Go.RowKit Go.MapKept
open Go.ChangeMaps (setBlock)

/-- '[]byte(s)' -/
theorem run_string_bytesAt (w : World) (s : ByteArray) (hs : s.size ≤ 1000000) : ∃ cap w', (convert 9 80 (.string s)).run Try.prog w = .ok (.slice (some ⟨w.heap.size, 0, none⟩) s.size cap) w' ∧ BytesAt w' (.slice (some ⟨w.heap.size, 0, none⟩) s.size cap) s.data.toList ∧ Ext (fun _ => False) w w' := by
  refine ⟨_, _, run_bytes_of_string w 9 80 5 s Try.underlying9 Try.underlying80 Try.underlying5, ?_, ((Ext.refl _ w).drew.alloc _)⟩
  have hge := grownCap_ge w s.size 0 5
  have hle := grownCap_le_maxLen w s.size 0 5 (by simp only [maxLen]; omega)
  have hl : s.data.toList.length = s.size := Array.length_toList
  refine ⟨_, _, by rw [hl], by rw [hl]; exact hge, hle, .inr ⟨w.heap.size, 0, bytesRow s (grownCap w s.size 0 5), rfl, ⟨_, blk_alloc_at w.drew _⟩, fun i b hi => ?_⟩⟩
  have hc := cell_of_cells (blk_alloc_at w.drew (.cells (bytesRow s (grownCap w s.size 0 5)) 5 ((bytesRow s (grownCap w s.size 0 5)).size, (bytesRow s (grownCap w s.size 0 5)).size + 1))) i
  rw [Nat.zero_add]
  refine hc.trans ?_
  obtain ⟨hlt, hb⟩ := List.getElem?_eq_some_iff.1 hi
  have hlt' : i < s.data.size := by simpa using hlt
  unfold bytesRow
  rw [Array.getElem?_append_left (by simpa using hlt'), Array.getElem?_map, Array.getElem?_eq_getElem hlt']
  simp only [Option.map_some]
  unfold bv
  rw [← hb]
  simp
def NewRdPost (w : World) (l : List UInt8) (r : Ending) (w' : World) : Prop := ∃ p, r = .returned (.pointer (some ⟨p, 0, none⟩)) ∧ IsRd w' p ⟨l, 0⟩ ∧ Ext (fun _ => False) w w' ∧ w.heap.size ≤ p
set_option maxRecDepth 100000 in
set_option maxHeartbeats 1000000 in
theorem newreader_any (w : World) (a : Addr) (n c : Nat) (l : List UInt8) (h : BytesAt w (.slice (some a) n c) l) (hl : l.length ≤ 1000000) : Calls Try.prog 33 #[.slice (some a) n c] w (NewRdPost w l) := by
  obtain ⟨ao, c', e, h1, h2, h3⟩ := h
  cases e
  obtain ⟨g, off, cur, e, _, hcell⟩ := h3.resolve_left (fun h => by cases h.1)
  cases e
  have hclone := Try.bytes_Clone_at ⟨g, off, none⟩ l.length c (l.map fun b => (b.toNat : Int)) w (by simp) (by omega) (fun i hi => by
    rw [Addr.add_lit, hcell i _ (List.getElem?_eq_getElem hi)]
    simp [bv, hi])
  have Hclone := Lib.hid hclone
  clear hclone h3 hcell h1 h2
  go_enter Try.func33, Try.ntmps33
  go_wp2_with fail
  refine Hclone.out.mono ?_
  rintro r w1 ⟨v, rfl, hown, _, hbel⟩
  have hx : Ext (fun _ => False) w w1 := ⟨hbel.os, hbel.tape, hbel.output, hbel.size, fun k hk _ => hbel.block k hk⟩
  have hb : IsBytes w1 v l := by
    have := ownsRow_mono hown (Nat.zero_le _)
    rw [List.map_map] at this
    exact this
  have Hb := Lib.hid hb
  have Hx := Lib.hid hx
  obtain ⟨a1, c1, rfl⟩ := hb.shape
  clear hown hbel hx hb
  go_wp2
  go_ret
  exact ⟨w1.heap.size, rfl, ⟨_, blk_alloc_at _ _, Hb.out.at'.keep ((Ext.refl _ w1).alloc _)⟩, Hx.out.alloc _, Hx.out.size⟩
end Go.Proofs.Ythligdgkhmgagaa
/-
  Package wire: numbers, texts and counts, written and read: plain laws. Conditions: none beyond each lemma's own.
-/
namespace Go.Proofs.Ythligdgkhmgagaa
open Go.RowKit Go.MapKept
open Go.ChangeMaps (setBlock)

theorem foldl_be (d : List UInt8) (x : Nat) : d.foldl (fun n b => n * 256 + b.toNat) x = x * 256 ^ d.length + beVal d := by
  unfold beVal
  induction d generalizing x with
  | nil => simp
  | cons a r ih =>
    simp only [List.foldl_cons, List.length_cons]
    rw [ih, ih (0 * 256 + a.toNat), Nat.pow_succ, Nat.add_mul, Nat.zero_mul, Nat.zero_add]
    have : x * 256 * 256 ^ r.length = x * (256 ^ r.length * 256) := by rw [Nat.mul_assoc, Nat.mul_comm 256]
    omega
theorem beVal_cons (a : UInt8) (r : List UInt8) : beVal (a :: r) = a.toNat * 256 ^ r.length + beVal r := by
  have := foldl_be r (0 * 256 + a.toNat)
  rw [Nat.zero_mul, Nat.zero_add] at this
  unfold beVal
  simp only [List.foldl_cons, Nat.zero_mul, Nat.zero_add]
  exact this
theorem beVal_lt_pow (d : List UInt8) : beVal d < 256 ^ d.length := by
  have := beVal_lt d d.length (Nat.le_refl _)
  rwa [List.take_length] at this
theorem beVal_beB (k n : Nat) : beVal (beB k n) = n % 256 ^ k := by
  induction k with
  | zero => simp [beB, beVal, Nat.mod_one]
  | succ k ih =>
    simp only [beB]
    rw [beVal_cons, beB_length, ih, UInt8.toNat_ofNat', show (2 : Nat) ^ 8 = 256 from rfl]
    have := Nat.mod_pow_succ (b := 256) (x := n) (k := k)
    rw [this, Nat.mul_comm, Nat.add_comm]
theorem ofNat_add_mul (x m : Nat) : UInt8.ofNat (x + m * 256) = UInt8.ofNat x := by
  apply UInt8.toNat_inj.1
  rw [UInt8.toNat_ofNat', UInt8.toNat_ofNat']
  exact Nat.add_mul_mod_self_right x m 256
theorem beB_add (k n m : Nat) : beB k (n + m * 256 ^ k) = beB k n := by
  induction k generalizing m with
  | zero => rfl
  | succ k ih =>
    simp only [beB]
    have e : m * 256 ^ (k + 1) = m * 256 * 256 ^ k := by rw [Nat.pow_succ, Nat.mul_comm (256 ^ k), Nat.mul_assoc]
    rw [e, ih, Nat.add_mul_div_right _ _ (Nat.pow_pos (by omega)), ofNat_add_mul]
theorem beB_beVal (d : List UInt8) : beB d.length (beVal d) = d := by
  induction d with
  | nil => rfl
  | cons a r ih =>
    simp only [List.length_cons, beB]
    rw [beVal_cons, Nat.add_comm, Nat.add_mul_div_right _ _ (Nat.pow_pos (by omega)), Nat.div_eq_of_lt (beVal_lt_pow r), Nat.zero_add, beB_add, ih]
    congr 1
    exact UInt8.ofNat_toNat
theorem pow_least (n j : Nat) (h : n < 256 ^ j) : ∃ i, i ≤ j ∧ n < 256 ^ i ∧ (i = 0 ∨ 256 ^ (i - 1) ≤ n) := by
  induction j with
  | zero => exact ⟨0, Nat.le_refl _, h, .inl rfl⟩
  | succ j ih =>
    by_cases hj : n < 256 ^ j
    · obtain ⟨i, h1, h2, h3⟩ := ih hj
      exact ⟨i, by omega, h2, h3⟩
    · exact ⟨j + 1, Nat.le_refl _, h, .inr (by simpa using hj)⟩
theorem nbytes_spec {n : Nat} (h : n < 18446744073709551616) : nbytes n ≤ 8 ∧ n < 256 ^ nbytes n ∧ (nbytes n = 0 ∨ 256 ^ (nbytes n - 1) ≤ n) := by
  obtain ⟨i, h1, h2, h3⟩ := pow_least n 8 h
  have : nbytes n = i := nbytes_of h (Nat.div_eq_of_lt h2) (h3.imp id (fun h => Nat.div_pos h (Nat.pow_pos (by omega))))
  rw [this]; exact ⟨h1, h2, h3⟩
theorem getNum_enc {n : Nat} (h : n < 18446744073709551616) (t : List UInt8) : getNum (encNum n ++ t) = some (n, t) := by
  obtain ⟨h1, h2, h3⟩ := nbytes_spec h
  have hl := beB_length (nbytes n) n
  have hv := beVal_beB (nbytes n) n
  rw [Nat.mod_eq_of_lt h2] at hv
  have hh : 0 < nbytes n → (beB (nbytes n) n ++ t).head? ≠ some 0 := fun hp => by
    obtain ⟨k, hk⟩ : ∃ k, nbytes n = k + 1 := ⟨nbytes n - 1, by omega⟩
    rw [hk] at h2 h3
    rw [hk]
    simp only [beB, List.cons_append, List.head?_cons]
    intro e
    have e1 := congrArg UInt8.toNat (Option.some.inj e)
    rw [UInt8.toNat_ofNat'] at e1
    have h4 : n / 256 ^ k < 256 := by
      rw [Nat.div_lt_iff_lt_mul (Nat.pow_pos (by omega)), Nat.mul_comm, ← Nat.pow_succ]; exact h2
    have h5 : 0 < n / 256 ^ k := by
      rcases h3 with h3 | h3
      · omega
      · exact Nat.div_pos (by simpa using h3) (Nat.pow_pos (by omega))
    rw [show (2 : Nat) ^ 8 = 256 from rfl, Nat.mod_eq_of_lt h4] at e1
    have : (0 : UInt8).toNat = 0 := rfl
    omega
  unfold encNum
  rw [List.cons_append, getNum_cons]
  have hk : (UInt8.ofNat (nbytes n)).toNat = nbytes n := by
    rw [UInt8.toNat_ofNat', Nat.mod_eq_of_lt]; omega
  rw [hk, if_neg, List.take_left' hl, List.drop_left' hl, hv]
  rintro (h | h | h)
  · omega
  · rw [List.length_append, hl] at h; omega
  · exact hh h.1 h.2
theorem getNum_inv {l t : List UInt8} {n : Nat} (h : getNum l = some (n, t)) : l = encNum n ++ t ∧ n < 18446744073709551616 := by
  have hlt := getNum_lt h
  refine ⟨?_, hlt⟩
  cases l with
  | nil => cases h
  | cons k r =>
    rw [getNum_cons] at h
    by_cases hc : 8 < k.toNat ∨ r.length < k.toNat ∨ (0 < k.toNat ∧ r.head? = some 0)
    · rw [if_pos hc] at h; cases h
    · rw [if_neg hc] at h
      cases h
      have hdl : (r.take k.toNat).length = k.toNat := by
        rw [List.length_take]; omega
      have hn : nbytes (beVal (r.take k.toNat)) = k.toNat := by
        refine nbytes_of hlt (Nat.div_eq_of_lt (by have := beVal_lt_pow (r.take k.toNat); rwa [hdl] at this)) ?_
        by_cases h0 : k.toNat = 0
        · exact .inl h0
        · refine .inr ?_
          cases r with
          | nil => simp at hdl; omega
          | cons a q =>
            obtain ⟨m, hm⟩ : ∃ m, k.toNat = m + 1 := ⟨k.toNat - 1, by omega⟩
            rw [hm] at hdl ⊢
            have ha : 0 < a.toNat := by
              rcases Nat.eq_zero_or_pos a.toNat with h | h
              · have : a = 0 := UInt8.toNat_inj.1 h
                subst this
                exact absurd (.inr (.inr ⟨by omega, rfl⟩)) hc
              · exact h
            rw [List.take_succ_cons] at hdl ⊢
            rw [beVal_cons]
            have hq : (q.take m).length = m := by simpa using hdl
            rw [hq]
            refine Nat.div_pos ?_ (Nat.pow_pos (by omega))
            have : 1 * 256 ^ m ≤ a.toNat * 256 ^ m := Nat.mul_le_mul_right _ ha
            simp only [Nat.add_sub_cancel]
            omega
      unfold encNum
      rw [hn]
      have := beB_beVal (r.take k.toNat)
      rw [hdl] at this
      rw [this, UInt8.ofNat_toNat, List.cons_append, List.take_append_drop]
/-! ### what is read -/
theorem numberM_enc {n : Nat} (h : n < 18446744073709551616) (t : List UInt8) : numberM ⟨encNum n ++ t, 0⟩ = (n, ⟨t, 0⟩) := numberM_some (getNum_enc h t)
theorem numberM_ok {s : RS} (h : (numberM s).2.c = 0) : s.c = 0 ∧ s.l = encNum (numberM s).1 ++ (numberM s).2.l := by
  unfold numberM at *
  by_cases hc : s.c = 0
  · rw [if_pos hc] at *
    cases hg : getNum s.l with
    | none => rw [hg] at h; cases h
    | some x => exact ⟨hc, (getNum_inv hg).1⟩
  · rw [if_neg hc] at h
    exact absurd h hc
theorem countM_enc {n : Nat} {most : Int} (h : n < 18446744073709551616) (hm : (n : Int) ≤ most) (t : List UInt8) : countM most ⟨encNum n ++ t, 0⟩ = (n, ⟨t, 0⟩) := by
  rw [countM_num, numberM_enc h]
  simp only [if_true]
  rw [if_neg (by omega)]
theorem countM_ok {most : Int} {s : RS} (h : (countM most s).2.c = 0) : s.c = 0 ∧ s.l = encNum (countM most s).1 ++ (countM most s).2.l ∧ ((countM most s).1 : Int) ≤ most := by
  rw [countM_num] at *
  by_cases hc : (numberM s).2.c = 0
  · rw [if_pos hc] at *
    by_cases hb : most < 0 ∨ most < (numberM s).1
    · rw [if_pos hb] at h; cases h
    · rw [if_neg hb] at *
      exact ⟨(numberM_ok hc).1, (numberM_ok hc).2, by omega⟩
  · rw [if_neg hc] at h
    exact absurd h hc
theorem textM_enc {d : List UInt8} (h : d.length < 18446744073709551616) (t : List UInt8) : textM ⟨encNum d.length ++ d ++ t, 0⟩ = (d, ⟨t, 0⟩) := by
  rw [textM_num, List.append_assoc, numberM_enc h]
  simp only [if_true]
  rw [if_pos (by simp)]
  simp
theorem textM_ok {s : RS} (h : (textM s).2.c = 0) : s.c = 0 ∧ s.l = encNum (textM s).1.length ++ (textM s).1 ++ (textM s).2.l := by
  rw [textM_num] at *
  by_cases hc : (numberM s).2.c = 0
  · rw [if_pos hc] at *
    obtain ⟨h0, h1⟩ := numberM_ok hc
    by_cases hb : (numberM s).1 ≤ (numberM s).2.l.length
    · rw [if_pos hb]
      refine ⟨h0, ?_⟩
      simp only
      rw [List.length_take, Nat.min_eq_left hb, List.append_assoc, List.take_append_drop]
      exact h1
    · rw [if_neg hb] at h; cases h
  · rw [if_neg hc] at h
    exact absurd h hc
end Go.Proofs.Ythligdgkhmgagaa
