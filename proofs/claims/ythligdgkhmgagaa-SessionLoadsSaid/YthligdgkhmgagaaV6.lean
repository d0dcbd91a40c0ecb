/-
  The reference of package session: number. Conditions: the reader reads as IsRs says.
-/
import Derived.Test.YthligdgkhmgagaaV5
namespace Go.Proofs.Ythligdgkhmgagaa
open Go.RowKit Go.MapKept
open Go.ChangeMaps (setBlock)

def rnumM (lo hi : Nat) (s : RS) : Nat × RS := if (numberM s).2.c = 0 ∧ ((numberM s).1 < lo ∨ hi < (numberM s).1) then (0, ⟨[], 11⟩) else numberM s
set_option maxRecDepth 100000 in
set_option maxHeartbeats 2000000 in
theorem rnum35_any (w : World) (v : Value) (s : RS) (lo : Nat) (h : IsRs w v s) (hlo : lo ≤ 4611686018427387904) : Calls Try.prog 50 #[v, .int .u64 lo] w (CtPost w (rnumM lo 4611686018427387904 s)) := by
  obtain ⟨hi, hhi⟩ : ∃ hi : Nat, hi = 4611686018427387904 := ⟨_, rfl⟩
  rw [← hhi] at hlo ⊢
  have hm1 : hi ≤ 9223372036854775807 := by omega
  have hnum := fun (W : World) (hx : Ext (fun _ => False) w W) => rnum_any W v s (h.keep hx)
  obtain ⟨ao, cp, rfl, _⟩ := h.shape
  have hcm : rnumM lo hi s = if (numberM s).2.c = 0 ∧ ((numberM s).1 < lo ∨ hi < (numberM s).1) then (0, ⟨[], 11⟩) else numberM s := rfl
  have hz := numberM_zero s
  obtain ⟨l, c⟩ := s
  simp only at hnum ⊢
  generalize l.length = m at *
  obtain ⟨w1, hw1⟩ : ∃ w1, w1 = (w.alloc (.cells #[.slice ao m cp, .int .i64 c] 96)).alloc (.cells #[.slice none 0 0, .int .i64 0] 96) := ⟨_, rfl⟩
  have hbx : Boxes w w1 (.slice ao m cp) (.int .i64 c) := by rw [hw1]; exact boxes_made _ _ _
  have hnum1 := hnum w1 hbx.ext
  obtain ⟨y0, y1⟩ := box2 hbx.b
  have hltc := blk_lt hbx.c
  have hne1 : ¬ w.heap.size = w.heap.size + 1 := by omega
  have hne2 : ¬ w.heap.size + 1 = w.heap.size := by omega
  have Hbx := Lib.hid hbx
  have Hnum := Lib.hid hnum1
  generalize rnumM lo hi ⟨l, c⟩ = M at *
  generalize numberM ⟨l, c⟩ = nm at *
  obtain ⟨nn, sn⟩ := nm
  simp only at hcm hz
  have Hcm := Lib.hid hcm
  clear hnum hnum1 h hbx hcm
  go_enter Try.func50, Try.ntmps50
  go_upto_region 1 with fail
  rw [← hw1]
  clear hw1
  go_wp2_with fail
  refine Hnum.out.mono ?_
  rintro r w2 ⟨v2, rfl, hr2, hx2⟩
  obtain ⟨a2, c2, rfl, hb2⟩ := hr2.shape
  obtain ⟨hB, hC, hx3⟩ := Hbx.out.put hx2 (.slice a2 sn.l.length c2) (.int .i64 sn.c)
  have hb20 := (hx2.blk (blk_lt Hbx.out.b) id).trans Hbx.out.b
  obtain ⟨y0, y1⟩ := box2 hb20
  have f0 := free_of_cells hb20 0
  have f1 := free_of_cells hb20 1
  have hq0 := (set2_done hb20 (.slice a2 sn.l.length c2) (.int .i64 sn.c)).2
  have hb3 : BytesAt (set2 w2 w.heap.size (.slice a2 sn.l.length c2) (.int .i64 sn.c)) (.slice a2 sn.l.length c2) sn.l := hb2.ext hq0 (fun g cur hc e => by subst e; exact hc.ne hb20 (by decide))
  have HB := Lib.hid hB
  have HC := Lib.hid hC
  have Hx3 := Lib.hid hx3
  have Hb3 := Lib.hid hb3
  unfold set2 at HB HC Hx3 Hb3
  obtain ⟨sl, sc⟩ := sn
  simp only at HB HC Hx3 Hb3 Hcm hz ⊢
  generalize sl.length = m2 at *
  clear hr2 hx2 hb2 hB hC hx3 hb20 hq0 hb3
  go_upto_region 2 with fail
  generalize (w2.setCell ⟨w.heap.size, 0, none⟩ (.slice a2 m2 c2)).setCell ⟨w.heap.size, 1, none⟩ (.int .i64 sc) = w3 at *
  clear y0 y1 f0 f1
  obtain ⟨y0, y1⟩ := box2 HB.out
  obtain ⟨z0, z1⟩ := box2 HC.out
  have f0 := free_of_cells HC.out 0
  have f1 := free_of_cells HC.out 1
  have hltb := blk_lt HB.out
  have hltc := blk_lt HC.out
  by_cases hsc : sc = 0
  · subst hsc
    clear hz
    by_cases hbad : nn < lo ∨ hi < nn
    · rw [if_pos ⟨rfl, hbad⟩] at Hcm
      obtain ⟨a, b, e, _⟩ := res_done HC.out Hx3.out (by omega) (.slice none 0 0) (.int .i64 11)
      have hfin : CtPost w M (.returned (.tuple #[.agg #[.slice none 0 0, .int .i64 11], .int .i64 0])) (set2 w3 (w.heap.size + 1) (.slice none 0 0) (.int .i64 11)) := by
        rw [Hcm.out]; exact ⟨_, rfl, IsRs.nil _ 11, e⟩
      have Hfin := Lib.hid (And.intro a (And.intro b hfin))
      unfold set2 at Hfin
      clear hfin a b e
      by_cases h1 : (nn : Int) < lo
      · clear hbad
        go_wp2_with fail
        obtain ⟨e0, e1, hfin⟩ := Hfin.out
        exact bodyPost_ret (v := .tuple #[.agg #[.slice none 0 0, .int .i64 11], .int .i64 0]) (by simp [results, Try.results50, go_sem, e0, e1]) rfl hfin
      · have h2 : (4611686018427387904 : Int) < nn := by omega
        clear hbad
        go_wp2_with fail
        obtain ⟨e0, e1, hfin⟩ := Hfin.out
        exact bodyPost_ret (v := .tuple #[.agg #[.slice none 0 0, .int .i64 11], .int .i64 0]) (by simp [results, Try.results50, go_sem, e0, e1]) rfl hfin
    · rw [if_neg (fun h => hbad h.2)] at Hcm
      have h1 : ¬ (nn : Int) < lo := by omega
      have h2 : ¬ (4611686018427387904 : Int) < nn := by omega
      have hwi : IntKind.i64.wrap (nn : Int) = nn := IntWalk.i64_in _ (by omega)
      have hres := res_done HC.out Hx3.out (by omega) (.slice a2 m2 c2) (.int .i64 0)
      have hfin : CtPost w M (.returned (.tuple #[.agg #[.slice a2 m2 c2, .int .i64 0], .int .i64 nn])) (set2 w3 (w.heap.size + 1) (.slice a2 m2 c2) (.int .i64 0)) := by
        rw [Hcm.out]; exact ⟨_, rfl, ⟨_, rfl, hres.2.2.2 _ _ Hb3.out⟩, hres.2.2.1⟩
      have Hfin := Lib.hid (And.intro hres.1 (And.intro hres.2.1 hfin))
      unfold set2 at Hfin
      clear hfin hres hbad
      go_wp2_with fail
      obtain ⟨e0, e1, hfin⟩ := Hfin.out
      exact bodyPost_ret (v := .tuple #[.agg #[.slice a2 m2 c2, .int .i64 0], .int .i64 nn]) (by simp [results, Try.results50, go_sem, e0, e1]) rfl hfin
  · have hsc' : (sc == 0) = false := by simpa using hsc
    rw [if_neg (fun h => hsc h.1)] at Hcm
    obtain rfl := hz hsc
    have hres := res_done HC.out Hx3.out (by omega) (.slice a2 m2 c2) (.int .i64 sc)
    have hfin : CtPost w M (.returned (.tuple #[.agg #[.slice a2 m2 c2, .int .i64 sc], .int .i64 0])) (set2 w3 (w.heap.size + 1) (.slice a2 m2 c2) (.int .i64 sc)) := by
      rw [Hcm.out]; exact ⟨_, rfl, ⟨_, rfl, hres.2.2.2 _ _ Hb3.out⟩, hres.2.2.1⟩
    have Hfin := Lib.hid (And.intro hres.1 (And.intro hres.2.1 hfin))
    unfold set2 at Hfin
    clear hfin hres hsc hz
    go_wp2_with fail
    obtain ⟨e0, e1, hfin⟩ := Hfin.out
    exact bodyPost_ret (v := .tuple #[.agg #[.slice a2 m2 c2, .int .i64 sc], .int .i64 0]) (by simp [results, Try.results50, go_sem, e0, e1]) rfl hfin
end Go.Proofs.Ythligdgkhmgagaa
