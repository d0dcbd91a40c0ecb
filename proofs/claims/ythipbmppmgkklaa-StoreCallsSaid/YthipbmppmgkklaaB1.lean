/-
  The reference of package wire: GetInt. Conditions: the reader reads as IsRs says.
-/
import Derived.Test.YthipbmppmgkklaaQ3
import Derived.Test.YthipbmppmgkklaaWS
namespace Go.Proofs.Ythipbmppmgkklaa
open Go.RowKit Go.MapKept
open Go.ChangeMaps (setBlock)

def IrPost (w : World) (m : Int × RS) (r : Ending) (w' : World) : Prop := ∃ v', r = .returned (.tuple #[v', .int .i64 m.1]) ∧ IsRs w' v' m.2 ∧ Ext (fun _ => False) w w'
set_option maxRecDepth 100000 in
set_option maxHeartbeats 2000000 in
theorem rgetint_any (w : World) (v : Value) (s : RS) (h : IsRs w v s) : Calls Try.prog 56 #[v] w (IrPost w (intM s)) := by
  have hnum := fun (W : World) (hx : Ext (fun _ => False) w W) => rnum_any W v s (h.keep hx)
  obtain ⟨ao, cp, rfl, _⟩ := h.shape
  have hlt := numberM_lt s
  have hcm : intM s = (unzz (numberM s).1, (numberM s).2) := rfl
  obtain ⟨l, c⟩ := s
  simp only at hnum ⊢
  generalize l.length = m at *
  obtain ⟨w1, hw1⟩ : ∃ w1, w1 = (w.alloc (.cells #[.slice ao m cp, .int .i64 c] 97)).alloc (.cells #[.slice none 0 0, .int .i64 0] 97) := ⟨_, rfl⟩
  have hbx : Boxes w w1 (.slice ao m cp) (.int .i64 c) := by rw [hw1]; exact boxes_made _ _ _
  have hnum1 := hnum w1 hbx.ext
  obtain ⟨y0, y1⟩ := box2 hbx.b
  have hltc := blk_lt hbx.c
  have hne1 : ¬ w.heap.size = w.heap.size + 1 := by omega
  have hne2 : ¬ w.heap.size + 1 = w.heap.size := by omega
  have Hbx := Lib.hid hbx
  have Hnum := Lib.hid hnum1
  rw [hcm]
  clear hcm
  generalize numberM ⟨l, c⟩ = nm at *
  obtain ⟨nn, sn⟩ := nm
  simp only at hlt ⊢
  clear hnum hnum1 h hbx
  go_enter Try.func56, Try.ntmps56
  go_upto_region 1 with fail
  rw [← hw1]
  clear hw1
  go_wp2_with fail
  refine Hnum.out.mono ?_
  rintro r w2 ⟨v2, rfl, hr2, hx2⟩
  obtain ⟨a2, c2, rfl, hb2⟩ := hr2.shape
  obtain ⟨hB, hC, hx3⟩ := Hbx.out.put hx2 (.slice a2 sn.l.length c2) (.int .i64 sn.c)
  have hb20 := (hx2.blk (blk_lt Hbx.out.b) id).trans Hbx.out.b
  obtain ⟨y0, y1⟩ := box2 hb20
  have f0 := free_of_cells hb20 0
  have f1 := free_of_cells hb20 1
  have hq0 := (set2_done hb20 (.slice a2 sn.l.length c2) (.int .i64 sn.c)).2
  have hb3 : BytesAt (set2 w2 w.heap.size (.slice a2 sn.l.length c2) (.int .i64 sn.c)) (.slice a2 sn.l.length c2) sn.l := hb2.ext hq0 (fun g cur hc e => by subst e; exact hc.ne hb20 (by decide))
  have HB := Lib.hid hB
  have HC := Lib.hid hC
  have Hx3 := Lib.hid hx3
  have Hb3 := Lib.hid hb3
  unfold set2 at HB HC Hx3 Hb3
  obtain ⟨sl, sc⟩ := sn
  simp only at HB HC Hx3 Hb3 ⊢
  obtain ⟨m2, hm2⟩ : ∃ m2, sl.length = m2 := ⟨_, rfl⟩
  rw [hm2] at HB HC Hx3 Hb3 ⊢
  clear hr2 hx2 hb2 hB hC hx3 hb20 hq0 hb3 hm2
  go_upto_region 2 with fail
  generalize (w2.setCell ⟨w.heap.size, 0, none⟩ (.slice a2 m2 c2)).setCell ⟨w.heap.size, 1, none⟩ (.int .i64 sc) = w3 at *
  clear y0 y1 f0 f1
  obtain ⟨y0, y1⟩ := box2 HB.out
  obtain ⟨z0, z1⟩ := box2 HC.out
  have f0 := free_of_cells HC.out 0
  have f1 := free_of_cells HC.out 1
  have hltb := blk_lt HB.out
  have hltc := blk_lt HC.out
  have hres := res_done HC.out Hx3.out (by omega) (.slice a2 m2 c2) (.int .i64 sc)
  have hfin : IrPost w (unzz nn, ⟨sl, sc⟩) (.returned (.tuple #[.agg #[.slice a2 m2 c2, .int .i64 sc], .int .i64 (unzz nn)])) (set2 w3 (w.heap.size + 1) (.slice a2 m2 c2) (.int .i64 sc)) :=
    ⟨_, rfl, ⟨_, rfl, hres.2.2.2 _ _ Hb3.out⟩, hres.2.2.1⟩
  have Hfin := Lib.hid (And.intro hres.1 (And.intro hres.2.1 hfin))
  unfold set2 at Hfin
  clear hfin hres
  by_cases hev : nn % 2 = 0
  · have hu : unzz nn = ((nn / 2 : Nat) : Int) := by unfold unzz; rw [if_pos hev]
    have h1 : ((nn : Int) % 2 == 0) = true := by simp; omega
    have h2 : IntKind.i64.wrap ((nn : Int) / 2) = ((nn / 2 : Nat) : Int) := by
      rw [show ((nn : Int) / 2) = ((nn / 2 : Nat) : Int) by omega]; exact IntWalk.i64_in _ (by omega)
    have Hu := Lib.hid hu
    rw [hu] at Hfin
    clear hu hev
    go_wp2_with fail
    obtain ⟨e0, e1, hfin⟩ := Hfin.out
    exact bodyPost_ret (v := .tuple #[.agg #[.slice a2 m2 c2, .int .i64 sc], .int .i64 ((nn / 2 : Nat) : Int)]) (by simp [results, Try.results56, go_sem, e0, e1]) rfl (by rw [Hu.out]; exact hfin)
  · have hu : unzz nn = -((nn / 2 : Nat) : Int) - 1 := by unfold unzz; rw [if_neg hev]
    have h1 : ((nn : Int) % 2 == 0) = false := by simp; omega
    have h2 : IntKind.i64.wrap ((nn : Int) / 2) = ((nn / 2 : Nat) : Int) := by
      rw [show ((nn : Int) / 2) = ((nn / 2 : Nat) : Int) by omega]; exact IntWalk.i64_in _ (by omega)
    have h3 : IntKind.i64.wrap (-((nn / 2 : Nat) : Int)) = -((nn / 2 : Nat) : Int) := IntWalk.i64_in _ (by omega)
    have h4 : IntKind.i64.wrap (-((nn / 2 : Nat) : Int) - 1) = -((nn / 2 : Nat) : Int) - 1 := IntWalk.i64_in _ (by omega)
    have Hu := Lib.hid hu
    rw [hu] at Hfin
    clear hu hev
    go_wp2_with fail
    obtain ⟨e0, e1, hfin⟩ := Hfin.out
    exact bodyPost_ret (v := .tuple #[.agg #[.slice a2 m2 c2, .int .i64 sc], .int .i64 (-((nn / 2 : Nat) : Int) - 1)]) (by simp [results, Try.results56, go_sem, e0, e1]) rfl (by rw [Hu.out]; exact hfin)
end Go.Proofs.Ythipbmppmgkklaa
