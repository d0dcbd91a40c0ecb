/-
  Package wire: Reader.Int; the reference's GetInt. Conditions: the reader stands as IsRd says, reads as IsRs says.
-/
import Derived.Test.YthligdgkhmgagaaQ2
import Derived.Laws.BitsAllLaws
namespace Go.Proofs.Ythligdgkhmgagaa
open Go.RowKit Go.MapKept
open Go.ChangeMaps (setBlock)

def unzz (n : Nat) : Int := if n % 2 = 0 then ((n / 2 : Nat) : Int) else -((n / 2 : Nat) : Int) - 1
theorem unzz_zz (n : Int) : unzz (zz n) = n := by
  unfold unzz zz
  by_cases h : 0 ≤ n
  · rw [if_pos h, if_pos (by omega)]; omega
  · rw [if_neg h, if_neg (by omega)]; omega
theorem zz_unzz (n : Nat) : zz (unzz n) = n := by
  unfold unzz
  by_cases h : n % 2 = 0
  · rw [if_pos h]; unfold zz; rw [if_pos (by omega)]; omega
  · rw [if_neg h]; unfold zz; rw [if_neg (by omega)]; omega
def intM (s : RS) : Int × RS := (unzz (numberM s).1, (numberM s).2)
theorem unzz_in {n : Nat} (h : n < 18446744073709551616) : -9223372036854775808 ≤ unzz n ∧ unzz n ≤ 9223372036854775807 := by
  unfold unzz; split <;> omega
theorem i64_xor_zero (a : Nat) (ha : a < 9223372036854775808) : bits .xor .i64 (a : Int) 0 = (a : Int) := by
  show IntKind.i64.wrap ((BitVec.ofInt 64 (a : Int) ^^^ BitVec.ofInt 64 0).toNat : Int) = _
  rw [show BitVec.ofInt 64 0 = 0#64 from by decide, BitVec.xor_zero, ofInt_u64 a (by omega)]
  exact IntWalk.i64_in _ (by omega)
theorem i64_xor_ones (a : Nat) (ha : a < 9223372036854775808) : bits .xor .i64 (a : Int) (-1) = -1 - (a : Int) := by
  show IntKind.i64.wrap ((BitVec.ofInt 64 (a : Int) ^^^ BitVec.ofInt 64 (-1)).toNat : Int) = _
  rw [show BitVec.ofInt 64 (-1) = BitVec.allOnes 64 from by decide, BitVec.xor_allOnes, BitVec.toNat_not, ofInt_u64 a (by omega)]
  simp [IntKind.wrap, IntKind.bits, IntKind.signed]
  omega
theorem and_one (n : Nat) (h : n < 18446744073709551616) : bits .and .u64 (n : Int) 1 = ((n % 2 : Nat) : Int) := by
  have := u64_and_nat n 1 h (by omega)
  rw [Nat.and_one_is_mod] at this
  exact this
theorem unzz_bits (n : Nat) (h : n < 18446744073709551616) : bits .xor .i64 ((n / 2 : Nat) : Int) (-((n % 2 : Nat) : Int)) = unzz n := by
  unfold unzz
  by_cases h2 : n % 2 = 0
  · rw [if_pos h2, h2]
    exact i64_xor_zero _ (by omega)
  · rw [if_neg h2, show n % 2 = 1 by omega]
    have := i64_xor_ones (n / 2) (by omega)
    show bits .xor .i64 ((n / 2 : Nat) : Int) (-1) = _
    rw [this]; omega
def IntPost (w : World) (p : Nat) (m : Int × RS) (r : Ending) (w' : World) : Prop := r = .returned (.int .i64 m.1) ∧ IsRd w' p m.2 ∧ Ext (fun b => b = p) w w'
set_option maxRecDepth 100000 in
theorem int_any (w : World) (p : Nat) (s : RS) (h : IsRd w p s) : Calls Try.prog 40 #[.pointer (some ⟨p, 0, none⟩)] w (IntPost w p (intM s)) := by
  have H := Lib.hid (number_any w p s h)
  have hlt := h.lt
  have hn := numberM_lt s
  unfold intM
  generalize numberM s = m at *
  obtain ⟨n, s'⟩ := m
  simp only at hn ⊢
  have hb : bits .xor .i64 ((n : Int) / 2) (-((n : Int) % 2)) = unzz n := by
    have := unzz_bits n hn
    rwa [show ((n / 2 : Nat) : Int) = (n : Int) / 2 by omega, show ((n % 2 : Nat) : Int) = (n : Int) % 2 by omega] at this
  have h1 := and_one n hn
  have h2 : IntKind.i64.wrap ((n : Int) / 2) = ((n / 2 : Nat) : Int) := by
    rw [show ((n : Int) / 2) = ((n / 2 : Nat) : Int) by omega]; exact IntWalk.i64_in _ (by omega)
  clear h
  go_enter Try.func40, Try.ntmps40
  go_wp2_with fail
  refine H.out.mono ?_
  rintro r w1 ⟨rfl, h⟩
  have Hfin := Lib.hid h
  have Hb := Lib.hid hb
  clear h hb
  go_wp2
  go_ret
  exact ⟨congrArg (fun z => Ending.returned (Value.int .i64 z)) Hb.out, Hfin.out⟩
def IrPost (w : World) (m : Int × RS) (r : Ending) (w' : World) : Prop := ∃ v', r = .returned (.tuple #[v', .int .i64 m.1]) ∧ IsRs w' v' m.2 ∧ Ext (fun _ => False) w w'
set_option maxRecDepth 100000 in
set_option maxHeartbeats 2000000 in
theorem rgetint_any (w : World) (v : Value) (s : RS) (h : IsRs w v s) : Calls Try.prog 52 #[v] w (IrPost w (intM s)) := by
  have hnum := fun (W : World) (hx : Ext (fun _ => False) w W) => rnum_any W v s (h.keep hx)
  obtain ⟨ao, cp, rfl, _⟩ := h.shape
  have hlt := numberM_lt s
  have hcm : intM s = (unzz (numberM s).1, (numberM s).2) := rfl
  obtain ⟨l, c⟩ := s
  simp only at hnum ⊢
  generalize l.length = m at *
  obtain ⟨w1, hw1⟩ : ∃ w1, w1 = (w.alloc (.cells #[.slice ao m cp, .int .i64 c] 96)).alloc (.cells #[.slice none 0 0, .int .i64 0] 96) := ⟨_, rfl⟩
  have hbx : Boxes w w1 (.slice ao m cp) (.int .i64 c) := by rw [hw1]; exact boxes_made _ _ _
  have hnum1 := hnum w1 hbx.ext
  obtain ⟨y0, y1⟩ := box2 hbx.b
  have hltc := blk_lt hbx.c
  have hne1 : ¬ w.heap.size = w.heap.size + 1 := by omega
  have hne2 : ¬ w.heap.size + 1 = w.heap.size := by omega
  have Hbx := Lib.hid hbx
  have Hnum := Lib.hid hnum1
  rw [hcm]
  clear hcm
  generalize numberM ⟨l, c⟩ = nm at *
  obtain ⟨nn, sn⟩ := nm
  simp only at hlt ⊢
  clear hnum hnum1 h hbx
  go_enter Try.func52, Try.ntmps52
  go_upto_region 1 with fail
  rw [← hw1]
  clear hw1
  go_wp2_with fail
  refine Hnum.out.mono ?_
  rintro r w2 ⟨v2, rfl, hr2, hx2⟩
  obtain ⟨a2, c2, rfl, hb2⟩ := hr2.shape
  obtain ⟨hB, hC, hx3⟩ := Hbx.out.put hx2 (.slice a2 sn.l.length c2) (.int .i64 sn.c)
  have hb20 := (hx2.blk (blk_lt Hbx.out.b) id).trans Hbx.out.b
  obtain ⟨y0, y1⟩ := box2 hb20
  have f0 := free_of_cells hb20 0
  have f1 := free_of_cells hb20 1
  have hq0 := (set2_done hb20 (.slice a2 sn.l.length c2) (.int .i64 sn.c)).2
  have hb3 : BytesAt (set2 w2 w.heap.size (.slice a2 sn.l.length c2) (.int .i64 sn.c)) (.slice a2 sn.l.length c2) sn.l := hb2.ext hq0 (fun g cur hc e => by subst e; exact hc.ne hb20 (by decide))
  have HB := Lib.hid hB
  have HC := Lib.hid hC
  have Hx3 := Lib.hid hx3
  have Hb3 := Lib.hid hb3
  unfold set2 at HB HC Hx3 Hb3
  obtain ⟨sl, sc⟩ := sn
  simp only at HB HC Hx3 Hb3 ⊢
  obtain ⟨m2, hm2⟩ : ∃ m2, sl.length = m2 := ⟨_, rfl⟩
  rw [hm2] at HB HC Hx3 Hb3 ⊢
  clear hr2 hx2 hb2 hB hC hx3 hb20 hq0 hb3 hm2
  go_upto_region 2 with fail
  generalize (w2.setCell ⟨w.heap.size, 0, none⟩ (.slice a2 m2 c2)).setCell ⟨w.heap.size, 1, none⟩ (.int .i64 sc) = w3 at *
  clear y0 y1 f0 f1
  obtain ⟨y0, y1⟩ := box2 HB.out
  obtain ⟨z0, z1⟩ := box2 HC.out
  have f0 := free_of_cells HC.out 0
  have f1 := free_of_cells HC.out 1
  have hltb := blk_lt HB.out
  have hltc := blk_lt HC.out
  have hres := res_done HC.out Hx3.out (by omega) (.slice a2 m2 c2) (.int .i64 sc)
  have hfin : IrPost w (unzz nn, ⟨sl, sc⟩) (.returned (.tuple #[.agg #[.slice a2 m2 c2, .int .i64 sc], .int .i64 (unzz nn)])) (set2 w3 (w.heap.size + 1) (.slice a2 m2 c2) (.int .i64 sc)) :=
    ⟨_, rfl, ⟨_, rfl, hres.2.2.2 _ _ Hb3.out⟩, hres.2.2.1⟩
  have Hfin := Lib.hid (And.intro hres.1 (And.intro hres.2.1 hfin))
  unfold set2 at Hfin
  clear hfin hres
  by_cases hev : nn % 2 = 0
  · have hu : unzz nn = ((nn / 2 : Nat) : Int) := by unfold unzz; rw [if_pos hev]
    have h1 : ((nn : Int) % 2 == 0) = true := by simp; omega
    have h2 : IntKind.i64.wrap ((nn : Int) / 2) = ((nn / 2 : Nat) : Int) := by
      rw [show ((nn : Int) / 2) = ((nn / 2 : Nat) : Int) by omega]; exact IntWalk.i64_in _ (by omega)
    have Hu := Lib.hid hu
    rw [hu] at Hfin
    clear hu hev
    go_wp2_with fail
    obtain ⟨e0, e1, hfin⟩ := Hfin.out
    exact bodyPost_ret (v := .tuple #[.agg #[.slice a2 m2 c2, .int .i64 sc], .int .i64 ((nn / 2 : Nat) : Int)]) (by simp [results, Try.results52, go_sem, e0, e1]) rfl (by rw [Hu.out]; exact hfin)
  · have hu : unzz nn = -((nn / 2 : Nat) : Int) - 1 := by unfold unzz; rw [if_neg hev]
    have h1 : ((nn : Int) % 2 == 0) = false := by simp; omega
    have h2 : IntKind.i64.wrap ((nn : Int) / 2) = ((nn / 2 : Nat) : Int) := by
      rw [show ((nn : Int) / 2) = ((nn / 2 : Nat) : Int) by omega]; exact IntWalk.i64_in _ (by omega)
    have h3 : IntKind.i64.wrap (-((nn / 2 : Nat) : Int)) = -((nn / 2 : Nat) : Int) := IntWalk.i64_in _ (by omega)
    have h4 : IntKind.i64.wrap (-((nn / 2 : Nat) : Int) - 1) = -((nn / 2 : Nat) : Int) - 1 := IntWalk.i64_in _ (by omega)
    have Hu := Lib.hid hu
    rw [hu] at Hfin
    clear hu hev
    go_wp2_with fail
    obtain ⟨e0, e1, hfin⟩ := Hfin.out
    exact bodyPost_ret (v := .tuple #[.agg #[.slice a2 m2 c2, .int .i64 sc], .int .i64 (-((nn / 2 : Nat) : Int) - 1)]) (by simp [results, Try.results52, go_sem, e0, e1]) rfl (by rw [Hu.out]; exact hfin)
end Go.Proofs.Ythligdgkhmgagaa
