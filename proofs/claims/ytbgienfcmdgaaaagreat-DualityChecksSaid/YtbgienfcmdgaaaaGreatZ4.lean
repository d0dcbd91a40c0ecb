/-
  Package rational: cross, Neg. Conditions: the arguments read as fractions, lengths bounded.
-/
import Derived.Test.YtbgienfcmdgaaaaGreatZ3
import Derived.Test.YtbgienfcmdgaaaaGreatZ2
set_option linter.unusedVariables false
namespace Go.Proofs.YtbgienfcmdgaaaaGreat
open Go.RowKit Go.MapKept
open Go.ChangeMaps (setBlock)

/-- two fractions in boxes -/
abbrev SR2 (b1 b2 : Nat) (n1 n2 : Bool) (m1 e1 m2 e2 : Value) (W : World) : Prop :=
  W.cell? ⟨b1, 0, none⟩ = some (.bool n1) ∧ W.cell? ⟨b1, 1, none⟩ = some m1 ∧ W.cell? ⟨b1, 2, none⟩ = some e1 ∧ W.cell? ⟨b2, 0, none⟩ = some (.bool n2) ∧ W.cell? ⟨b2, 1, none⟩ = some m2 ∧ W.cell? ⟨b2, 2, none⟩ = some e2
section
variable {b1 b2 : Nat} {n1 n2 : Bool} {m1 e1 m2 e2 : Value} {W : World}
theorem SR2.of (h : BoxR W b1 n1 m1 e1) (h' : BoxR W b2 n2 m2 e2) : SR2 b1 b2 n1 n2 m1 e1 m2 e2 W := ⟨h.facts.1, h.facts.2.1, h.facts.2.2.1, h'.facts.1, h'.facts.2.1, h'.facts.2.2.1⟩
theorem SR2.drew (h : SR2 b1 b2 n1 n2 m1 e1 m2 e2 W) : SR2 b1 b2 n1 n2 m1 e1 m2 e2 W.drew := h
theorem SR2.set (h : SR2 b1 b2 n1 n2 m1 e1 m2 e2 W) (p : Addr) (u : Value) (h1 : ¬ b1 = p.block) (h2 : ¬ b2 = p.block) : SR2 b1 b2 n1 n2 m1 e1 m2 e2 (W.setCell p u) := by
  obtain ⟨a1, a2, a3, a4, a5, a6⟩ := h
  exact ⟨cell_other a1 h1, cell_other a2 h1, cell_other a3 h1, cell_other a4 h2, cell_other a5 h2, cell_other a6 h2⟩
end
/-- one fraction in a box -/
abbrev SR1 (b1 : Nat) (n1 : Bool) (m1 e1 : Value) (W : World) : Prop :=
  W.cell? ⟨b1, 0, none⟩ = some (.bool n1) ∧ W.cell? ⟨b1, 1, none⟩ = some m1 ∧ W.cell? ⟨b1, 2, none⟩ = some e1
section
variable {b1 : Nat} {n1 : Bool} {m1 e1 : Value} {W : World}
theorem SR1.of (h : BoxR W b1 n1 m1 e1) : SR1 b1 n1 m1 e1 W := ⟨h.facts.1, h.facts.2.1, h.facts.2.2.1⟩
theorem SR1.drew (h : SR1 b1 n1 m1 e1 W) : SR1 b1 n1 m1 e1 W.drew := h
theorem SR1.set (h : SR1 b1 n1 m1 e1 W) (p : Addr) (u : Value) (h1 : ¬ b1 = p.block) : SR1 b1 n1 m1 e1 (W.setCell p u) := by
  obtain ⟨a1, a2, a3⟩ := h
  exact ⟨cell_other a1 h1, cell_other a2 h1, cell_other a3 h1⟩
end
theorem dn_len {w : World} {v : Value} {d : List Nat} {L : Nat} (h : Rds w v d) (hl : d.length ≤ L) (h0 : 1 ≤ L) : (dg (dn (vl d))).length ≤ L := by
  unfold dn
  split
  · exact Nat.le_trans (dg_length_le (k := 1) (by decide)) h0
  · exact Nat.le_trans (dg_length_le (vl_lt h.1)) hl
set_option maxRecDepth 100000 in
set_option maxHeartbeats 8000000 in
theorem cross_add (w : World) (v v' : Value) (q q' : Rat) (L : Nat) (h : Rrat w v q L) (h' : Rrat w v' q' L) (h0 : 1 ≤ L) (hL : L ≤ 4194304) :
    Calls Tryz.prog 117 #[v, v', .func (.func 118) #[] #[]] w (RatPost w (q + q')) := by
  obtain ⟨n1, a1, l1, c1, x1, y1, k1, l, d, rfl, hr, hd, hm, hdl, hq⟩ := h.open
  clear hm
  obtain ⟨n2, a2, l2, c2, x2, y2, k2, l', d', rfl, hr', hd', hm, hdl', hq'⟩ := h'.open
  clear hm
  have HD1 := Lib.hid (fun W (hW : Ext (fun _ => False) w W) => den_any W _ n1 a1 l1 c1 x1 y1 k1 d L rfl (hd.keep hW) hdl (by omega) h0)
  have HD2 := Lib.hid (fun W (hW : Ext (fun _ => False) w W) => den_any W _ n2 a2 l2 c2 x2 y2 k2 d' L rfl (hd'.keep hW) hdl' (by omega) h0)
  have HF := Lib.hid (fun W (hW : Ext (fun _ => False) w W) u u' hu hu' => addf_any W _ u _ u' _ (dn (vl d) : Nat) _ (dn (vl d') : Nat) L (hr.keep hW) hu (hr'.keep hW) hu' hL)
  have hY : ((dn (vl d) : Nat) : Int) * ((dn (vl d') : Nat) : Int) = ((dn (vl d) * dn (vl d') : Nat) : Int) := by simp
  have hdl1 : (dg (((dn (vl d) : Nat) : Int)).natAbs).length ≤ L := by rw [Int.natAbs_natCast]; exact dn_len hd hdl h0
  have hdl2 : (dg (((dn (vl d') : Nat) : Int)).natAbs).length ≤ L := by rw [Int.natAbs_natCast]; exact dn_len hd' hdl' h0
  have hYl := len_mul hdl1 hdl2
  have hZl : (dg (sg n1 (vl l) * ((dn (vl d') : Nat) : Int) + sg n2 (vl l') * ((dn (vl d) : Nat) : Int)).natAbs).length ≤ L + L + 1 := len_add (len_mul hr.len hdl2) (len_mul hr'.len hdl1)
  clear hdl1 hdl2
  have HRd := Lib.hid (fun W u u' (hu : IsInt W u (sg n1 (vl l) * ((dn (vl d') : Nat) : Int) + sg n2 (vl l') * ((dn (vl d) : Nat) : Int))) (hu' : IsInt W u' (((dn (vl d) : Nat) : Int) * ((dn (vl d') : Nat) : Int))) => reduced_any W u u' (sg n1 (vl l) * ((dn (vl d') : Nat) : Int) + sg n2 (vl l') * ((dn (vl d) : Nat) : Int)) (dn (vl d) * dn (vl d')) (L + L + 1) (hu.reads hZl) (by rw [← hY]; exact hu'.reads (by have := hYl; omega)) (Nat.mul_pos (dn_pos _) (dn_pos _)) (by omega))
  have hres : mkRat (sg n1 (vl l) * ((dn (vl d') : Nat) : Int) + sg n2 (vl l') * ((dn (vl d) : Nat) : Int)) (dn (vl d) * dn (vl d')) = q + q' := by
    rw [hq, hq']
    rw [Rat.mkRat_add_mkRat _ _ (Nat.ne_of_gt (dn_pos _)) (Nat.ne_of_gt (dn_pos _))]
  rw [hres] at HRd
  clear hr hr' hd hd' hdl hdl' hq hq' h h' hY hres hZl hYl
  generalize q + q' = Q at *
  unfold TwoInt at HF
  generalize sg n1 (vl l) * ((dn (vl d') : Nat) : Int) + sg n2 (vl l') * ((dn (vl d) : Nat) : Int) = Z at *
  generalize ((dn (vl d) : Nat) : Int) * ((dn (vl d') : Nat) : Int) = Y at *
  generalize ((dn (vl d) : Nat) : Int) = D1 at *
  generalize ((dn (vl d') : Nat) : Int) = D2 at *
  go_enter Tryz.func117, Tryz.ntmps117
  go_upto_region 0 with fail
  go_cut [3, 4, 6] (fun v1 v2 v3 wx => ∃ b1 b2 r, v1 = .pointer (some ⟨b1, 0, none⟩) ∧ v2 = .pointer (some ⟨b2, 0, none⟩) ∧ v3 = .pointer (some ⟨r, 0, none⟩) ∧ BoxR wx b1 n1 (.slice a1 l1 c1) (.slice x1 y1 k1) ∧ BoxR wx b2 n2 (.slice a2 l2 c2) (.slice x2 y2 k2) ∧ BoxR wx r false (.slice none 0 0) (.slice none 0 0) ∧ b1 < r ∧ b2 < r ∧ w.heap.size ≤ r ∧ Ext (fun _ => False) w wx)
  case first =>
    go_wp2
    go_meet
    exact ⟨_, _, _, rfl, rfl, rfl, ((boxR_new rfl n1 a1 l1 c1 x1 y1 k1).alloc _).alloc _, (boxR_new (by simp) n2 a2 l2 c2 x2 y2 k2).alloc _, boxR_new (by simp) false none 0 0 none 0 0, (by omega), (by omega), (by omega), (((Ext.refl _ w).alloc _).alloc _).alloc _⟩
  case rest =>
    obtain ⟨b1, b2, r, rfl, rfl, rfl, hb1, hb2, hrb, i1, i2, hle, hx⟩ := hcut
    have hS := SR2.of hb1 hb2
    have HB := Lib.hid (And.intro hb1 (And.intro hb2 (And.intro hrb hx)))
    clear hb1 hb2 hrb hx
    go_upto_region 1 with fail
    go_region_held3 (SR2 b1 b2 n1 n2 (.slice a1 l1 c1) (.slice x1 y1 k1) (.slice a2 l2 c2) (.slice x2 y2 k2))
      (repeat (first | (with_reducible assumption) | (with_reducible refine SR2.drew ?_) | (with_reducible refine SR2.set ?_ _ _ ?_ ?_) | (dsimp only; omega)))
      (first
        | (go_at_call 102; (with_reducible refine (HD1.out _ HB.out.2.2.2.drew).mono ?_); rintro q1 w11 ⟨v11, rfl, h11, hx11⟩; have hX1 := (Ext.refl (fun _ => False) wc).drew.trans hx11; have hK1 := SR2.of (HB.out.1.ext hX1 id) (HB.out.2.1.ext hX1 id); obtain ⟨ng1, ag1, lg1, cg1, rfl⟩ := h11.shape)
        | (go_at_call 102; (with_reducible refine (HD2.out _ (HB.out.2.2.2.trans hX1)).mono ?_); rintro q2 w12 ⟨v12, rfl, h12, hx12⟩; have hX2 := hX1.trans hx12; have hK2 := SR2.of (HB.out.1.ext hX2 id) (HB.out.2.1.ext hX2 id); have hF := HF.out w12 (HB.out.2.2.2.trans hX2) _ _ (h11.keep hx12) h12; obtain ⟨ng2, ag2, lg2, cg2, rfl⟩ := h12.shape)
        | (go_at_call 118; (with_reducible refine hF.mono ?_); rintro q3 w13 ⟨va, vb, rfl, ha, hb, hx13⟩; have hX3 := hX2.trans hx13; have hK3 := SR2.of (HB.out.1.ext hX3 id) (HB.out.2.1.ext hX3 id); have hR := HRd.out w13 _ _ ha hb; obtain ⟨ng3, ag3, lg3, cg3, rfl⟩ := ha.shape; obtain ⟨ng4, ag4, lg4, cg4, rfl⟩ := hb.shape)
        | (go_at_call 119; (with_reducible refine hR.mono ?_); rintro q4 w14 ⟨v14, rfl, h14, hx14⟩; have hX4 := hX3.trans hx14; have hK4 := SR2.of (HB.out.1.ext hX4 id) (HB.out.2.1.ext hX4 id); have hr4 := HB.out.2.2.1.ext hX4 id; obtain ⟨d0, d1, d2, d3, d4, d5⟩ := hr4.facts; obtain ⟨ng, sa, sn, sc, ta, tn, tc, rfl⟩ := h14.shape))
    have hp := hr4.put (neg := ng) (no_int sa sn sc) (no_int ta tn tc)
    have HR := Lib.hid (And.intro (hp.rat h14) (And.intro ((HB.out.2.2.2.trans hX4).own hp.ext (fun k e => by omega)) hp.box))
    clear hp hr4 h11 h12 ha hb h14 hx11 hx12 hx13 hx14 hX1 hX2 hX3 hX4 hK1 hK2 hK3 hK4 hS hF hR d0 d1 d2 d3 d4 d5
    generalize ((w14.setCell ⟨r, 0, none⟩ (.bool ng)).setCell ⟨r, 1, none⟩ (.slice sa sn sc)).setCell ⟨r, 2, none⟩ (.slice ta tn tc) = w20 at *
    obtain ⟨g0, g1, g2, _⟩ := HR.out.2.2.facts
    go_wp2
    exact bodyPost_ret (v := .agg #[.bool ng, .slice sa sn sc, .slice ta tn tc]) (by simp [results, Tryz.results117, go_sem, g0, g1, g2]) rfl ⟨_, rfl, HR.out.1, HR.out.2.1⟩
set_option maxRecDepth 100000 in
set_option maxHeartbeats 8000000 in
theorem cross_mul (w : World) (v v' : Value) (q q' : Rat) (L : Nat) (h : Rrat w v q L) (h' : Rrat w v' q' L) (h0 : 1 ≤ L) (hL : L ≤ 4194304) :
    Calls Tryz.prog 117 #[v, v', .func (.func 159) #[] #[]] w (RatPost w (q * q')) := by
  obtain ⟨n1, a1, l1, c1, x1, y1, k1, l, d, rfl, hr, hd, hm, hdl, hq⟩ := h.open
  clear hm
  obtain ⟨n2, a2, l2, c2, x2, y2, k2, l', d', rfl, hr', hd', hm, hdl', hq'⟩ := h'.open
  clear hm
  have HD1 := Lib.hid (fun W (hW : Ext (fun _ => False) w W) => den_any W _ n1 a1 l1 c1 x1 y1 k1 d L rfl (hd.keep hW) hdl (by omega) h0)
  have HD2 := Lib.hid (fun W (hW : Ext (fun _ => False) w W) => den_any W _ n2 a2 l2 c2 x2 y2 k2 d' L rfl (hd'.keep hW) hdl' (by omega) h0)
  have HF := Lib.hid (fun W (hW : Ext (fun _ => False) w W) u u' hu hu' => mulf_any W _ u _ u' _ (dn (vl d) : Nat) _ (dn (vl d') : Nat) L (hr.keep hW) hu (hr'.keep hW) hu' hL)
  have hY : ((dn (vl d) : Nat) : Int) * ((dn (vl d') : Nat) : Int) = ((dn (vl d) * dn (vl d') : Nat) : Int) := by simp
  have hdl1 : (dg (((dn (vl d) : Nat) : Int)).natAbs).length ≤ L := by rw [Int.natAbs_natCast]; exact dn_len hd hdl h0
  have hdl2 : (dg (((dn (vl d') : Nat) : Int)).natAbs).length ≤ L := by rw [Int.natAbs_natCast]; exact dn_len hd' hdl' h0
  have hYl := len_mul hdl1 hdl2
  have hZl : (dg (sg n1 (vl l) * sg n2 (vl l')).natAbs).length ≤ L + L + 1 := Nat.le_trans (len_mul hr.len hr'.len) (by omega)
  clear hdl1 hdl2
  have HRd := Lib.hid (fun W u u' (hu : IsInt W u (sg n1 (vl l) * sg n2 (vl l'))) (hu' : IsInt W u' (((dn (vl d) : Nat) : Int) * ((dn (vl d') : Nat) : Int))) => reduced_any W u u' (sg n1 (vl l) * sg n2 (vl l')) (dn (vl d) * dn (vl d')) (L + L + 1) (hu.reads hZl) (by rw [← hY]; exact hu'.reads (by have := hYl; omega)) (Nat.mul_pos (dn_pos _) (dn_pos _)) (by omega))
  have hres : mkRat (sg n1 (vl l) * sg n2 (vl l')) (dn (vl d) * dn (vl d')) = q * q' := by
    rw [hq, hq']
    rw [Rat.mkRat_mul_mkRat]
  rw [hres] at HRd
  clear hr hr' hd hd' hdl hdl' hq hq' h h' hY hres hZl hYl
  generalize q * q' = Q at *
  unfold TwoInt at HF
  generalize sg n1 (vl l) * sg n2 (vl l') = Z at *
  generalize ((dn (vl d) : Nat) : Int) * ((dn (vl d') : Nat) : Int) = Y at *
  generalize ((dn (vl d) : Nat) : Int) = D1 at *
  generalize ((dn (vl d') : Nat) : Int) = D2 at *
  go_enter Tryz.func117, Tryz.ntmps117
  go_upto_region 0 with fail
  go_cut [3, 4, 6] (fun v1 v2 v3 wx => ∃ b1 b2 r, v1 = .pointer (some ⟨b1, 0, none⟩) ∧ v2 = .pointer (some ⟨b2, 0, none⟩) ∧ v3 = .pointer (some ⟨r, 0, none⟩) ∧ BoxR wx b1 n1 (.slice a1 l1 c1) (.slice x1 y1 k1) ∧ BoxR wx b2 n2 (.slice a2 l2 c2) (.slice x2 y2 k2) ∧ BoxR wx r false (.slice none 0 0) (.slice none 0 0) ∧ b1 < r ∧ b2 < r ∧ w.heap.size ≤ r ∧ Ext (fun _ => False) w wx)
  case first =>
    go_wp2
    go_meet
    exact ⟨_, _, _, rfl, rfl, rfl, ((boxR_new rfl n1 a1 l1 c1 x1 y1 k1).alloc _).alloc _, (boxR_new (by simp) n2 a2 l2 c2 x2 y2 k2).alloc _, boxR_new (by simp) false none 0 0 none 0 0, (by omega), (by omega), (by omega), (((Ext.refl _ w).alloc _).alloc _).alloc _⟩
  case rest =>
    obtain ⟨b1, b2, r, rfl, rfl, rfl, hb1, hb2, hrb, i1, i2, hle, hx⟩ := hcut
    have hS := SR2.of hb1 hb2
    have HB := Lib.hid (And.intro hb1 (And.intro hb2 (And.intro hrb hx)))
    clear hb1 hb2 hrb hx
    go_upto_region 1 with fail
    go_region_held3 (SR2 b1 b2 n1 n2 (.slice a1 l1 c1) (.slice x1 y1 k1) (.slice a2 l2 c2) (.slice x2 y2 k2))
      (repeat (first | (with_reducible assumption) | (with_reducible refine SR2.drew ?_) | (with_reducible refine SR2.set ?_ _ _ ?_ ?_) | (dsimp only; omega)))
      (first
        | (go_at_call 102; (with_reducible refine (HD1.out _ HB.out.2.2.2.drew).mono ?_); rintro q1 w11 ⟨v11, rfl, h11, hx11⟩; have hX1 := (Ext.refl (fun _ => False) wc).drew.trans hx11; have hK1 := SR2.of (HB.out.1.ext hX1 id) (HB.out.2.1.ext hX1 id); obtain ⟨ng1, ag1, lg1, cg1, rfl⟩ := h11.shape)
        | (go_at_call 102; (with_reducible refine (HD2.out _ (HB.out.2.2.2.trans hX1)).mono ?_); rintro q2 w12 ⟨v12, rfl, h12, hx12⟩; have hX2 := hX1.trans hx12; have hK2 := SR2.of (HB.out.1.ext hX2 id) (HB.out.2.1.ext hX2 id); have hF := HF.out w12 (HB.out.2.2.2.trans hX2) _ _ (h11.keep hx12) h12; obtain ⟨ng2, ag2, lg2, cg2, rfl⟩ := h12.shape)
        | (go_at_call 159; (with_reducible refine hF.mono ?_); rintro q3 w13 ⟨va, vb, rfl, ha, hb, hx13⟩; have hX3 := hX2.trans hx13; have hK3 := SR2.of (HB.out.1.ext hX3 id) (HB.out.2.1.ext hX3 id); have hR := HRd.out w13 _ _ ha hb; obtain ⟨ng3, ag3, lg3, cg3, rfl⟩ := ha.shape; obtain ⟨ng4, ag4, lg4, cg4, rfl⟩ := hb.shape)
        | (go_at_call 119; (with_reducible refine hR.mono ?_); rintro q4 w14 ⟨v14, rfl, h14, hx14⟩; have hX4 := hX3.trans hx14; have hK4 := SR2.of (HB.out.1.ext hX4 id) (HB.out.2.1.ext hX4 id); have hr4 := HB.out.2.2.1.ext hX4 id; obtain ⟨d0, d1, d2, d3, d4, d5⟩ := hr4.facts; obtain ⟨ng, sa, sn, sc, ta, tn, tc, rfl⟩ := h14.shape))
    have hp := hr4.put (neg := ng) (no_int sa sn sc) (no_int ta tn tc)
    have HR := Lib.hid (And.intro (hp.rat h14) (And.intro ((HB.out.2.2.2.trans hX4).own hp.ext (fun k e => by omega)) hp.box))
    clear hp hr4 h11 h12 ha hb h14 hx11 hx12 hx13 hx14 hX1 hX2 hX3 hX4 hK1 hK2 hK3 hK4 hS hF hR d0 d1 d2 d3 d4 d5
    generalize ((w14.setCell ⟨r, 0, none⟩ (.bool ng)).setCell ⟨r, 1, none⟩ (.slice sa sn sc)).setCell ⟨r, 2, none⟩ (.slice ta tn tc) = w20 at *
    obtain ⟨g0, g1, g2, _⟩ := HR.out.2.2.facts
    go_wp2
    exact bodyPost_ret (v := .agg #[.bool ng, .slice sa sn sc, .slice ta tn tc]) (by simp [results, Tryz.results117, go_sem, g0, g1, g2]) rfl ⟨_, rfl, HR.out.1, HR.out.2.1⟩
set_option maxRecDepth 100000 in
set_option maxHeartbeats 8000000 in
theorem rneg_any (w : World) (v : Value) (q : Rat) (L : Nat) (h : Rrat w v q L) (h0 : 1 ≤ L) (hL : L ≤ 4194304) :
    Calls Tryz.prog 69 #[v] w (RatPost w (-q)) := by
  obtain ⟨n1, a1, l1, c1, x1, y1, k1, l, d, rfl, hr, hd, hm, hdl, hq⟩ := h.open
  clear hm
  have HN := Lib.hid (fun W (hW : Ext (fun _ => False) w W) => ineg_any W _ _ L (hr.keep hW) (by omega))
  have HD1 := Lib.hid (fun W (hW : Ext (fun _ => False) w W) => den_any W _ n1 a1 l1 c1 x1 y1 k1 d L rfl (hd.keep hW) hdl (by omega) h0)
  have hnl : (dg (-sg n1 (vl l)).natAbs).length ≤ L := by rw [Int.natAbs_neg]; exact hr.len
  have HRd := Lib.hid (fun W u u' (hu : IsInt W u (-sg n1 (vl l))) hu' => reduced_any W u u' (-sg n1 (vl l)) (dn (vl d)) L (hu.reads hnl) hu' (dn_pos _) (by omega))
  rw [← Rat.neg_mkRat, ← hq] at HRd
  clear hr hd hdl hq h hnl
  generalize -q = Q at *
  generalize -sg n1 (vl l) = Z at *
  generalize ((dn (vl d) : Nat) : Int) = D1 at *
  go_enter Tryz.func69, Tryz.ntmps69
  go_upto_region 0 with fail
  go_cut [1, 2] (fun v1 v3 wx => ∃ b1 r, v1 = .pointer (some ⟨b1, 0, none⟩) ∧ v3 = .pointer (some ⟨r, 0, none⟩) ∧ BoxR wx b1 n1 (.slice a1 l1 c1) (.slice x1 y1 k1) ∧ BoxR wx r false (.slice none 0 0) (.slice none 0 0) ∧ b1 < r ∧ w.heap.size ≤ r ∧ Ext (fun _ => False) w wx)
  case first =>
    go_wp2
    go_meet
    exact ⟨_, _, rfl, rfl, (boxR_new rfl n1 a1 l1 c1 x1 y1 k1).alloc _, boxR_new (by simp) false none 0 0 none 0 0, (by omega), (by omega), ((Ext.refl _ w).alloc _).alloc _⟩
  case rest =>
    obtain ⟨b1, r, rfl, rfl, hb1, hrb, i1, hle, hx⟩ := hcut
    have hS := SR1.of hb1
    have HB := Lib.hid (And.intro hb1 (And.intro hrb hx))
    clear hb1 hrb hx
    go_upto_region 1 with fail
    go_region_held3 (SR1 b1 n1 (.slice a1 l1 c1) (.slice x1 y1 k1))
      (repeat (first | (with_reducible assumption) | (with_reducible refine SR1.drew ?_) | (with_reducible refine SR1.set ?_ _ _ ?_) | (dsimp only; omega)))
      (first
        | (go_at_call 120; (with_reducible refine (HN.out _ HB.out.2.2.drew).mono ?_); rintro q1 w11 ⟨v11, rfl, h11, hx11⟩; have hX1 := (Ext.refl (fun _ => False) wc).drew.trans hx11; have hK1 := SR1.of (HB.out.1.ext hX1 id); obtain ⟨ng1, ag1, lg1, cg1, rfl⟩ := h11.shape)
        | (go_at_call 102; (with_reducible refine (HD1.out _ (HB.out.2.2.trans hX1)).mono ?_); rintro q2 w12 ⟨v12, rfl, h12, hx12⟩; have hX2 := hX1.trans hx12; have hK2 := SR1.of (HB.out.1.ext hX2 id); have hR := HRd.out w12 _ _ (h11.keep hx12) h12; obtain ⟨ng2, ag2, lg2, cg2, rfl⟩ := h12.shape)
        | (go_at_call 119; (with_reducible refine hR.mono ?_); rintro q4 w14 ⟨v14, rfl, h14, hx14⟩; have hX4 := hX2.trans hx14; have hK4 := SR1.of (HB.out.1.ext hX4 id); have hr4 := HB.out.2.1.ext hX4 id; obtain ⟨d0, d1, d2, d3, d4, d5⟩ := hr4.facts; obtain ⟨ng, sa, sn, sc, ta, tn, tc, rfl⟩ := h14.shape))
    have hp := hr4.put (neg := ng) (no_int sa sn sc) (no_int ta tn tc)
    have HR := Lib.hid (And.intro (hp.rat h14) (And.intro ((HB.out.2.2.trans hX4).own hp.ext (fun k e => by omega)) hp.box))
    clear hp hr4 h11 h12 h14 hx11 hx12 hx14 hX1 hX2 hX4 hK1 hK2 hK4 hS hR d0 d1 d2 d3 d4 d5
    generalize ((w14.setCell ⟨r, 0, none⟩ (.bool ng)).setCell ⟨r, 1, none⟩ (.slice sa sn sc)).setCell ⟨r, 2, none⟩ (.slice ta tn tc) = w20 at *
    obtain ⟨g0, g1, g2, _⟩ := HR.out.2.2.facts
    go_wp2
    exact bodyPost_ret (v := .agg #[.bool ng, .slice sa sn sc, .slice ta tn tc]) (by simp [results, Tryz.results69, go_sem, g0, g1, g2]) rfl ⟨_, rfl, HR.out.1, HR.out.2.1⟩
end Go.Proofs.YtbgienfcmdgaaaaGreat
/-
  Package rational: Add, Sub, Mul, Cmp. Conditions: the arguments read as fractions, lengths bounded.
-/
namespace Go.Proofs.YtbgienfcmdgaaaaGreat
open Go.RowKit Go.MapKept
open Go.ChangeMaps (setBlock)

theorem mkRat_one (z : Int) : mkRat z 1 = (z : Rat) := by
  have h := Rat.mkRat_self (z : Rat)
  rwa [Rat.num_intCast, Rat.den_intCast] at h
theorem rat_int {neg : Bool} {l d : List Nat} (h : d.length = 0) : mkRat (sg neg (vl l)) (dn (vl d)) = ((sg neg (vl l) : Int) : Rat) := by
  rw [List.eq_nil_of_length_eq_zero h]; exact mkRat_one _
set_option maxRecDepth 100000 in
set_option maxHeartbeats 8000000 in
theorem radd_any (w : World) (v v' : Value) (q q' : Rat) (L : Nat) (h : Rrat w v q L) (h' : Rrat w v' q' L) (h0 : 1 ≤ L) (hL : L ≤ 4194304) :
    Calls Tryz.prog 67 #[v, v'] w (RatPost w (q + q')) := by
  have HC := Lib.hid (fun W (hW : Ext (fun _ => False) w W) => cross_add W v v' q q' L (h.keep hW) (h'.keep hW) h0 hL)
  obtain ⟨n1, a1, l1, c1, x1, y1, k1, l, d, rfl, hr, hd, hm, hdl, hq⟩ := h.open
  obtain ⟨n2, a2, l2, c2, x2, y2, k2, l', d', rfl, hr', hd', hm', hdl', hq'⟩ := h'.open
  have HI := Lib.hid (fun W (hW : Ext (fun _ => False) w W) => iadd_any W _ _ _ _ L (hr.keep hW) (hr'.keep hW) (by omega))
  have hof := fun W neg mag (hz : y1 = 0 ∧ y2 = 0) (h : IsInt W (.agg #[.bool neg, mag]) (sg n1 (vl l) + sg n2 (vl l'))) => IsRat.ofInt h
  have he : y1 = 0 ∧ y2 = 0 → ((sg n1 (vl l) + sg n2 (vl l') : Int) : Rat) = q + q' := fun hz => by
    rw [hq, hq', rat_int (by omega), rat_int (by omega), Rat.intCast_add]
  have Hof := Lib.hid (fun W neg mag (hz : y1 = 0 ∧ y2 = 0) (h : IsInt W (.agg #[.bool neg, mag]) (sg n1 (vl l) + sg n2 (vl l'))) => (he hz) ▸ IsRat.ofInt h)
  have b1l : y1 ≤ 4194304 := by omega
  have b2l : y2 ≤ 4194304 := by omega
  clear hr hr' hd hd' hdl hdl' hq hq' h h' hof he hm hm'
  generalize q + q' = Q at *
  generalize sg n1 (vl l) + sg n2 (vl l') = Z at *
  go_enter Tryz.func67, Tryz.ntmps67
  go_upto_region 0 with fail
  go_cut [2, 3, 4] (fun v1 v2 v3 wx => ∃ b1 b2 r, v1 = .pointer (some ⟨b1, 0, none⟩) ∧ v2 = .pointer (some ⟨b2, 0, none⟩) ∧ v3 = .pointer (some ⟨r, 0, none⟩) ∧ BoxR wx b1 n1 (.slice a1 l1 c1) (.slice x1 y1 k1) ∧ BoxR wx b2 n2 (.slice a2 l2 c2) (.slice x2 y2 k2) ∧ BoxR wx r false (.slice none 0 0) (.slice none 0 0) ∧ b1 < r ∧ b2 < r ∧ w.heap.size ≤ r ∧ Ext (fun _ => False) w wx)
  case first =>
    go_wp2
    go_meet
    exact ⟨_, _, _, rfl, rfl, rfl, ((boxR_new rfl n1 a1 l1 c1 x1 y1 k1).alloc _).alloc _, (boxR_new (by simp) n2 a2 l2 c2 x2 y2 k2).alloc _, boxR_new (by simp) false none 0 0 none 0 0, (by omega), (by omega), (by omega), (((Ext.refl _ w).alloc _).alloc _).alloc _⟩
  case rest =>
    obtain ⟨b1, b2, r, rfl, rfl, rfl, hb1, hb2, hrb, i1, i2, hle, hx⟩ := hcut
    obtain ⟨c0, c1', c2', _⟩ := hb1.facts
    obtain ⟨e0, e1, e2, _⟩ := hb2.facts
    have HB := Lib.hid (And.intro hrb hx)
    clear hb1 hb2 hrb hx
    by_cases hz : y1 = 0 ∧ y2 = 0
    · obtain ⟨rfl, rfl⟩ := hz
      have HI1 := Lib.hid (HI.out wc HB.out.2)
      go_wp2_with fail
      refine HI1.out.mono ?_
      rintro q4 w14 ⟨v14, rfl, h14, hx14⟩
      obtain ⟨ng, sa, sn, sc, rfl⟩ := h14.shape
      have hr4 := HB.out.1.ext hx14 id
      obtain ⟨d0, d1, d2, d3, d4, d5⟩ := hr4.facts
      have hp := hr4.put (neg := ng) (no_int sa sn sc) (no_int none 0 0)
      have HR := Lib.hid (And.intro (hp.rat (Hof.out _ _ _ (by simp) h14)) (And.intro ((HB.out.2.trans hx14).own hp.ext (fun k e => by omega)) hp.box))
      clear hp hr4 h14 hx14
      go_wp2
      generalize ((w14.setCell ⟨r, 0, none⟩ (.bool ng)).setCell ⟨r, 1, none⟩ (.slice sa sn sc)).setCell ⟨r, 2, none⟩ (.slice none 0 0) = w20 at *
      obtain ⟨g0, g1, g2, _⟩ := HR.out.2.2.facts
      exact bodyPost_ret (v := .agg #[.bool ng, .slice sa sn sc, .slice none 0 0]) (by simp [results, Tryz.results67, go_sem, g0, g1, g2]) rfl ⟨_, rfl, HR.out.1, HR.out.2.1⟩
    · have hzi : ¬ (y1 : Int) + y2 = 0 := by omega
      have hzb : ((y1 : Int) + y2 == 0) = false := by simpa using hzi
      have hCC := Lib.hid (HC.out wc HB.out.2)
      have Hz := Lib.hid hz
      clear hz
      go_wp2_with fail
      refine hCC.out.mono ?_
      rintro q4 w14 ⟨v14, rfl, h14, hx14⟩
      obtain ⟨ng, sa, sn, sc, ta, tn, tc, rfl⟩ := h14.shape
      have hr4 := HB.out.1.ext hx14 id
      obtain ⟨d0, d1, d2, d3, d4, d5⟩ := hr4.facts
      have hp := hr4.put (neg := ng) (no_int sa sn sc) (no_int ta tn tc)
      have HR := Lib.hid (And.intro (hp.rat h14) (And.intro ((HB.out.2.trans hx14).own hp.ext (fun k e => by omega)) hp.box))
      clear hp hr4 h14 hx14
      go_wp2
      generalize ((w14.setCell ⟨r, 0, none⟩ (.bool ng)).setCell ⟨r, 1, none⟩ (.slice sa sn sc)).setCell ⟨r, 2, none⟩ (.slice ta tn tc) = w20 at *
      obtain ⟨g0, g1, g2, _⟩ := HR.out.2.2.facts
      exact bodyPost_ret (v := .agg #[.bool ng, .slice sa sn sc, .slice ta tn tc]) (by simp [results, Tryz.results67, go_sem, g0, g1, g2]) rfl ⟨_, rfl, HR.out.1, HR.out.2.1⟩
set_option maxRecDepth 100000 in
set_option maxHeartbeats 8000000 in
theorem rmul_any (w : World) (v v' : Value) (q q' : Rat) (L : Nat) (h : Rrat w v q L) (h' : Rrat w v' q' L) (h0 : 1 ≤ L) (hL : L ≤ 4194304) :
    Calls Tryz.prog 112 #[v, v'] w (RatPost w (q * q')) := by
  have HC := Lib.hid (fun W (hW : Ext (fun _ => False) w W) => cross_mul W v v' q q' L (h.keep hW) (h'.keep hW) h0 hL)
  obtain ⟨n1, a1, l1, c1, x1, y1, k1, l, d, rfl, hr, hd, hm, hdl, hq⟩ := h.open
  obtain ⟨n2, a2, l2, c2, x2, y2, k2, l', d', rfl, hr', hd', hm', hdl', hq'⟩ := h'.open
  have HI := Lib.hid (fun W (hW : Ext (fun _ => False) w W) => imul_any W _ _ _ _ L (hr.keep hW) (hr'.keep hW) (by omega))
  have hof := fun W neg mag (hz : y1 = 0 ∧ y2 = 0) (h : IsInt W (.agg #[.bool neg, mag]) (sg n1 (vl l) * sg n2 (vl l'))) => IsRat.ofInt h
  have he : y1 = 0 ∧ y2 = 0 → ((sg n1 (vl l) * sg n2 (vl l') : Int) : Rat) = q * q' := fun hz => by
    rw [hq, hq', rat_int (by omega), rat_int (by omega), Rat.intCast_mul]
  have Hof := Lib.hid (fun W neg mag (hz : y1 = 0 ∧ y2 = 0) (h : IsInt W (.agg #[.bool neg, mag]) (sg n1 (vl l) * sg n2 (vl l'))) => (he hz) ▸ IsRat.ofInt h)
  have b1l : y1 ≤ 4194304 := by omega
  have b2l : y2 ≤ 4194304 := by omega
  clear hr hr' hd hd' hdl hdl' hq hq' h h' hof he hm hm'
  generalize q * q' = Q at *
  generalize sg n1 (vl l) * sg n2 (vl l') = Z at *
  go_enter Tryz.func112, Tryz.ntmps112
  go_upto_region 0 with fail
  go_cut [2, 3, 4] (fun v1 v2 v3 wx => ∃ b1 b2 r, v1 = .pointer (some ⟨b1, 0, none⟩) ∧ v2 = .pointer (some ⟨b2, 0, none⟩) ∧ v3 = .pointer (some ⟨r, 0, none⟩) ∧ BoxR wx b1 n1 (.slice a1 l1 c1) (.slice x1 y1 k1) ∧ BoxR wx b2 n2 (.slice a2 l2 c2) (.slice x2 y2 k2) ∧ BoxR wx r false (.slice none 0 0) (.slice none 0 0) ∧ b1 < r ∧ b2 < r ∧ w.heap.size ≤ r ∧ Ext (fun _ => False) w wx)
  case first =>
    go_wp2
    go_meet
    exact ⟨_, _, _, rfl, rfl, rfl, ((boxR_new rfl n1 a1 l1 c1 x1 y1 k1).alloc _).alloc _, (boxR_new (by simp) n2 a2 l2 c2 x2 y2 k2).alloc _, boxR_new (by simp) false none 0 0 none 0 0, (by omega), (by omega), (by omega), (((Ext.refl _ w).alloc _).alloc _).alloc _⟩
  case rest =>
    obtain ⟨b1, b2, r, rfl, rfl, rfl, hb1, hb2, hrb, i1, i2, hle, hx⟩ := hcut
    obtain ⟨c0, c1', c2', _⟩ := hb1.facts
    obtain ⟨e0, e1, e2, _⟩ := hb2.facts
    have HB := Lib.hid (And.intro hrb hx)
    clear hb1 hb2 hrb hx
    by_cases hz : y1 = 0 ∧ y2 = 0
    · obtain ⟨rfl, rfl⟩ := hz
      have HI1 := Lib.hid (HI.out wc HB.out.2)
      go_wp2_with fail
      refine HI1.out.mono ?_
      rintro q4 w14 ⟨v14, rfl, h14, hx14⟩
      obtain ⟨ng, sa, sn, sc, rfl⟩ := h14.shape
      have hr4 := HB.out.1.ext hx14 id
      obtain ⟨d0, d1, d2, d3, d4, d5⟩ := hr4.facts
      have hp := hr4.put (neg := ng) (no_int sa sn sc) (no_int none 0 0)
      have HR := Lib.hid (And.intro (hp.rat (Hof.out _ _ _ (by simp) h14)) (And.intro ((HB.out.2.trans hx14).own hp.ext (fun k e => by omega)) hp.box))
      clear hp hr4 h14 hx14
      go_wp2
      generalize ((w14.setCell ⟨r, 0, none⟩ (.bool ng)).setCell ⟨r, 1, none⟩ (.slice sa sn sc)).setCell ⟨r, 2, none⟩ (.slice none 0 0) = w20 at *
      obtain ⟨g0, g1, g2, _⟩ := HR.out.2.2.facts
      exact bodyPost_ret (v := .agg #[.bool ng, .slice sa sn sc, .slice none 0 0]) (by simp [results, Tryz.results112, go_sem, g0, g1, g2]) rfl ⟨_, rfl, HR.out.1, HR.out.2.1⟩
    · have hzi : ¬ (y1 : Int) + y2 = 0 := by omega
      have hzb : ((y1 : Int) + y2 == 0) = false := by simpa using hzi
      have hCC := Lib.hid (HC.out wc HB.out.2)
      have Hz := Lib.hid hz
      clear hz
      go_wp2_with fail
      refine hCC.out.mono ?_
      rintro q4 w14 ⟨v14, rfl, h14, hx14⟩
      obtain ⟨ng, sa, sn, sc, ta, tn, tc, rfl⟩ := h14.shape
      have hr4 := HB.out.1.ext hx14 id
      obtain ⟨d0, d1, d2, d3, d4, d5⟩ := hr4.facts
      have hp := hr4.put (neg := ng) (no_int sa sn sc) (no_int ta tn tc)
      have HR := Lib.hid (And.intro (hp.rat h14) (And.intro ((HB.out.2.trans hx14).own hp.ext (fun k e => by omega)) hp.box))
      clear hp hr4 h14 hx14
      go_wp2
      generalize ((w14.setCell ⟨r, 0, none⟩ (.bool ng)).setCell ⟨r, 1, none⟩ (.slice sa sn sc)).setCell ⟨r, 2, none⟩ (.slice ta tn tc) = w20 at *
      obtain ⟨g0, g1, g2, _⟩ := HR.out.2.2.facts
      exact bodyPost_ret (v := .agg #[.bool ng, .slice sa sn sc, .slice ta tn tc]) (by simp [results, Tryz.results112, go_sem, g0, g1, g2]) rfl ⟨_, rfl, HR.out.1, HR.out.2.1⟩
theorem Sz.neg {q : Rat} {L : Nat} (h : Sz q L) : Sz (-q) L := ⟨by rw [Rat.neg_num, Int.natAbs_neg]; exact h.1, by rw [Rat.neg_den]; exact h.2⟩
theorem sz_mkRat {z : Int} {y L M : Nat} (hy : 0 < y) (hz : (dg z.natAbs).length ≤ L) (hd : (dg y).length ≤ L) (hM : L ≤ M) : Sz (mkRat z y) M := by
  have hg : 0 < y.gcd z.natAbs := Nat.gcd_pos_of_pos_left _ hy
  obtain ⟨k, h1, h2, _⟩ := div_gcd hg (Nat.gcd_dvd_right y z.natAbs)
  constructor
  · rw [Rat.num_mkRat, if_neg (by omega), h2]
    refine Nat.le_trans (dg_mono ?_) (Nat.le_trans hz hM)
    rw [h1, Int.natAbs_mul, Int.natAbs_natCast]
    exact Nat.le_mul_of_pos_left _ hg
  · rw [Rat.den_mkRat, if_neg (by omega)]
    exact Nat.le_trans (dg_mono (Nat.div_le_self _ _)) (Nat.le_trans hd hM)
theorem Rrat.sz {w : World} {v : Value} {q : Rat} {L : Nat} (h : Rrat w v q L) (h0 : 1 ≤ L) : Sz q L := by
  obtain ⟨n1, a1, l1, c1, x1, y1, k1, l, d, rfl, hr, hd, hm, hdl, hq⟩ := h.open
  rw [hq]
  exact sz_mkRat (dn_pos _) hr.len (dn_len hd hdl h0) (Nat.le_refl _)
theorem Rrat.mono {w : World} {v : Value} {q : Rat} {L M : Nat} (h : Rrat w v q L) (hl : L ≤ M) : Rrat w v q M := by
  obtain ⟨neg, mag, dv', l, d, h1, h2, h3, h4, h5, h6⟩ := h
  exact ⟨neg, mag, dv', l, d, h1, h2, Nat.le_trans h3 hl, h4, Nat.le_trans h5 hl, h6⟩
set_option maxRecDepth 100000 in
set_option maxHeartbeats 8000000 in
theorem rsub_any (w : World) (v v' : Value) (q q' : Rat) (L : Nat) (h : Rrat w v q L) (h' : Rrat w v' q' L) (h0 : 1 ≤ L) (hL : L ≤ 4194304) :
    Calls Tryz.prog 65 #[v, v'] w (RatPost w (q - q')) := by
  have HN := Lib.hid (fun W (hW : Ext (fun _ => False) w W) => rneg_any W v' q' L (h'.keep hW) h0 hL)
  have hsz := (h'.sz h0).neg
  have HA := Lib.hid (fun W (hW : Ext (fun _ => False) w W) u (hu : IsRat W u (-q')) => radd_any W v u q (-q') L (h.keep hW) (hu.reads hsz) h0 hL)
  rw [← Rat.sub_eq_add_neg] at HA
  obtain ⟨n1, a1, l1, c1, x1, y1, k1, l, d, rfl, hr, hd, hm, hdl, hq⟩ := h.open
  obtain ⟨n2, a2, l2, c2, x2, y2, k2, l', d', rfl, hr', hd', hm', hdl', hq'⟩ := h'.open
  clear hr hr' hd hd' hdl hdl' hq hq' h h' hm hm' hsz
  go_enter Tryz.func65, Tryz.ntmps65
  go_upto_region 0 with fail
  go_cut [2, 3, 4] (fun v1 v2 v3 wx => ∃ b1 b2 r, v1 = .pointer (some ⟨b1, 0, none⟩) ∧ v2 = .pointer (some ⟨b2, 0, none⟩) ∧ v3 = .pointer (some ⟨r, 0, none⟩) ∧ BoxR wx b1 n1 (.slice a1 l1 c1) (.slice x1 y1 k1) ∧ BoxR wx b2 n2 (.slice a2 l2 c2) (.slice x2 y2 k2) ∧ BoxR wx r false (.slice none 0 0) (.slice none 0 0) ∧ b1 < r ∧ b2 < r ∧ w.heap.size ≤ r ∧ Ext (fun _ => False) w wx)
  case first =>
    go_wp2
    go_meet
    exact ⟨_, _, _, rfl, rfl, rfl, ((boxR_new rfl n1 a1 l1 c1 x1 y1 k1).alloc _).alloc _, (boxR_new (by simp) n2 a2 l2 c2 x2 y2 k2).alloc _, boxR_new (by simp) false none 0 0 none 0 0, (by omega), (by omega), (by omega), (((Ext.refl _ w).alloc _).alloc _).alloc _⟩
  case rest =>
    obtain ⟨b1, b2, r, rfl, rfl, rfl, hb1, hb2, hrb, i1, i2, hle, hx⟩ := hcut
    have hS := SR2.of hb1 hb2
    have HB := Lib.hid (And.intro hb1 (And.intro hb2 (And.intro hrb hx)))
    clear hb1 hb2 hrb hx
    go_upto_region 1 with fail
    go_region_held3 (SR2 b1 b2 n1 n2 (.slice a1 l1 c1) (.slice x1 y1 k1) (.slice a2 l2 c2) (.slice x2 y2 k2))
      (repeat (first | (with_reducible assumption) | (with_reducible refine SR2.drew ?_) | (with_reducible refine SR2.set ?_ _ _ ?_ ?_) | (dsimp only; omega)))
      (first
        | (go_at_call 69; (with_reducible refine (HN.out _ HB.out.2.2.2.drew).mono ?_); rintro q1 w11 ⟨v11, rfl, h11, hx11⟩; have hX1 := (Ext.refl (fun _ => False) wc).drew.trans hx11; have hK1 := SR2.of (HB.out.1.ext hX1 id) (HB.out.2.1.ext hX1 id); have hA := HA.out w11 (HB.out.2.2.2.trans hX1) _ h11; obtain ⟨ng1, sa1, sn1, sc1, ta1, tn1, tc1, rfl⟩ := h11.shape)
        | (go_at_call 67; (with_reducible refine hA.mono ?_); rintro q4 w14 ⟨v14, rfl, h14, hx14⟩; have hX4 := hX1.trans hx14; have hK4 := SR2.of (HB.out.1.ext hX4 id) (HB.out.2.1.ext hX4 id); have hr4 := HB.out.2.2.1.ext hX4 id; obtain ⟨d0, d1, d2, d3, d4, d5⟩ := hr4.facts; obtain ⟨ng, sa, sn, sc, ta, tn, tc, rfl⟩ := h14.shape))
    have hp := hr4.put (neg := ng) (no_int sa sn sc) (no_int ta tn tc)
    have HR := Lib.hid (And.intro (hp.rat h14) (And.intro ((HB.out.2.2.2.trans hX4).own hp.ext (fun k e => by omega)) hp.box))
    clear hp hr4 h11 h14 hx11 hx14 hX1 hX4 hK1 hK4 hS hA d0 d1 d2 d3 d4 d5
    generalize ((w14.setCell ⟨r, 0, none⟩ (.bool ng)).setCell ⟨r, 1, none⟩ (.slice sa sn sc)).setCell ⟨r, 2, none⟩ (.slice ta tn tc) = w20 at *
    obtain ⟨g0, g1, g2, _⟩ := HR.out.2.2.facts
    go_wp2
    exact bodyPost_ret (v := .agg #[.bool ng, .slice sa sn sc, .slice ta tn tc]) (by simp [results, Tryz.results65, go_sem, g0, g1, g2]) rfl ⟨_, rfl, HR.out.1, HR.out.2.1⟩
set_option maxRecDepth 100000 in
set_option maxHeartbeats 8000000 in
theorem rcmp_any (w : World) (v v' : Value) (q q' : Rat) (L : Nat) (h : Rrat w v q L) (h' : Rrat w v' q' L) (h0 : 1 ≤ L) (hL : L ≤ 4194304) :
    Calls Tryz.prog 53 #[v, v'] w fun r w' => r = .returned (.int .i64 (q - q').num.sign) ∧ Ext (fun _ => False) w w' := by
  obtain ⟨n1, a1, l1, c1, x1, y1, k1, l, d, rfl, hr, hd, hm, hdl, hq⟩ := h.open
  obtain ⟨n2, a2, l2, c2, x2, y2, k2, l', d', rfl, hr', hd', hm', hdl', hq'⟩ := h'.open
  clear hm hm'
  have HD1 := Lib.hid (fun W (hW : Ext (fun _ => False) w W) => den_any W _ n1 a1 l1 c1 x1 y1 k1 d L rfl (hd.keep hW) hdl (by omega) h0)
  have HD2 := Lib.hid (fun W (hW : Ext (fun _ => False) w W) => den_any W _ n2 a2 l2 c2 x2 y2 k2 d' L rfl (hd'.keep hW) hdl' (by omega) h0)
  have HM1 := Lib.hid (fun W (hW : Ext (fun _ => False) w W) u hu => imul_any W _ u _ (dn (vl d') : Nat) L (hr.keep hW) hu (by omega))
  have HM2 := Lib.hid (fun W (hW : Ext (fun _ => False) w W) u hu => imul_any W _ u _ (dn (vl d) : Nat) L (hr'.keep hW) hu (by omega))
  have hdl1 : (dg (((dn (vl d) : Nat) : Int)).natAbs).length ≤ L := by rw [Int.natAbs_natCast]; exact dn_len hd hdl h0
  have hdl2 : (dg (((dn (vl d') : Nat) : Int)).natAbs).length ≤ L := by rw [Int.natAbs_natCast]; exact dn_len hd' hdl' h0
  have hz1 := len_mul hr.len hdl2
  have hz2 := len_mul hr'.len hdl1
  have HC := Lib.hid (fun W u u' (hu : IsInt W u (sg n1 (vl l) * ((dn (vl d') : Nat) : Int))) (hu' : IsInt W u' (sg n2 (vl l') * ((dn (vl d) : Nat) : Int))) => icmp_any W u u' _ _ (L + L) (hu.reads hz1) (hu'.reads hz2) (by omega))
  have hres : (q - q').num.sign = (sg n1 (vl l) * ((dn (vl d') : Nat) : Int) - sg n2 (vl l') * ((dn (vl d) : Nat) : Int)).sign := by
    rw [hq, hq', Rat.sub_eq_add_neg, Rat.neg_mkRat, Rat.mkRat_add_mkRat _ _ (Nat.ne_of_gt (dn_pos _)) (Nat.ne_of_gt (dn_pos _)), sign_mkRat _ (Nat.mul_pos (dn_pos _) (dn_pos _)), Int.neg_mul, ← Int.sub_eq_add_neg]
  rw [hres]
  clear hr hr' hd hd' hdl hdl' hq hq' h h' hres hdl1 hdl2 hz1 hz2
  generalize sg n1 (vl l) * ((dn (vl d') : Nat) : Int) = Z1 at *
  generalize sg n2 (vl l') * ((dn (vl d) : Nat) : Int) = Z2 at *
  generalize ((dn (vl d) : Nat) : Int) = D1 at *
  generalize ((dn (vl d') : Nat) : Int) = D2 at *
  generalize (Z1 - Z2).sign = S at *
  go_enter Tryz.func53, Tryz.ntmps53
  go_upto_region 0 with fail
  go_cut [2, 3] (fun v1 v2 wx => ∃ b1 b2, v1 = .pointer (some ⟨b1, 0, none⟩) ∧ v2 = .pointer (some ⟨b2, 0, none⟩) ∧ BoxR wx b1 n1 (.slice a1 l1 c1) (.slice x1 y1 k1) ∧ BoxR wx b2 n2 (.slice a2 l2 c2) (.slice x2 y2 k2) ∧ Ext (fun _ => False) w wx)
  case first =>
    go_wp2
    go_meet
    exact ⟨_, _, rfl, rfl, (boxR_new rfl n1 a1 l1 c1 x1 y1 k1).alloc _, boxR_new (by simp) n2 a2 l2 c2 x2 y2 k2, ((Ext.refl _ w).alloc _).alloc _⟩
  case rest =>
    obtain ⟨b1, b2, rfl, rfl, hb1, hb2, hx⟩ := hcut
    have hS := SR2.of hb1 hb2
    have HB := Lib.hid (And.intro hb1 (And.intro hb2 hx))
    clear hb1 hb2 hx
    go_upto_region 1 with fail
    go_region_held3 (SR2 b1 b2 n1 n2 (.slice a1 l1 c1) (.slice x1 y1 k1) (.slice a2 l2 c2) (.slice x2 y2 k2))
      (repeat (first | (with_reducible assumption) | (with_reducible refine SR2.drew ?_)))
      (first
        | (go_at_call 102; (with_reducible refine (HD2.out _ HB.out.2.2.drew).mono ?_); rintro q1 w11 ⟨v11, rfl, h11, hx11⟩; have hX1 := (Ext.refl (fun _ => False) wc).drew.trans hx11; have hK1 := SR2.of (HB.out.1.ext hX1 id) (HB.out.2.1.ext hX1 id); have hM1 := HM1.out w11 (HB.out.2.2.trans hX1) _ h11; obtain ⟨ng1, ag1, lg1, cg1, rfl⟩ := h11.shape)
        | (go_at_call 101; (with_reducible refine hM1.mono ?_); rintro q2 w12 ⟨v12, rfl, h12, hx12⟩; have hX2 := hX1.trans hx12; have hK2 := SR2.of (HB.out.1.ext hX2 id) (HB.out.2.1.ext hX2 id); obtain ⟨ng2, ag2, lg2, cg2, rfl⟩ := h12.shape)
        | (go_at_call 102; (with_reducible refine (HD1.out _ (HB.out.2.2.trans hX2)).mono ?_); rintro q3 w13 ⟨v13, rfl, h13, hx13⟩; have hX3 := hX2.trans hx13; have hK3 := SR2.of (HB.out.1.ext hX3 id) (HB.out.2.1.ext hX3 id); have hM2 := HM2.out w13 (HB.out.2.2.trans hX3) _ h13; obtain ⟨ng3, ag3, lg3, cg3, rfl⟩ := h13.shape)
        | (go_at_call 101; (with_reducible refine hM2.mono ?_); rintro q4 w14 ⟨v14, rfl, h14, hx14⟩; have hX4 := hX3.trans hx14; have hK4 := SR2.of (HB.out.1.ext hX4 id) (HB.out.2.1.ext hX4 id); have hC := HC.out w14 _ _ (h12.keep (hx13.trans hx14)) h14; obtain ⟨ng4, ag4, lg4, cg4, rfl⟩ := h14.shape)
        | (go_at_call 100; (with_reducible refine hC.mono ?_); rintro q5 w15 ⟨rfl, hx15⟩; have hX5 := hX4.trans hx15; have hK5 := SR2.of (HB.out.1.ext hX5 id) (HB.out.2.1.ext hX5 id)))
    have HX := Lib.hid (HB.out.2.2.trans hX5)
    clear h11 h12 h13 h14 hx11 hx12 hx13 hx14 hx15 hX1 hX2 hX3 hX4 hX5 hK1 hK2 hK3 hK4 hK5 hS hM1 hM2 hC
    go_wp2
    go_ret
    exact ⟨rfl, HX.out⟩
end Go.Proofs.YtbgienfcmdgaaaaGreat
/-
  Package exodusref01: digit, Trim, Same, From. Conditions: the arguments read as digits, lengths bounded.
-/
namespace Go.Proofs.YtbgienfcmdgaaaaGreat
open Go.RowKit Go.MapKept
open Go.ChangeMaps (setBlock)

set_option maxRecDepth 100000 in
set_option maxHeartbeats 1000000 in
theorem Rdigit_any (w : World) (v : Value) (l : List Nat) (h : Rds w v l) (i : Nat) (hi : i ≤ 9223372036854775807) : Calls Tryz.prog 169 #[v, .int .i64 i] w fun r w' => r = .returned (.int .u64 (dgt l i)) ∧ w' = w := by
  have h' := h
  obtain ⟨hd, ao, c, rfl, h1, h2, h3, h4⟩ := h'
  obtain ⟨m, hm⟩ : ∃ m, l.length = m := ⟨_, rfl⟩
  have hmx : m ≤ 9223372036854775807 := by unfold maxLen at h2; omega
  by_cases hlt : i < l.length
  · obtain ⟨b, off, rfl, hb, hc⟩ := h4 (by omega)
    have c0 := hc i l[i] (List.getElem?_eq_getElem hlt)
    unfold dv at c0
    rw [dgt_in hlt]
    have hdi := hd.get i hlt
    rw [hm] at hlt ⊢
    clear hc h h3 h4
    generalize l[i] = d at *
    have i0 : (0 : Int) ≤ (i : Int) := by omega
    have i1 : (i : Int) < (m : Int) := by omega
    have hw : IntKind.u64.wrap (d : Int) = d := IntWalk.u64_in _ (by omega)
    go_enter Tryz.func169, Tryz.ntmps169
    go_wp2
    go_ret
    exact ⟨ret_int (by omega), rfl⟩
  · rw [dgt_out (by omega)]
    rw [hm] at hlt ⊢
    have i1 : (m : Int) ≤ (i : Int) := by omega
    clear h h3 h4
    go_enter Tryz.func169, Tryz.ntmps169
    go_wp2
    go_ret
    exact ⟨rfl, rfl⟩
/-- a result in new memory -/
def NatNew (w : World) (n : Nat) (r : Ending) (w' : World) : Prop := ∃ v, r = .returned v ∧ IsNat w' v n ∧ Ext (fun _ => False) w w' ∧ ∀ g, v.ownBlock = some g → w.heap.size ≤ g
theorem NatNew.post {w w' : World} {n : Nat} {r : Ending} (h : NatNew w n r w') : NatPost w n r w' := h.imp fun _ h => ⟨h.1, h.2.1, h.2.2.1⟩
set_option maxRecDepth 100000 in
set_option maxHeartbeats 2000000 in
theorem Trim_new (w : World) (v : Value) (l : List Nat) (h : Rds w v l) (hl : l.length ≤ 1073741824) : Calls Tryz.prog 127 #[v] w (NatNew w (vl l)) := by
  have h' := h
  obtain ⟨hd, ao, c, rfl, h1, h2, h3, h4⟩ := h'
  obtain ⟨m, hm⟩ : ∃ m, l.length = m := ⟨_, rfl⟩
  have hmx : m ≤ 1073741824 := by omega
  rw [hm] at h h1 h4 ⊢
  obtain ⟨i0, hi, hz0, hz1, hz2⟩ := info_parts Tryz.infoU32
  have Hi := Lib.hid (And.intro hi (And.intro hz0 (And.intro hz1 hz2)))
  have H := Lib.hid h
  have H4 := Lib.hid h4
  have Hm := Lib.hid hm
  have Hd := Lib.hid hd
  clear h h4 hm hd hi hz0 hz1 hz2 hl
  go_enter Tryz.func127, Tryz.ntmps127
  go_wp2_with fail
  go_loopg [3] m (fun g v3 wr => ∃ n : Nat, n ≤ m ∧ g = n ∧ v3 = .int .i64 n ∧ wr = w ∧ ∀ i, n ≤ i → (hi : i < l.length) → l[i] = 0)
  case atStart => exact ⟨m, Nat.le_refl _, rfl, rfl, rfl, fun i hi hl => by have := Hm.out; omega⟩
  case round =>
    obtain ⟨n, hn, hg, rfl, hwr, hz⟩ := hrel
    obtain rfl := hg.symm
    obtain rfl := hwr.symm
    by_cases h0 : n = 0 ∨ ∃ hlt : n - 1 < l.length, l[n - 1] ≠ 0
    · have hT := trim_take Hd.out (by have := Hm.out; omega) hz h0
      have hx1 : Ext (fun _ => False) w (w.alloc (.cells #[] 127)) := (Ext.refl _ w).alloc _
      have hb1 : blk (w.alloc (.cells #[] 127)) w.heap.size = some (.cells #[] 127 (0, 0)) := blk_alloc_at _ _
      have HR := Lib.hid ((H.out.head n hn).keep hx1).lies
      have HT := Lib.hid hT
      have HX1 := Lib.hid hx1
      have HB1 := Lib.hid hb1
      have hlen : (l.take n).length = n := by rw [List.length_take]; have := Hm.out; omega
      have HL := Lib.hid hlen
      have HV : Hid (∀ W, IsNat W = IsNat W) := Lib.hid (fun _ => rfl)
      have hni : (n : Int) ≤ (m : Int) := by omega
      have hnc : (n : Int) ≤ (c : Int) := by omega
      have H0 := Lib.hid h0
      clear hz hT hx1 hb1 hlen h0
      have hcase : n = 0 ∨ (0 < n ∧ ∃ b off dj, ao = some ⟨b, off, none⟩ ∧ w.cell? ⟨b, off + (n - 1), none⟩ = some (.int .u32 (dj : Nat)) ∧ ¬ dj = 0) := by
        rcases H0.out with h | ⟨hlt, hne⟩
        · exact .inl h
        · rcases Nat.eq_zero_or_pos n with h | h
          · exact .inl h
          · obtain ⟨b, off, rfl, hb, hc⟩ := H4.out (by omega)
            exact .inr ⟨h, b, off, l[n - 1], rfl, hc (n - 1) _ (List.getElem?_eq_getElem hlt), hne⟩
      clear H0
      rcases hcase with rfl | ⟨hn0, b, off, dj, rfl, cj, hdj⟩
      · cases ao with
        | none =>
          obtain rfl := h3 rfl
          go_wp2_with (at_builtin; refine wpList_append_any rfl (.tmp 18) (.tmp 21) 27 rfl w.heap.size 127 i0 _ 1 4 Tryz.underlying27 Hi.out.1 Hi.out.2.1 Hi.out.2.2.1 Hi.out.2.2.2 rfl (by decide) _ 0 [] rfl (ownsRow_empty 1 (Nat.le_refl _) HB1.out) _ _ _ (fun _ => rfl) _ rfl (by rw [List.length_map, HL.out, Nat.mul_one]) HR.out (dv_one _) (by simp only [maxLen]; omega) (by omega) (by simp) ?_; intro v5 w5 hown5 hgrow5 hat5; have HO : Hid (NatNew w (vl l) (.returned v5) w5) := Lib.hid (by
            have ho : Own w5 w.heap.size v5 (l.take 0) := by unfold Own; rw [HL.out]; simpa using hown5
            have hr := ho.rds (Hd.out.take _)
            rw [HT.out] at hr
            exact ⟨v5, rfl, hr, HX1.out.own ((Ext.refl (fun k => w.heap.size = k) _).grown hgrow5 (fun k e _ => Option.some.inj e)) (fun k e => Nat.le_of_eq e), ho.ge⟩); clear hown5 hgrow5 hat5)
          go_wp2
          go_ret
          exact HO.out
        | some ad =>
          go_wp2_with (at_builtin; refine wpList_append_any rfl (.tmp 18) (.tmp 21) 27 rfl w.heap.size 127 i0 _ 1 4 Tryz.underlying27 Hi.out.1 Hi.out.2.1 Hi.out.2.2.1 Hi.out.2.2.2 rfl (by decide) _ 0 [] rfl (ownsRow_empty 1 (Nat.le_refl _) HB1.out) _ _ _ (fun e => by cases e) _ rfl (by rw [List.length_map, HL.out, Nat.mul_one]) HR.out (dv_one _) (by simp only [maxLen]; omega) (by omega) (by simp) ?_; intro v5 w5 hown5 hgrow5 hat5; have HO : Hid (NatNew w (vl l) (.returned v5) w5) := Lib.hid (by
            have ho : Own w5 w.heap.size v5 (l.take 0) := by unfold Own; rw [HL.out]; simpa using hown5
            have hr := ho.rds (Hd.out.take _)
            rw [HT.out] at hr
            exact ⟨v5, rfl, hr, HX1.out.own ((Ext.refl (fun k => w.heap.size = k) _).grown hgrow5 (fun k e _ => Option.some.inj e)) (fun k e => Nat.le_of_eq e), ho.ge⟩); clear hown5 hgrow5 hat5)
          go_wp2
          go_ret
          exact HO.out
      · obtain ⟨j, rfl⟩ : ∃ j, n = j + 1 := ⟨n - 1, by omega⟩
        rw [Nat.add_sub_cancel] at cj
        have hjm : (j : Int) < (m : Int) := by omega
        have p0 : (0 : Int) < ((j + 1 : Nat) : Int) := by omega
        have p1 : ((j + 1 : Nat) : Int) - 1 = j := by omega
        have hz1 : ¬ (dj : Int) = 0 := by omega
        go_wp2_with (at_builtin; refine wpList_append_any rfl (.tmp 18) (.tmp 21) 27 rfl w.heap.size 127 i0 _ 1 4 Tryz.underlying27 Hi.out.1 Hi.out.2.1 Hi.out.2.2.1 Hi.out.2.2.2 rfl (by decide) _ 0 [] rfl (ownsRow_empty 1 (Nat.le_refl _) HB1.out) _ _ _ (fun e => by cases e) _ rfl (by rw [List.length_map, HL.out, Nat.mul_one]) HR.out (dv_one _) (by simp only [maxLen]; omega) (by omega) (by simp) ?_; intro v5 w5 hown5 hgrow5 hat5; have HO : Hid (NatNew w (vl l) (.returned v5) w5) := Lib.hid (by
          have ho : Own w5 w.heap.size v5 (l.take (j + 1)) := by unfold Own; rw [HL.out]; simpa using hown5
          have hr := ho.rds (Hd.out.take _)
          rw [HT.out] at hr
          exact ⟨v5, rfl, hr, HX1.out.own ((Ext.refl (fun k => w.heap.size = k) _).grown hgrow5 (fun k e _ => Option.some.inj e)) (fun k e => Nat.le_of_eq e), ho.ge⟩); clear hown5 hgrow5 hat5)
        go_wp2
        go_ret
        exact HO.out
    · obtain ⟨j, rfl⟩ : ∃ j, n = j + 1 := ⟨n - 1, by
        rcases Nat.eq_zero_or_pos n with h | h
        · exact absurd (.inl h) h0
        · omega⟩
      have hj : j < l.length := by have := Hm.out; omega
      have hz0 : l[j] = 0 := by
        by_cases h : l[j] = 0
        · exact h
        · exact absurd (.inr ⟨by omega, by simpa using h⟩) h0
      obtain ⟨b, off, rfl, hb, hc⟩ := H4.out (by omega)
      have c0 := hc j l[j] (List.getElem?_eq_getElem hj)
      unfold dv at c0
      rw [hz0] at c0
      have p0 : (0 : Int) < ((j + 1 : Nat) : Int) := by omega
      have p1 : ((j + 1 : Nat) : Int) - 1 = j := by omega
      have Hz := Lib.hid hz
      have Hz0 := Lib.hid hz0
      clear hc hz hz0 h0
      go_wp2
      go_roundg j
      case measure => omega
      case rel => exact ⟨j, by omega, rfl, by go_num, rfl, fun i hi hl => by
        by_cases e : i = j
        · subst e; exact Hz0.out
        · exact Hz.out i (by omega) hl⟩
theorem Trim_any (w : World) (v : Value) (l : List Nat) (h : Rds w v l) (hl : l.length ≤ 1073741824) : Calls Tryz.prog 127 #[v] w (NatPost w (vl l)) := (Trim_new w v l h hl).mono fun _ _ h => h.post
set_option maxRecDepth 100000 in
set_option maxHeartbeats 1000000 in
theorem Rfrom_any (w : World) (n : Nat) (hn : n < 18446744073709551616) : Calls Tryz.prog 133 #[.int .u64 n] w (NatPost w n) := by
  have hx1 : Ext (fun _ => False) w (w.alloc (.cells #[.int .u32 ((n : Int) % 4294967296), .int .u32 ((n : Int) / 4294967296)] 127)) := (Ext.refl _ w).alloc _
  have hr : Rds (w.alloc (.cells #[.int .u32 ((n : Int) % 4294967296), .int .u32 ((n : Int) / 4294967296)] 127)) (.slice (some ⟨w.heap.size, 0, none⟩) 2 2) [n % 4294967296, n / 4294967296] := by
    refine ⟨Dig.cons (by omega) (Dig.cons (by omega) Dig.nil), _, 2, rfl, Nat.le_refl _, by unfold maxLen; omega, fun h => (by cases h), fun _ => ⟨_, 0, rfl, by simp, fun i d hi => ?_⟩⟩
    have := cells_new (w := w) [.int .u32 ((n : Int) % 4294967296), .int .u32 ((n : Int) / 4294967296)] 127 rfl i (dv d) (by
      match i, hi with
      | 0, hi => simp at hi ⊢; subst hi; simp [dv]
      | 1, hi => simp at hi ⊢; subst hi; simp [dv]
      | i + 2, hi => simp at hi)
    rwa [Addr.add_lit] at this
  have hf := Trim_any _ _ _ hr (by simp)
  rw [show vl [n % 4294967296, n / 4294967296] = n by simp [vl]; omega] at hf
  have H := Lib.hid hf
  have HX := Lib.hid hx1
  clear hf hr hx1
  go_enter Tryz.func133, Tryz.ntmps133
  go_wp2_with fail
  refine H.out.mono ?_
  rintro r w' ⟨v, rfl, h1, h2⟩
  have HP : Hid (NatPost w n (.returned v) w') := Lib.hid ⟨v, rfl, h1, HX.out.trans h2⟩
  clear h1 h2
  go_wp2
  go_ret
  exact HP.out
theorem list_ext_dgt {a b : List Nat} (hl : a.length = b.length) (h : ∀ j, j < a.length → dgt a j = dgt b j) : a = b := by
  apply List.ext_getElem hl
  intro i h1 h2
  have := h i h1
  rwa [dgt_in h1, dgt_in h2] at this
set_option maxRecDepth 100000 in
set_option maxHeartbeats 2000000 in
theorem Same_any (w : World) (va vb : Value) (a b : List Nat) (ha : Rds w va a) (hb : Rds w vb b) (hal : a.length ≤ 1073741824) (hbl : b.length ≤ 1073741824) :
    Calls Tryz.prog 97 #[va, vb] w fun r w' => r = .returned (.bool (decide (a = b))) ∧ Ext (fun _ => False) w w' := by
  obtain ⟨ao, ac, rfl, _⟩ := id ha.2
  obtain ⟨bo, bc, rfl, _⟩ := id hb.2
  by_cases hl : a.length = b.length
  · obtain ⟨m, hm⟩ : ∃ m, a.length = m := ⟨_, rfl⟩
    rw [← hl, hm]
    have Ha := Lib.hid ha
    have Hb := Lib.hid hb
    have Hm := Lib.hid (And.intro hm hl)
    have hml : m ≤ 1073741824 := by omega
    clear ha hb hl hm hal hbl
    rw [Hm.out.1] at Ha
    rw [← Hm.out.2, Hm.out.1] at Hb
    obtain ⟨D, hD⟩ : ∃ D, decide (a = b) = D := ⟨_, rfl⟩
    rw [hD]
    have HD := Lib.hid hD
    clear hD
    go_enter Tryz.func97, Tryz.ntmps97
    go_wp2_with fail
    go_loopg [5] m (fun g v5 wr => ∃ i : Nat, i ≤ m ∧ g = m - i ∧ v5 = .int .i64 i ∧ (∀ j, j < i → dgt a j = dgt b j) ∧ Ext (fun _ => False) w wr)
    case atStart => exact ⟨0, Nat.zero_le _, rfl, rfl, fun j hj => absurd hj (Nat.not_lt_zero _), Ext.refl _ _⟩
    case round =>
      obtain ⟨i, hi, rfl, rfl, hs, hx⟩ := hrel
      by_cases him : i < m
      · have hia : i < a.length := by have := Hm.out.1; omega
        have hib : i < b.length := by have := Hm.out.2; omega
        obtain ⟨b1, o1, rfl, _⟩ := Ha.out.base (by have := Hm.out.1; omega)
        obtain ⟨b2, o2, rfl, _⟩ := Hb.out.base (by have := Hm.out; omega)
        have c0 := (Ha.out.keep hx).at.2 i hia
        have c1 := (Hb.out.keep hx).at.2 i hib
        have Hs := Lib.hid hs
        have HX := Lib.hid hx
        have HXN := Lib.hid (fun N => hx.drewN N)
        obtain ⟨x, hxe⟩ : ∃ x, dgt a i = x := ⟨_, rfl⟩
        obtain ⟨y, hye⟩ : ∃ y, dgt b i = y := ⟨_, rfl⟩
        rw [hxe] at c0
        rw [hye] at c1
        have Hxy := Lib.hid (And.intro hxe hye)
        have e0 : (0 : Int) ≤ (i : Int) := by omega
        have e1 : (i : Int) < (m : Int) := by omega
        clear hs hx hxe hye hia hib
        by_cases hxy : x = y
        · subst hxy
          go_upto_region 6 with fail
          go_quiet (fail)
          go_wp2
          go_roundg (m - (i + 1))
          case measure => omega
          case rel => exact ⟨i + 1, by omega, rfl, by go_num, fun j hj => by
            by_cases e : j = i
            · subst e; rw [Hxy.out.1, Hxy.out.2]
            · exact Hs.out j (by omega), HXN.out _⟩
        · have hne : ¬ (x : Int) = y := by omega
          have hbe : ((x : Int) == y) = false := by simpa using hne
          have hDf : D = false := by
            rw [← HD.out]
            refine decide_eq_false (fun h => hxy ?_)
            rw [← Hxy.out.1, ← Hxy.out.2, h]
          subst hDf
          go_upto_region 6 with fail
          go_quiet (fail)
          go_wp2
          go_ret
          exact ⟨rfl, HXN.out _⟩
      · obtain rfl : i = m := by omega
        have hDt : D = true := by
          rw [← HD.out]
          refine decide_eq_true (list_ext_dgt Hm.out.2 (fun j hj => hs j (by have := Hm.out.1; omega)))
        subst hDt
        have HX := Lib.hid hx
        clear hs hx
        go_wp2
        go_ret
        exact ⟨rfl, HX.out⟩
  · have hne : ¬ (a.length : Int) = b.length := by omega
    have hbe : ((a.length : Int) == b.length) = false := by simpa using hne
    rw [decide_eq_false (fun h => hl (by rw [h]))]
    clear ha hb
    generalize a.length = la at *
    generalize b.length = lb at *
    go_enter Tryz.func97, Tryz.ntmps97
    go_wp2
    go_ret
    exact ⟨rfl, Ext.refl _ _⟩
end Go.Proofs.YtbgienfcmdgaaaaGreat
/-
  Package exodusref01: Add, Cmp. Conditions: the arguments read as digits, lengths bounded.
-/
namespace Go.Proofs.YtbgienfcmdgaaaaGreat
open Go.RowKit Go.MapKept
open Go.ChangeMaps (setBlock)

theorem one_one (d : Int) : ∀ u ∈ [Value.int .u32 d], u.oneCell' = true := fun u hu => by
  rw [List.mem_singleton.1 hu]; rfl
theorem own_empty {w : World} {g : Nat} (h : blk w g = some (.cells #[] 127 (0, 0))) (base : Nat) (hb : base ≤ g) : Own w base (.slice (some ⟨g, 0, none⟩) 0 0) [] := ownsRow_empty 1 hb h
theorem AddSt.all {a b : List Nat} {i : Nat} {o : List Nat} {c : Nat} (h : AddSt a b i o c) (ha : a.length ≤ i) (hb : b.length ≤ i) : vl (o ++ [c]) = vl a + vl b ∧ Dig (o ++ [c]) := by
  have h4 := h.val
  rw [vl_take_all ha, vl_take_all hb] at h4
  refine ⟨by rw [vl_snoc, h.len, h4], h.dig.snoc (by have := h.car; omega)⟩
set_option maxRecDepth 100000 in
set_option maxHeartbeats 4000000 in
theorem Radd_new (w : World) (va vb : Value) (a b : List Nat) (ha : Rds w va a) (hb : Rds w vb b) (hal : a.length ≤ 536870911) (hbl : b.length ≤ 536870911) :
    Calls Tryz.prog 130 #[va, vb] w (NatNew w (vl a + vl b)) := by
  obtain ⟨aao, ac, rfl, _⟩ := id ha.2
  obtain ⟨bbo, bc, rfl, _⟩ := id hb.2
  obtain ⟨m, hm⟩ : ∃ m, max a.length b.length = m := ⟨_, rfl⟩
  have hma : a.length ≤ m := by omega
  have hmb : b.length ≤ m := by omega
  have hmx : m ≤ 536870911 := by omega
  have hcs : a.length = m ∨ b.length = m := by omega
  obtain ⟨i0, hi, hz0, hz1, hz2⟩ := info_parts Tryz.infoU32
  have Hi := Lib.hid (And.intro hi (And.intro hz0 (And.intro hz1 hz2)))
  have Ha := Lib.hid ha
  have Hb := Lib.hid hb
  have HM := Lib.hid (And.intro hma hmb)
  clear hi hz0 hz1 hz2 ha hb hal hbl hm
  generalize hna : a.length = na at *
  generalize hnb : b.length = nb at *
  have HN := Lib.hid (And.intro hna hnb)
  clear hna hnb
  have hb0 : blk (w.alloc (.cells #[] 127)) w.heap.size = some (.cells #[] 127 (0, 0)) := blk_alloc_at _ _
  have HI := Lib.hid (And.intro (own_empty hb0 w.heap.size (Nat.le_refl _)) ((Ext.refl (fun _ => False) w).alloc (.cells #[] 127)))
  clear hb0
  go_enter Tryz.func130, Tryz.ntmps130
  go_wp2_with fail
  go_loopg [5, 6, 7] m (fun g v5 v6 v7 wr => ∃ (i : Nat) (o : List Nat) (c : Nat), i ≤ m ∧ g = m - i ∧ v7 = .int .i64 i ∧ v6 = .int .u64 c ∧ AddSt a b i o c ∧ Own wr w.heap.size v5 o ∧ Ext (fun _ => False) w wr)
  case atStart => exact ⟨0, [], 0, Nat.zero_le _, rfl, rfl, rfl, AddSt.zero a b, HI.out.1, HI.out.2⟩
  case round =>
    obtain ⟨i, o, c, hi, rfl, rfl, rfl, hst, ho, hx⟩ := hrel
    clear HI
    by_cases hia : i < na
    · have hlti : i < m := by omega
      have hia' : (i : Int) < (na : Int) := by omega
      obtain ⟨S, hS⟩ : ∃ S, dgt a i + dgt b i + c = S := ⟨_, rfl⟩
      have Hda := Lib.hid (Rdigit_any wr _ a (Ha.out.keep hx) i (by omega))
      have Hdb := Lib.hid (Rdigit_any wr _ b (Hb.out.keep hx) i (by omega))
      have hst2 := hst.step Ha.out.1 Hb.out.1
      have hlen := hst.len
      have l1 := dgt_lt Ha.out.1 i
      have l2 := dgt_lt Hb.out.1 i
      have l3 := hst.car
      rw [hS] at hst2
      obtain ⟨D, hD⟩ : ∃ D, S % 4294967296 = D := ⟨_, rfl⟩
      obtain ⟨E, hE⟩ : ∃ E, S / 4294967296 = E := ⟨_, rfl⟩
      rw [hD, hE] at hst2
      obtain ⟨ao, cap, rfl⟩ := ho.shape
      generalize hX : dgt a i = X at *
      generalize hY : dgt b i = Y at *
      obtain ⟨S1, hS1⟩ : ∃ S1, c + X = S1 := ⟨_, rfl⟩
      have q1 : (c : Int) + X = S1 := by omega
      have q2 : (S1 : Int) + Y = S := by omega
      have q3 : (S : Int) % 4294967296 = D := by omega
      have q4 : (S : Int) / 4294967296 = E := by omega
      have hS1l : S1 < 18446744073709551616 := by omega
      have hSl : S < 18446744073709551616 := by omega
      have Hst := Lib.hid hst2
      have Ho := Lib.hid ho
      have Hx := Lib.hid hx
      rw [hlen]
      have Hlen := Lib.hid hlen
      clear hst hst2 ho hx hX hY hS hD hE hS1
      go_wp2_with fail
      refine Hda.out.mono ?_
      rintro r w' ⟨rfl, hw⟩; obtain rfl := hw.symm
      go_wp2_with fail
      refine Hdb.out.mono ?_
      rintro r w' ⟨rfl, hw⟩; obtain rfl := hw.symm
      have hx1 : Ext (fun _ => False) wr (wr.alloc (.cells #[.int .u32 (D : Int)] 127)) := (Ext.refl _ wr).alloc _
      have HX1 := Lib.hid hx1
      have HO1 : Hid ((wr.alloc (.cells #[.int .u32 (D : Int)] 127)).ownsRow w.heap.size 127 1 (.slice ao i cap) i (o.map dv)) := Lib.hid (by have := Ho.out.keep hx1; unfold Own at this; rw [hlen] at this; exact this)
      have HG := Lib.hid (row_ge HO1.out)
      clear hx1 Hda Hdb hw hlen
      go_wp2_with (at_builtin; refine wpList_append_any rfl (.tmp 30) (.tmp 33) 27 rfl w.heap.size 127 i0 _ 1 4 Tryz.underlying27 Hi.out.1 Hi.out.2.1 Hi.out.2.2.1 Hi.out.2.2.2 rfl (by decide) _ _ _ rfl HO1.out _ 1 1 (fun e => by cases e) [.int .u32 (D : Int)] rfl rfl (.inr ⟨_, rfl, cells_new [.int .u32 (D : Int)] _ rfl⟩) (one_one _) (by simp only [maxLen]; omega) (by omega) (Nat.le_trans Hx.out.size HX1.out.size) ?_; intro v5 w5 hown5 hgrow5 hat5; have HO : Hid (Own w5 w.heap.size v5 (o ++ [D])) := Lib.hid (own_app Hlen.out hown5); have HX : Hid (Ext (fun _ => False) w w5) := Lib.hid ((Hx.out.trans HX1.out).grown hgrow5 (fun k e h => absurd (HG.out k e) (by omega))); clear hown5 hgrow5 hat5)
      go_wp2
      go_roundg (m - (i + 1))
      case measure => omega
      case rel => exact ⟨i + 1, _, _, by omega, rfl, by go_num, rfl, Hst.out, HO.out, HX.out⟩
    · by_cases hib : i < nb
      · have hlti : i < m := by omega
        have hib' : (i : Int) < (nb : Int) := by omega
        have hia' : ¬ (i : Int) < (na : Int) := by omega
        obtain ⟨S, hS⟩ : ∃ S, dgt a i + dgt b i + c = S := ⟨_, rfl⟩
        have Hda := Lib.hid (Rdigit_any wr _ a (Ha.out.keep hx) i (by omega))
        have Hdb := Lib.hid (Rdigit_any wr _ b (Hb.out.keep hx) i (by omega))
        have hst2 := hst.step Ha.out.1 Hb.out.1
        have hlen := hst.len
        have l1 := dgt_lt Ha.out.1 i
        have l2 := dgt_lt Hb.out.1 i
        have l3 := hst.car
        rw [hS] at hst2
        obtain ⟨D, hD⟩ : ∃ D, S % 4294967296 = D := ⟨_, rfl⟩
        obtain ⟨E, hE⟩ : ∃ E, S / 4294967296 = E := ⟨_, rfl⟩
        rw [hD, hE] at hst2
        obtain ⟨ao, cap, rfl⟩ := ho.shape
        generalize hX : dgt a i = X at *
        generalize hY : dgt b i = Y at *
        obtain ⟨S1, hS1⟩ : ∃ S1, c + X = S1 := ⟨_, rfl⟩
        have q1 : (c : Int) + X = S1 := by omega
        have q2 : (S1 : Int) + Y = S := by omega
        have q3 : (S : Int) % 4294967296 = D := by omega
        have q4 : (S : Int) / 4294967296 = E := by omega
        have hS1l : S1 < 18446744073709551616 := by omega
        have hSl : S < 18446744073709551616 := by omega
        have Hst := Lib.hid hst2
        have Ho := Lib.hid ho
        have Hx := Lib.hid hx
        rw [hlen]
        have Hlen := Lib.hid hlen
        clear hst hst2 ho hx hX hY hS hD hE hS1
        go_wp2_with fail
        refine Hda.out.mono ?_
        rintro r w' ⟨rfl, hw⟩; obtain rfl := hw.symm
        go_wp2_with fail
        refine Hdb.out.mono ?_
        rintro r w' ⟨rfl, hw⟩; obtain rfl := hw.symm
        have hx1 : Ext (fun _ => False) wr (wr.alloc (.cells #[.int .u32 (D : Int)] 127)) := (Ext.refl _ wr).alloc _
        have HX1 := Lib.hid hx1
        have HO1 : Hid ((wr.alloc (.cells #[.int .u32 (D : Int)] 127)).ownsRow w.heap.size 127 1 (.slice ao i cap) i (o.map dv)) := Lib.hid (by have := Ho.out.keep hx1; unfold Own at this; rw [hlen] at this; exact this)
        have HG := Lib.hid (row_ge HO1.out)
        clear hx1 Hda Hdb hw hlen
        go_wp2_with (at_builtin; refine wpList_append_any rfl (.tmp 30) (.tmp 33) 27 rfl w.heap.size 127 i0 _ 1 4 Tryz.underlying27 Hi.out.1 Hi.out.2.1 Hi.out.2.2.1 Hi.out.2.2.2 rfl (by decide) _ _ _ rfl HO1.out _ 1 1 (fun e => by cases e) [.int .u32 (D : Int)] rfl rfl (.inr ⟨_, rfl, cells_new [.int .u32 (D : Int)] _ rfl⟩) (one_one _) (by simp only [maxLen]; omega) (by omega) (Nat.le_trans Hx.out.size HX1.out.size) ?_; intro v5 w5 hown5 hgrow5 hat5; have HO : Hid (Own w5 w.heap.size v5 (o ++ [D])) := Lib.hid (own_app Hlen.out hown5); have HX : Hid (Ext (fun _ => False) w w5) := Lib.hid ((Hx.out.trans HX1.out).grown hgrow5 (fun k e h => absurd (HG.out k e) (by omega))); clear hown5 hgrow5 hat5)
        go_wp2
        go_roundg (m - (i + 1))
        case measure => omega
        case rel => exact ⟨i + 1, _, _, by omega, rfl, by go_num, rfl, Hst.out, HO.out, HX.out⟩
      · have hia' : ¬ (i : Int) < (na : Int) := by omega
        have hib' : ¬ (i : Int) < (nb : Int) := by omega
        have hall := hst.all (by have := HN.out; omega) (by have := HN.out; omega)
        have hlen := hst.len
        have l3 := hst.car
        obtain ⟨ao, cap, rfl⟩ := ho.shape
        have Hall := Lib.hid hall
        have Ho := Lib.hid ho
        have Hx := Lib.hid hx
        rw [hlen]
        obtain ⟨D, hD⟩ : ∃ D, c = D := ⟨_, rfl⟩
        subst hD
        have q3 : (c : Int) % 4294967296 = c := by omega
        have hlo : (o ++ [c]).length = i + 1 := by simp [hlen]
        have Hlo := Lib.hid hlo
        clear hst hall ho hx hlo
        have hx1 : Ext (fun _ => False) wr (wr.alloc (.cells #[.int .u32 (c : Int)] 127)) := (Ext.refl _ wr).alloc _
        have HX1 := Lib.hid hx1
        have HO1 : Hid ((wr.alloc (.cells #[.int .u32 (c : Int)] 127)).ownsRow w.heap.size 127 1 (.slice ao i cap) i (o.map dv)) := Lib.hid (by have := Ho.out.keep hx1; unfold Own at this; rw [hlen] at this; exact this)
        have HG := Lib.hid (row_ge HO1.out)
        clear hx1
        have Hlen := Lib.hid hlen
        clear hlen
        go_wp2_with (at_builtin; refine wpList_append_any rfl (.tmp 37) (.tmp 40) 27 rfl w.heap.size 127 i0 _ 1 4 Tryz.underlying27 Hi.out.1 Hi.out.2.1 Hi.out.2.2.1 Hi.out.2.2.2 rfl (by decide) _ _ _ rfl HO1.out _ 1 1 (fun e => by cases e) [.int .u32 (c : Int)] rfl rfl (.inr ⟨_, rfl, cells_new [.int .u32 (c : Int)] _ rfl⟩) (one_one _) (by simp only [maxLen]; omega) (by omega) (Nat.le_trans Hx.out.size HX1.out.size) ?_; intro v5 w5 hown5 hgrow5 hat5; have HO : Hid (Own w5 w.heap.size v5 (o ++ [c])) := Lib.hid (own_app Hlen.out hown5); have HX : Hid (Ext (fun _ => False) w w5) := Lib.hid ((Hx.out.trans HX1.out).grown hgrow5 (fun k e h => absurd (HG.out k e) (by omega))); clear hown5 hgrow5 hat5)
        obtain ⟨ao5, cap5, rfl⟩ := HO.out.shape
        rw [Hlo.out] at HO ⊢
        have HT := Lib.hid (Trim_new w5 _ _ (HO.out.rds Hall.out.2) (by rw [Hlo.out]; omega))
        go_wp2_with fail
        refine HT.out.mono ?_
        rintro r6 w6 ⟨v6, rfl, h6, hx6, hg6⟩
        rw [Hall.out.1] at h6
        have HP : Hid (NatNew w (vl a + vl b) (.returned v6) w6) := Lib.hid ⟨v6, rfl, h6, HX.out.trans hx6, fun g e => Nat.le_trans HX.out.size (hg6 g e)⟩
        clear h6 hx6 hg6
        go_wp2
        go_ret
        exact HP.out
theorem Radd_any (w : World) (va vb : Value) (a b : List Nat) (ha : Rds w va a) (hb : Rds w vb b) (hal : a.length ≤ 536870911) (hbl : b.length ≤ 536870911) :
    Calls Tryz.prog 130 #[va, vb] w (NatPost w (vl a + vl b)) := (Radd_new w va vb a b ha hb hal hbl).mono fun _ _ h => h.post
set_option maxRecDepth 100000 in
set_option maxHeartbeats 4000000 in
theorem Rcmp_any (w : World) (va vb : Value) (a b : List Nat) (ha : Rds w va a) (hb : Rds w vb b) (hal : a.length ≤ 1073741823) (hbl : b.length ≤ 1073741823) :
    Calls Tryz.prog 131 #[va, vb] w fun r w' => r = .returned (.int .i64 (cmpN (vl a) (vl b))) ∧ Ext (fun _ => False) w w' := by
  have Fa := Lib.hid (Trim_any w va a ha (by omega))
  have Fb := Lib.hid (fun W (hW : Ext (fun _ => False) w W) => Trim_any W vb b (hb.keep hW) (by omega))
  have la := trimL_length a ha.1
  have lb := trimL_length b hb.1
  unfold trimL at la lb
  generalize vl a = x at *
  generalize vl b = y at *
  obtain ⟨m, hm⟩ : ∃ m, (dg x).length = m := ⟨_, rfl⟩
  obtain ⟨k, hk⟩ : ∃ k, (dg y).length = k := ⟨_, rfl⟩
  have hml : m ≤ 1073741823 := by omega
  have hkl : k ≤ 1073741823 := by omega
  have Hm := Lib.hid (And.intro hm hk)
  obtain ⟨C, hC⟩ : ∃ C, cmpN x y = C := ⟨_, rfl⟩
  rw [hC]
  have HC := Lib.hid hC
  clear ha hb hal hbl la lb hm hk hC
  go_enter Tryz.func131, Tryz.ntmps131
  go_wp2_with fail
  refine Fa.out.mono ?_
  rintro r w1 ⟨v1, rfl, h1, hx1⟩
  have Fb1 := Lib.hid (Fb.out w1 hx1)
  have H1 := Lib.hid (And.intro h1 hx1)
  clear h1 hx1 Fa Fb
  go_wp2_with fail
  refine Fb1.out.mono ?_
  rintro r w2 ⟨v2, rfl, h2, hx2⟩
  have h1 := H1.out.1.keep hx2
  have hX := H1.out.2.trans hx2
  have h1' := h1
  have h2' := h2
  obtain ⟨ao, ca, rfl⟩ := h1'.shape
  obtain ⟨bo, cb, rfl⟩ := h2'.shape
  rw [Hm.out.1] at h1 h1' ⊢
  rw [Hm.out.2] at h2 h2' ⊢
  have HN := Lib.hid (And.intro h1 (And.intro h2 hX))
  clear h1 h2 h1' h2' hX hx2 Fb1 H1
  by_cases hmk : m = k
  · subst hmk
    go_wp2_with fail
    go_loopg [5] m (fun g v5 wr => ∃ n : Nat, n ≤ m ∧ g = n ∧ v5 = .int .i64 ((n : Int) - 1) ∧ (∀ j, n ≤ j → dgt (dg x) j = dgt (dg y) j) ∧ Ext (fun _ => False) w2 wr)
    case atStart => exact ⟨m, Nat.le_refl _, rfl, rfl, fun j hj => by rw [dgt_out (by have := Hm.out; omega), dgt_out (by have := Hm.out; omega)], Ext.refl _ _⟩
    case round =>
      obtain ⟨n, hn, hg, rfl, hs, hx⟩ := hrel
      obtain rfl := hg.symm
      by_cases h0 : n = 0
      · subst h0
        have e : C = 0 := by
          rw [← HC.out]
          have := vl_equal (fun j => hs j (Nat.zero_le _))
          rw [vl_dg, vl_dg] at this
          unfold cmpN; rw [this, if_neg (Nat.lt_irrefl _), if_neg (Nat.lt_irrefl _)]
        subst e
        have HX := Lib.hid (HN.out.2.2.trans hx)
        have p0 : ((0 : Nat) : Int) - 1 = -1 := by omega
        rw [p0]
        clear hs hx
        go_wp2
        go_ret
        exact ⟨rfl, HX.out⟩
      · obtain ⟨i, rfl⟩ : ∃ i, n = i + 1 := ⟨n - 1, by omega⟩
        have p1 : ((i + 1 : Nat) : Int) - 1 = i := by omega
        rw [p1]
        obtain ⟨b1, o1, rfl, _⟩ := HN.out.1.base (by have := Hm.out.1; omega)
        obtain ⟨b2, o2, rfl, _⟩ := HN.out.2.1.base (by have := Hm.out.2; omega)
        have c0 := (Rds.keep HN.out.1 hx).at.2 i (by have := Hm.out; omega)
        have c1 := (Rds.keep HN.out.2.1 hx).at.2 i (by have := Hm.out; omega)
        have hlt := fun h => vl_less (dg_dig x) (b := dg y) (i := i) h hs
        have hgt := fun h => vl_less (dg_dig y) (b := dg x) (i := i) h (fun j hj => (hs j hj).symm)
        rw [vl_dg, vl_dg] at hlt hgt
        have Hs := Lib.hid hs
        have HX := Lib.hid (fun N => hx.drewN N)
        have HXN := Lib.hid (fun N M => ((HN.out.2.2.trans hx).drewN N).drewN M)
        have HXD := Lib.hid (fun N M => (hx.drewN N).drewN M)
        obtain ⟨D, hD⟩ : ∃ D, dgt (dg x) i = D := ⟨_, rfl⟩
        obtain ⟨E, hE⟩ : ∃ E, dgt (dg y) i = E := ⟨_, rfl⟩
        rw [hD] at c0
        rw [hE] at c1
        rw [hD, hE] at hlt hgt
        have Hlt := Lib.hid hlt
        have Hgt := Lib.hid hgt
        have HDE := Lib.hid (And.intro hD hE)
        have e0 : (0 : Int) ≤ (i : Int) := by omega
        have e1 : (i : Int) < (m : Int) := by omega
        clear hs hx hD hE hlt hgt p1
        by_cases q1 : D = E
        · subst q1
          go_upto_region 9 with fail
          go_quiet (fail)
          go_wp2
          go_roundg i
          case measure => omega
          case rel => exact ⟨i, by omega, rfl, by go_num, fun j hj => by
            by_cases e : j = i
            · subst e; rw [HDE.out.1, HDE.out.2]
            · exact Hs.out j (by omega), HX.out _⟩
        · have hne : ¬ (D : Int) = E := by omega
          have hbe : ((D : Int) == E) = false := by simpa using hne
          by_cases q2 : D < E
          · have e : C = -1 := by rw [← HC.out]; unfold cmpN; rw [if_pos (Hlt.out q2)]
            have q2i : (D : Int) < E := by omega
            subst e
            go_upto_region 9 with fail
            go_quiet (fail)
            go_upto_region 10 with fail
            go_quiet (fail)
            go_wp2
            go_ret
            exact ⟨rfl, by first | exact HXN.out _ _ | exact HXN.out _ 0⟩
          · have e : C = 1 := by
              rw [← HC.out]
              have := Hgt.out (by omega)
              unfold cmpN; rw [if_neg (by omega), if_pos this]
            have q2i : ¬ (D : Int) < E := by omega
            subst e
            go_upto_region 9 with fail
            go_quiet (fail)
            go_upto_region 10 with fail
            go_quiet (fail)
            go_wp2
            go_ret
            exact ⟨rfl, by first | exact HXN.out _ _ | exact HXN.out _ 0⟩
  · have hne : ¬ (m : Int) = k := by omega
    have hbe : ((m : Int) == k) = false := by simpa using hne
    have HX := Lib.hid HN.out.2.2
    by_cases hlt : m < k
    · have e : C = -1 := by
        rw [← HC.out]
        unfold cmpN
        rw [if_pos]
        by_cases h : y ≤ x
        · have := dg_mono h; have := Hm.out; omega
        · omega
      subst e
      clear HN Hm
      go_wp2
      go_ret
      exact ⟨rfl, HX.out⟩
    · have e : C = 1 := by
        rw [← HC.out]
        have h2 : y < x := by
          by_cases h : x ≤ y
          · have := dg_mono h; have := Hm.out; omega
          · omega
        unfold cmpN
        rw [if_neg (by omega), if_pos h2]
      subst e
      clear HN Hm
      go_wp2
      go_ret
      exact ⟨rfl, HX.out⟩
end Go.Proofs.YtbgienfcmdgaaaaGreat
/-
  Package exodusref01: Sub, Mul. Conditions: the arguments read as digits, lengths bounded; Sub: the second is not greater.
-/
namespace Go.Proofs.YtbgienfcmdgaaaaGreat
open Go.RowKit Go.MapKept
open Go.ChangeMaps (setBlock)

theorem SubSt.all {a b : List Nat} (ha : Dig a) (hb : Dig b) {o : List Nat} {c : Nat} (h : SubSt a b a.length o c) (hle : vl b ≤ vl a) : vl o = vl a - vl b := by
  have h4 := h.val
  have hb2 : vl b = vl (b.take a.length) := vl_high (fun i hi => dgt_zero (Nat.lt_of_le_of_lt hle (vl_lt ha)) i hi)
  rw [List.take_length, ← hb2] at h4
  have ho := vl_lt h.dig
  rw [h.len] at ho
  have hc : c = 0 := by
    have := h.car
    by_cases hc : c = 0
    · exact hc
    · have : c = 1 := by omega
      subst this
      omega
  subst hc
  omega
theorem sub_word' {x y c : Nat} (hx : x < 4294967296) (hy : y < 4294967296) (hc : c ≤ 1) : (4294967296 + x - y - c) % 4294967296 = subD x y c ∧ 1 - (4294967296 + x - y - c) / 4294967296 = subB x y c ∧ (4294967296 + x - y - c) / 4294967296 ≤ 1 := by
  unfold subD subB
  split <;> omega
def RSubPost (w : World) (x y : Nat) (r : Ending) (w' : World) : Prop := ∃ v, r = .returned (.tuple #[v, .int .i64 0]) ∧ IsNat w' v (x - y) ∧ Ext (fun _ => False) w w' ∧ ∀ g, v.ownBlock = some g → w.heap.size ≤ g
set_option maxRecDepth 100000 in
set_option maxHeartbeats 4000000 in
theorem Rsub_any (w : World) (va vb : Value) (a b : List Nat) (ha : Rds w va a) (hb : Rds w vb b) (hal : a.length ≤ 536870911) (hbl : b.length ≤ 536870911) (hle : vl b ≤ vl a) :
    Calls Tryz.prog 132 #[va, vb] w (RSubPost w (vl a) (vl b)) := by
  have HC := Lib.hid (Rcmp_any w va vb a b ha hb (by omega) (by omega))
  have hcm : ¬ cmpN (vl a) (vl b) < 0 := by unfold cmpN; split <;> (try split) <;> omega
  generalize cmpN (vl a) (vl b) = cq at *
  obtain ⟨aao, ac, rfl, _⟩ := id ha.2
  obtain ⟨bbo, bc, rfl, _⟩ := id hb.2
  obtain ⟨i0, hi, hz0, hz1, hz2⟩ := info_parts Tryz.infoU32
  have Hi := Lib.hid (And.intro hi (And.intro hz0 (And.intro hz1 hz2)))
  have Ha := Lib.hid ha
  have Hb := Lib.hid hb
  have Hle := Lib.hid hle
  clear hi hz0 hz1 hz2 ha hb hle
  obtain ⟨m, hm⟩ : ∃ m, a.length = m := ⟨_, rfl⟩
  have hmx : m ≤ 536870911 := by omega
  rw [hm] at Ha HC ⊢
  generalize b.length = nb at *
  have Hm := Lib.hid hm
  clear hm hal
  go_enter Tryz.func132, Tryz.ntmps132
  go_wp2_with fail
  refine HC.out.mono ?_
  rintro r w1 ⟨rfl, hx1⟩
  have hb0 : blk (w1.alloc (.cells #[] 127)) w1.heap.size = some (.cells #[] 127 (0, 0)) := blk_alloc_at _ _
  have HI := Lib.hid (And.intro (own_empty hb0 w.heap.size hx1.size) (hx1.alloc (.cells #[] 127)))
  clear hb0 hx1 HC
  go_wp2_with fail
  go_loopg [6, 7, 8] m (fun g v6 v7 v8 wr => ∃ (i : Nat) (o : List Nat) (c : Nat), i ≤ m ∧ g = m - i ∧ v8 = .int .i64 i ∧ v7 = .int .u64 c ∧ SubSt a b i o c ∧ Own wr w.heap.size v6 o ∧ Ext (fun _ => False) w wr)
  case atStart => exact ⟨0, [], 0, Nat.zero_le _, rfl, rfl, rfl, SubSt.zero a b, HI.out.1, HI.out.2⟩
  case round =>
    obtain ⟨i, o, c, hi, rfl, rfl, rfl, hst, ho, hx⟩ := hrel
    clear HI
    by_cases hlti : i < m
    · have hia' : (i : Int) < (m : Int) := by omega
      have Hda := Lib.hid (Rdigit_any wr _ a (Ha.out.keep hx) i (by omega))
      have Hdb := Lib.hid (Rdigit_any wr _ b (Hb.out.keep hx) i (by omega))
      have hst2 := hst.step Ha.out.1 Hb.out.1
      have hlen := hst.len
      have l1 := dgt_lt Ha.out.1 i
      have l2 := dgt_lt Hb.out.1 i
      have l3 := hst.car
      obtain ⟨w1', w2', w3'⟩ := sub_word' l1 l2 l3
      rw [← w1', ← w2'] at hst2
      obtain ⟨ao, cap, rfl⟩ := ho.shape
      generalize hX : dgt a i = X at *
      generalize hY : dgt b i = Y at *
      obtain ⟨S1, hS1⟩ : ∃ S1, 4294967296 + X = S1 := ⟨_, rfl⟩
      obtain ⟨S2, hS2⟩ : ∃ S2, S1 - Y = S2 := ⟨_, rfl⟩
      obtain ⟨S3, hS3⟩ : ∃ S3, S2 - c = S3 := ⟨_, rfl⟩
      rw [hS1, hS2, hS3] at hst2 w3'
      obtain ⟨D, hD⟩ : ∃ D, S3 % 4294967296 = D := ⟨_, rfl⟩
      obtain ⟨E, hE⟩ : ∃ E, S3 / 4294967296 = E := ⟨_, rfl⟩
      obtain ⟨F, hF⟩ : ∃ F, 1 - E = F := ⟨_, rfl⟩
      rw [hD, hE, hF] at hst2
      rw [hE] at w3'
      have q0 : (4294967296 : Int) + X = S1 := by omega
      have q1 : (S1 : Int) - Y = S2 := by omega
      have q2 : (S2 : Int) - c = S3 := by omega
      have q3 : (S3 : Int) % 4294967296 = D := by omega
      have q4 : (S3 : Int) / 4294967296 = E := by omega
      have q5 : (1 : Int) - E = F := by omega
      have b1 : S1 < 18446744073709551616 := by omega
      have b2 : S2 < 18446744073709551616 := by omega
      have b3 : S3 < 18446744073709551616 := by omega
      have Hst := Lib.hid hst2
      have Ho := Lib.hid ho
      have Hx := Lib.hid hx
      rw [hlen]
      have Hlen := Lib.hid hlen
      clear hst hst2 ho hx hX hY hD hE hS1 hS2 hS3 hF w1' w2'
      go_wp2_with fail
      refine Hda.out.mono ?_
      rintro r w' ⟨rfl, hw⟩; obtain rfl := hw.symm
      go_wp2_with fail
      refine Hdb.out.mono ?_
      rintro r w' ⟨rfl, hw⟩; obtain rfl := hw.symm
      have hx1 : Ext (fun _ => False) wr (wr.alloc (.cells #[.int .u32 (D : Int)] 127)) := (Ext.refl _ wr).alloc _
      have HX1 := Lib.hid hx1
      have HO1 : Hid ((wr.alloc (.cells #[.int .u32 (D : Int)] 127)).ownsRow w.heap.size 127 1 (.slice ao i cap) i (o.map dv)) := Lib.hid (by have := Ho.out.keep hx1; unfold Own at this; rw [hlen] at this; exact this)
      have HG := Lib.hid (row_ge HO1.out)
      clear hx1 Hda Hdb hw hlen
      go_wp2_with (at_builtin; refine wpList_append_any rfl (.tmp 31) (.tmp 34) 27 rfl w.heap.size 127 i0 _ 1 4 Tryz.underlying27 Hi.out.1 Hi.out.2.1 Hi.out.2.2.1 Hi.out.2.2.2 rfl (by decide) _ _ _ rfl HO1.out _ 1 1 (fun e => by cases e) [.int .u32 (D : Int)] rfl rfl (.inr ⟨_, rfl, cells_new [.int .u32 (D : Int)] _ rfl⟩) (one_one _) (by simp only [maxLen]; omega) (by omega) (Nat.le_trans Hx.out.size HX1.out.size) ?_; intro v5 w5 hown5 hgrow5 hat5; have HO : Hid (Own w5 w.heap.size v5 (o ++ [D])) := Lib.hid (own_app Hlen.out hown5); have HX : Hid (Ext (fun _ => False) w w5) := Lib.hid ((Hx.out.trans HX1.out).grown hgrow5 (fun k e h => absurd (HG.out k e) (by omega))); clear hown5 hgrow5 hat5)
      go_wp2
      go_roundg (m - (i + 1))
      case measure => omega
      case rel => exact ⟨i + 1, _, _, by omega, rfl, by go_num, rfl, Hst.out, HO.out, HX.out⟩
    · obtain rfl : i = m := by omega
      have hst' := hst
      rw [← Hm.out] at hst'
      have hall := hst'.all Ha.out.1 Hb.out.1 Hle.out
      have hT := Trim_new wr _ _ (ho.rds hst.dig) (by rw [hst.len]; omega)
      rw [hall] at hT
      have HT := Lib.hid hT
      have Hx := Lib.hid hx
      clear hst hst' hall hT ho hx
      go_wp2_with fail
      refine HT.out.mono ?_
      rintro r6 w6 ⟨v6, rfl, h6, hx6, hg6⟩
      have HP : Hid (RSubPost w (vl a) (vl b) (.returned (.tuple #[v6, .int .i64 0])) w6) := Lib.hid ⟨v6, rfl, h6, Hx.out.trans hx6, fun g e => Nat.le_trans Hx.out.size (hg6 g e)⟩
      clear h6 hx6 hg6
      go_wp2
      go_ret2
      exact HP.out
theorem dgt_snoc {o : List Nat} {i : Nat} (h : i < o.length) : dgt (o ++ [0]) i = dgt o i := by
  rw [dgt_in h, dgt_in (by simp; omega), List.getElem_append_left h]
theorem set_snoc {o : List Nat} {i d : Nat} (h : i < o.length) : (o ++ [0]).set i d = o.set i d ++ [0] := List.set_append_left i d h
set_option maxRecDepth 100000 in
set_option maxHeartbeats 4000000 in
theorem Rmul_any (w : World) (va vb : Value) (a b : List Nat) (ha : Rds w va a) (hb : Rds w vb b) (hal : a.length ≤ 268435455) (hbl : b.length ≤ 268435455) :
    Calls Tryz.prog 79 #[va, vb] w (NatPost w (vl a * vl b)) := by
  obtain ⟨ada, aao, ac, rfl, _, _, _, ha4⟩ := id ha
  obtain ⟨bda, bao, bc, rfl, _, _, _, hb4⟩ := id hb
  obtain ⟨n, hn⟩ : ∃ n, a.length + b.length + 1 = n := ⟨_, rfl⟩
  obtain ⟨w1, hmk, hA, hx1⟩ := run_make_nat w n (by omega)
  rw [← hn, List.replicate_succ'] at hA
  obtain ⟨B, hB⟩ : ∃ B, w.heap.size = B := ⟨_, rfl⟩
  rw [hB] at hmk hA
  have HA := Lib.hid hA
  have HX := Lib.hid hx1
  have Hda := Lib.hid ada
  have Hdb := Lib.hid bda
  have Ha := Lib.hid ha
  have Hb := Lib.hid hb
  have Hst0 := Lib.hid (MulSt.zero a b)
  clear ha hb hA hx1 ada bda ha4 hb4
  generalize hna : a.length = na at *
  generalize hnb : b.length = nb at *
  have HN := Lib.hid (And.intro hna hnb)
  clear hna hnb
  have hn1 : (na : Int) + nb + 1 = n := by omega
  have hn0 : (0 : Int) ≤ (na : Int) + nb + 1 := by omega
  go_enter Tryz.func79, Tryz.ntmps79
  go_wp2_with fail
  go_loopg [6] na (fun g v6 wr => ∃ (i : Nat) (o : List Nat), i ≤ na ∧ g = na - i ∧ v6 = .int .i64 i ∧ MulSt a b i o ∧ Arr wr B (o ++ [0]) ∧ Ext (fun _ => False) w wr)
  case atStart => exact ⟨0, _, Nat.zero_le _, rfl, rfl, Hst0.out, HA.out, HX.out⟩
  case round =>
    obtain ⟨i, o, hi, rfl, rfl, hst, hA, hx⟩ := hrel
    clear HA HX Hst0 hmk
    by_cases hin : i < na
    · obtain ⟨ba, offa, rfl, hba⟩ := Ha.out.base (by have := HN.out; omega)
      have hia : i < a.length := by have := HN.out.1; omega
      have hxl := dgt_lt Hda.out i
      have hin0 := MulIn.zero (a := a) (b := b) (i := i) hst.dig hst.len
      have Hst := Lib.hid hst
      have Hin0 := Lib.hid hin0
      have HA := Lib.hid hA
      have HX := Lib.hid hx
      have hini : (i : Int) < (na : Int) := by omega
      clear hst hin0 hA hx
      obtain ⟨x, hxe⟩ : ∃ x, dgt a i = x := ⟨_, rfl⟩
      rw [hxe] at hxl
      have Hxe := Lib.hid hxe
      clear hxe
      go_wp2_with fail
      go_loopg [7, 8] nb (fun g v7 v8 wr => ∃ (k : Nat) (oc : List Nat) (c : Nat), k ≤ nb ∧ g = nb - k ∧ v8 = .int .i64 k ∧ v7 = .int .u64 c ∧ MulIn a b o i k oc c ∧ Arr wr B (oc ++ [0]) ∧ Ext (fun _ => False) w wr)
      case atStart => exact ⟨0, o, 0, Nat.zero_le _, rfl, rfl, rfl, Hin0.out, HA.out, HX.out⟩
      case round =>
        obtain ⟨k, oc, c, hk, rfl, rfl, rfl, hin1, hA1, hx1⟩ := hrel
        clear HA HX Hin0
        by_cases hkn : k < nb
        · obtain ⟨bb, offb, rfl, hbb⟩ := Hb.out.base (by have := HN.out; omega)
          have hkb : k < b.length := by have := HN.out.2; omega
          have c0 := (Ha.out.keep hx1).at.2 i hia
          have c1 := (Hb.out.keep hx1).at.2 k hkb
          have hyl := dgt_lt Hdb.out k
          have hlen : i + k < oc.length := by have := HN.out; have := hin1.len; omega
          have hnxt := hin1.step Hda.out Hdb.out hia hkb
          have c2 := hA1.cell (i + k) (by simp; omega)
          rw [dgt_snoc hlen] at c2
          have hol := dgt_lt hin1.dig (i + k)
          have hcl := hin1.car
          rw [Hxe.out] at hnxt c0
          obtain ⟨y, hye⟩ : ∃ y, dgt b k = y := ⟨_, rfl⟩
          obtain ⟨od, hoe⟩ : ∃ od, dgt oc (i + k) = od := ⟨_, rfl⟩
          rw [hye] at c1 hyl hnxt
          rw [hoe] at c2 hol hnxt
          have hfit := mul_fits hxl hyl hol hcl
          obtain ⟨p, hp⟩ : ∃ p, x * y = p := ⟨_, rfl⟩
          have hpi : (x : Int) * (y : Int) = (p : Int) := by rw [← hp]; simp
          rw [hp] at hnxt hfit
          obtain ⟨S1, hS1⟩ : ∃ S1, c + p = S1 := ⟨_, rfl⟩
          obtain ⟨S2, hS2⟩ : ∃ S2, p + od + c = S2 := ⟨_, rfl⟩
          rw [hS2] at hnxt
          have e5 : (0 : Int) ≤ (x : Int) * y := by omega
          have e6 : (x : Int) * y < 18446744073709551616 := by omega
          have w1' : IntKind.u64.wrap (p : Int) = p := IntWalk.u64_in _ (by omega)
          have w2' : IntKind.u64.wrap ((c : Int) + p) = S1 := by rw [wrapU]; omega
          have w3' : IntKind.u64.wrap ((S1 : Int) + od) = S2 := by rw [wrapU]; omega
          have w4' : IntKind.u64.wrap (x : Int) = x := IntWalk.u64_in _ (by omega)
          have w5' : IntKind.u64.wrap (y : Int) = y := IntWalk.u64_in _ (by omega)
          have w6' : IntKind.u64.wrap (od : Int) = od := IntWalk.u64_in _ (by omega)
          have hs1 : S1 < 18446744073709551616 := by omega
          have hs2 : S2 < 18446744073709551616 := by omega
          have HA2 := Lib.hid (fun N => (hA1.ext ((Ext.refl _ wr).drewN N)).set (i + k) (S2 % 4294967296))
          have Hnxt := Lib.hid hnxt
          have HX2 := Lib.hid (fun N => (hx1.drewN N).own ((Ext.refl (fun z => z = B) (wr.drewN N)).setCell (p := ⟨B, i + k, none⟩) (.int .u32 (S2 % 4294967296 : Nat)) (fun _ => rfl)) (fun z e => by omega))
          have f2 := hA1.free (i + k)
          have Hlen := Lib.hid hlen
          have e0 : (0 : Int) ≤ (k : Int) := by omega
          have e1 : (k : Int) < (nb : Int) := by omega
          have e2 : (i : Int) + k < (n : Int) := by omega
          have e3 : (0 : Int) ≤ (i : Int) + k := by omega
          have e4 : ((i : Int) + k).toNat = i + k := by omega
          have e7 : (0 : Int) ≤ (i : Int) := by omega
          clear hin1 hA1 hx1 hnxt hye hoe hp hS1 hS2 hfit hlen hia hkb
          go_upto_region 9 with fail
          go_quiet (fail)
          go_wp2
          have q1 : (S2 : Int) % 4294967296 = (S2 % 4294967296 : Nat) := by omega
          have q2 : (S2 : Int) / 4294967296 = (S2 / 4294967296 : Nat) := by omega
          rw [q1, q2]
          go_roundg (nb - (k + 1))
          case measure => omega
          case rel => exact ⟨k + 1, _, _, by omega, rfl, by go_num, rfl, Hnxt.out, by rw [← set_snoc Hlen.out]; exact HA2.out _, HX2.out _⟩
        · have e : k = nb := by omega
          subst e
          have hlen : i + k < oc.length := by have := HN.out; have := hin1.len; omega
          have hcl := hin1.car
          have f2 := hA1.free (i + k)
          have c2 := hA1.cell (i + k) (by simp; omega)
          have HA2 := Lib.hid (hA1.set (i + k) c)
          rw [set_snoc hlen] at HA2
          have hnx := Hst.out.step (by have := HN.out; omega) (o := oc) (c := c) (by rw [HN.out.2]; exact hin1)
          rw [HN.out.2] at hnx
          have Hnx := Lib.hid hnx
          have HX2 := Lib.hid (hx1.own ((Ext.refl (fun z => z = B) wr).setCell (p := ⟨B, i + k, none⟩) (.int .u32 (c : Nat)) (fun _ => rfl)) (fun z e => by omega))
          have q3 : (c : Int) % 4294967296 = c := by omega
          clear hin1 hA1 hx1 hnx
          have e2 : (i : Int) + k < (n : Int) := by omega
          have e3 : (0 : Int) ≤ (i : Int) + k := by omega
          have e4 : ((i : Int) + k).toNat = i + k := by omega
          go_wp2
          go_roundg (na - (i + 1))
          case measure => omega
          case rel => exact ⟨i + 1, _, by omega, rfl, by go_num, Hnx.out, HA2.out, HX2.out⟩
    · have e : i = na := by omega
      subst e
      have hl : (o ++ [0]).length = n := by have := HN.out; have := hst.len; simp; omega
      have hr := hA.rds (hst.dig.snoc (by omega)) (by omega)
      rw [hl] at hr
      have hd := hst
      rw [← HN.out.1] at hd
      have hdone := hd.done
      have hv : vl (o ++ [0]) = vl a * vl b := by
        rw [vl_snoc, Nat.mul_zero, Nat.add_zero]
        have := congrArg vl hdone
        rwa [trimL_value, vl_dg] at this
      have hT := Trim_any wr _ _ hr (by omega)
      rw [hv] at hT
      have HT := Lib.hid hT
      have HX := Lib.hid hx
      clear hst hA hx hr hd hl hdone hv hT
      go_wp2_with fail
      refine HT.out.mono ?_
      rintro r6 w6 ⟨v6, rfl, h6, hx6⟩
      have HP : Hid (NatPost w (vl a * vl b) (.returned v6) w6) := Lib.hid ⟨v6, rfl, h6, HX.out.trans hx6⟩
      clear h6 hx6
      go_wp2
      go_ret
      exact HP.out
end Go.Proofs.YtbgienfcmdgaaaaGreat
/-
  Plain laws on division bit by bit. Conditions: none beyond each lemma's own.
-/
namespace Go.Proofs.YtbgienfcmdgaaaaGreat

theorem digit_at {l : List Nat} (hd : Dig l) (t : Nat) : vl l / 4294967296 ^ t % 4294967296 = dgt l t := by
  by_cases h : t < l.length
  · have h1 := vl_at (l := l) (t := t) (Nat.le_of_lt h)
    have h2 := vl_drop h
    rw [← dgt_in h] at h2
    have h3 := vl_lt (hd.take t)
    rw [List.length_take, Nat.min_eq_left (Nat.le_of_lt h)] at h3
    have h4 := dgt_lt hd t
    rw [h1, Nat.add_mul_div_left _ _ (Nat.pow_pos (by omega)), Nat.div_eq_of_lt h3, h2]
    omega
  · rw [dgt_out (by omega)]
    have h1 := Nat.lt_of_lt_of_le (vl_lt hd) (pow_mono (show l.length ≤ t by omega))
    rw [Nat.div_eq_of_lt h1]
theorem pow32 (t : Nat) : 4294967296 ^ t = 2 ^ (32 * t) := by rw [Nat.pow_mul]
theorem bit_at {l : List Nat} (hd : Dig l) (i : Nat) : dgt l (i / 32) / 2 ^ (i % 32) % 2 = vl l / 2 ^ i % 2 := by
  have h1 := digit_at hd (i / 32)
  have hs : i % 32 < 32 := Nat.mod_lt _ (by omega)
  have e : vl l / 2 ^ i = vl l / 4294967296 ^ (i / 32) / 2 ^ (i % 32) := by
    rw [Nat.div_div_eq_div_mul, pow32, ← Nat.pow_add, Nat.div_add_mod]
  rw [e, ← h1]
  generalize vl l / 4294967296 ^ (i / 32) = X
  generalize i % 32 = s at *
  have h2 : Nat.testBit (X % 2 ^ 32) s = Nat.testBit X s := by rw [Nat.testBit_mod_two_pow]; simp [hs]
  rw [Nat.testBit_eq_decide_div_mod_eq, Nat.testBit_eq_decide_div_mod_eq] at h2
  have h3 := Nat.mod_two_eq_zero_or_one (X % 4294967296 / 2 ^ s)
  have h4 := Nat.mod_two_eq_zero_or_one (X / 2 ^ s)
  have h5 : (X % 4294967296 / 2 ^ s % 2 = 1) ↔ (X / 2 ^ s % 2 = 1) := by simpa using h2
  omega
/-- j bits remain: q holds the quotient of the upper bits, in its place -/
structure BitSt (N y m j : Nat) (q : List Nat) (R : Nat) : Prop where
  dig : Dig q
  len : q.length = m
  val : vl q = 2 ^ j * (N / 2 ^ j / y)
  rest : R = N / 2 ^ j % y
theorem BitSt.start {N y m : Nat} (hN : N < 4294967296 ^ m) : BitSt N y m (32 * m) (List.replicate m 0) 0 := by
  have h : N / 2 ^ (32 * m) = 0 := Nat.div_eq_of_lt (by rw [← pow32]; exact hN)
  exact ⟨Dig.zeros m, by simp, by rw [vl_zeros, h]; simp, by rw [h]; simp⟩
theorem half (N j : Nat) : N / 2 ^ j = 2 * (N / 2 ^ (j + 1)) + N / 2 ^ j % 2 := by
  have : N / 2 ^ (j + 1) = N / 2 ^ j / 2 := by rw [Nat.pow_succ, Nat.div_div_eq_div_mul]
  omega
theorem bit_qr {M y b : Nat} (hb : b < 2) (hy : 0 < y) :
    (2 * (M % y) + b < y → (2 * M + b) / y = 2 * (M / y) ∧ (2 * M + b) % y = 2 * (M % y) + b) ∧
    (y ≤ 2 * (M % y) + b → (2 * M + b) / y = 2 * (M / y) + 1 ∧ (2 * M + b) % y = 2 * (M % y) + b - y) := by
  have h1 := Nat.div_add_mod M y
  have h2 := Nat.mod_lt M hy
  generalize M / y = Q at *
  generalize M % y = R at *
  have e : 2 * M + b = y * (2 * Q) + (2 * R + b) := by rw [← h1, Nat.mul_add, Nat.mul_left_comm]; omega
  refine ⟨fun h => ?_, fun h => ?_⟩
  · rw [e, Nat.mul_add_div hy, Nat.mul_add_mod, Nat.div_eq_of_lt h, Nat.mod_eq_of_lt h]; exact ⟨by omega, rfl⟩
  · have e2 : 2 * M + b = y * (2 * Q + 1) + (2 * R + b - y) := by rw [e, Nat.mul_add y (2 * Q) 1]; omega
    have h3 : 2 * R + b - y < y := by omega
    rw [e2, Nat.mul_add_div hy, Nat.mul_add_mod, Nat.div_eq_of_lt h3, Nat.mod_eq_of_lt h3]; exact ⟨by omega, rfl⟩
theorem BitSt.keep {N y m j : Nat} {q : List Nat} {R : Nat} (hy : 0 < y) (h : BitSt N y m (j + 1) q R) (hlt : R + R + N / 2 ^ j % 2 < y) : BitSt N y m j q (R + R + N / 2 ^ j % 2) := by
  have hb : N / 2 ^ j % 2 < 2 := Nat.mod_lt _ (by omega)
  obtain ⟨h1, h2⟩ := (bit_qr (M := N / 2 ^ (j + 1)) hb hy).1 (by have := h.rest; omega)
  rw [← half] at h1 h2
  refine ⟨h.dig, h.len, ?_, ?_⟩
  · rw [h.val, h1, Nat.pow_succ, Nat.mul_assoc]
  · rw [h2, ← h.rest]; omega
theorem or_add {d k : Nat} (h : d % 2 ^ (k + 1) = 0) : d ||| 2 ^ k = d + 2 ^ k := by
  obtain ⟨e, he⟩ := Nat.dvd_of_mod_eq_zero h
  have := Nat.shiftLeft_add_eq_or_of_lt (show 2 ^ k < 2 ^ (k + 1) by rw [Nat.pow_succ]; have := Nat.two_pow_pos k; omega) e
  rw [Nat.shiftLeft_eq, Nat.mul_comm, ← he] at this
  exact this.symm
theorem BitSt.turn {N y m j : Nat} {q : List Nat} {R : Nat} (hy : 0 < y) (hj : j < 32 * m) (h : BitSt N y m (j + 1) q R) (hge : y ≤ R + R + N / 2 ^ j % 2) :
    (dgt q (j / 32) ||| 2 ^ (j % 32)) < 4294967296 ∧ BitSt N y m j (q.set (j / 32) (dgt q (j / 32) ||| 2 ^ (j % 32))) (R + R + N / 2 ^ j % 2 - y) := by
  have hb : N / 2 ^ j % 2 < 2 := Nat.mod_lt _ (by omega)
  obtain ⟨h1, h2⟩ := (bit_qr (M := N / 2 ^ (j + 1)) hb hy).2 (by have := h.rest; omega)
  rw [← half] at h1 h2
  have hs : j % 32 < 32 := Nat.mod_lt _ (by omega)
  have ht : j / 32 < q.length := by rw [h.len]; omega
  have hor : (dgt q (j / 32) ||| 2 ^ (j % 32)) < 4294967296 := Nat.or_lt_two_pow (n := 32) (dgt_lt h.dig _) (Nat.pow_lt_pow_right (by omega) hs)
  have hm : dgt q (j / 32) % 2 ^ (j % 32 + 1) = 0 := by
    rw [← digit_at h.dig, h.val, show (4294967296 : Nat) = 2 ^ (j % 32 + 1) * 2 ^ (32 - (j % 32 + 1)) by rw [← Nat.pow_add, show j % 32 + 1 + (32 - (j % 32 + 1)) = 32 by omega], Nat.mod_mul_right_mod]
    rw [show 2 ^ (j % 32 + 1) * 2 ^ (32 - (j % 32 + 1)) = (4294967296 : Nat) by rw [← Nat.pow_add, show j % 32 + 1 + (32 - (j % 32 + 1)) = 32 by omega], pow32]
    rw [show 2 ^ (j + 1) * (N / 2 ^ (j + 1) / y) = 2 ^ (32 * (j / 32)) * (2 ^ (j % 32 + 1) * (N / 2 ^ (j + 1) / y)) by rw [← Nat.mul_assoc, ← Nat.pow_add, show 32 * (j / 32) + (j % 32 + 1) = j + 1 by omega]]
    rw [Nat.mul_div_cancel_left _ (Nat.two_pow_pos _), Nat.mul_mod_right]
  refine ⟨hor, h.dig.set _ _ hor, by simp [h.len], ?_, ?_⟩
  · have hset := vl_set_dgt (dgt q (j / 32) ||| 2 ^ (j % 32)) ht
    rw [or_add hm, Nat.mul_add] at hset
    have e : 4294967296 ^ (j / 32) * 2 ^ (j % 32) = 2 ^ j := by rw [pow32, ← Nat.pow_add, Nat.div_add_mod]
    rw [e] at hset
    rw [or_add hm, h1, Nat.mul_add, Nat.mul_one]
    have e2 : vl q = 2 ^ j * (2 * (N / 2 ^ (j + 1) / y)) := by rw [h.val, Nat.pow_succ, Nat.mul_assoc]
    omega
  · rw [h2, ← h.rest]; omega
theorem BitSt.done {N y m : Nat} {q : List Nat} {R : Nat} (h : BitSt N y m 0 q R) : vl q = N / y ∧ R = N % y := by
  have h1 := h.val
  have h2 := h.rest
  simp at h1 h2
  exact ⟨h1, h2⟩
end Go.Proofs.YtbgienfcmdgaaaaGreat
