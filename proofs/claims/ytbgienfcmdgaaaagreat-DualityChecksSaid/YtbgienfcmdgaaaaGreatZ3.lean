/-
  Package integer: boxes that hold an integer; From, Sign, Neg. Conditions: the arguments read as integers, lengths bounded.
-/
import Derived.Test.YtbgienfcmdgaaaaGreatZ2
set_option linter.unusedVariables false
namespace Go.Proofs.YtbgienfcmdgaaaaGreat
open Go.RowKit Go.MapKept
open Go.ChangeMaps (setBlock)

/-- blocks that hold no digits -/
def NoDig (w : World) (k : Nat) : Prop := ∀ i d, w.cell? ⟨k, i, none⟩ ≠ some (.int .u32 d)
theorem Rds.past {S : Nat → Prop} {w w' : World} {v : Value} {l : List Nat} (h : Rds w v l) (hx : Ext S w w') (hS : ∀ k, k < w.heap.size → S k → NoDig w k) : Rds w' v l := by
  obtain ⟨h0, ao, c, rfl, h1, h2, h3, h4⟩ := h
  refine ⟨h0, _, _, rfl, h1, h2, h3, fun hp => ?_⟩
  obtain ⟨b, off, e, hbl, hc⟩ := h4 hp
  have hn : ¬ S b := fun hs => hS b hbl hs (off + 0) _ (hc 0 l[0] (List.getElem?_eq_getElem hp))
  exact ⟨b, off, e, Nat.lt_of_lt_of_le hbl hx.size, fun i d hi => (hx.cell (p := ⟨b, off + i, none⟩) hbl hn).trans (hc i d hi)⟩
/-- a block that holds an integer -/
def BoxI (w : World) (b : Nat) (neg : Bool) (mag : Value) : Prop := blk w b = some (.cells #[.bool neg, mag] 29 (0, 0)) ∧ ∀ k d, mag ≠ .int k d
theorem Rds.noInt {w : World} {v : Value} {l : List Nat} (h : Rds w v l) (k : IntKind) (d : Int) : v ≠ .int k d := by
  obtain ⟨_, ao, c, rfl, _⟩ := h
  intro e; cases e
theorem BoxI.lt {w : World} {b : Nat} {neg : Bool} {mag : Value} (h : BoxI w b neg mag) : b < w.heap.size := blk_lt h.1
theorem BoxI.facts {w : World} {b : Nat} {neg : Bool} {mag : Value} (h : BoxI w b neg mag) : w.cell? ⟨b, 0, none⟩ = some (.bool neg) ∧ w.cell? ⟨b, 1, none⟩ = some mag ∧ w.frozen? ⟨b, 0, none⟩ = false ∧ w.frozen? ⟨b, 1, none⟩ = false :=
  ⟨by simpa using cell_of_cells h.1 0, by simpa using cell_of_cells h.1 1, free_of_cells h.1 0, free_of_cells h.1 1⟩
theorem BoxI.noDig {w : World} {b : Nat} {neg : Bool} {mag : Value} (h : BoxI w b neg mag) : NoDig w b := fun i d => by
  rw [cell_of_cells h.1 i]
  match i with
  | 0 => simp
  | 1 => simpa using h.2 .u32 d
  | i + 2 => simp
theorem BoxI.ext {S : Nat → Prop} {w w' : World} {b : Nat} {neg : Bool} {mag : Value} (h : BoxI w b neg mag) (hx : Ext S w w') (hn : ¬ S b) : BoxI w' b neg mag := ⟨(hx.blk h.lt hn).trans h.1, h.2⟩
/-- an integer is stored -/
structure Put (w w' : World) (r : Nat) (neg : Bool) (mag : Value) : Prop where
  box : BoxI w' r neg mag
  ext : Ext (fun k => k = r) w w'
  rds : ∀ v l, Rds w v l → Rds w' v l
theorem BoxI.put {w : World} {r : Nat} {n0 neg : Bool} {m0 mag : Value} (h : BoxI w r n0 m0) (hm : ∀ k d, mag ≠ .int k d) : Put w ((w.setCell ⟨r, 0, none⟩ (.bool neg)).setCell ⟨r, 1, none⟩ mag) r neg mag := by
  have hx : Ext (fun k => k = r) w ((w.setCell ⟨r, 0, none⟩ (.bool neg)).setCell ⟨r, 1, none⟩ mag) := ((Ext.refl (fun k => k = r) w).setCell (p := ⟨r, 0, none⟩) _ (fun _ => rfl)).setCell (p := ⟨r, 1, none⟩) _ (fun _ => rfl)
  refine ⟨⟨?_, hm⟩, hx, fun v l hr => hr.past hx (fun k _ e => by subst e; exact h.noDig)⟩
  have h1 := blk_setCell_same h.1 0 (.bool neg)
  have h2 := blk_setCell_same h1 1 mag
  simpa using h2
theorem Put.int {w w' : World} {r : Nat} {neg : Bool} {mag v : Value} {z : Int} (h : Put w w' r neg mag) (hi : IsInt w v z) : IsInt w' v z := by
  obtain ⟨m, h1, h2⟩ := hi
  exact ⟨m, h1, h.rds _ _ h2⟩
theorem IsInt.shape {w : World} {v : Value} {z : Int} (h : IsInt w v z) : ∃ neg ao n c, v = .agg #[.bool neg, .slice ao n c] := by
  obtain ⟨m, h1, h2⟩ := h
  obtain ⟨ao, c, rfl⟩ := h2.shape
  exact ⟨_, _, _, _, h1⟩
theorem no_int (ao : Option Addr) (n c : Nat) : ∀ k d, Value.slice ao n c ≠ .int k d := fun _ _ h => by cases h
set_option maxRecDepth 100000 in
set_option maxHeartbeats 2000000 in
theorem isign_any (w : World) (v : Value) (z : Int) (L : Nat) (h : Rint w v z L) (hL : L ≤ 268435455) :
    Calls Tryz.prog 99 #[v] w fun r w' => r = .returned (.int .i64 z.sign) ∧ Ext (fun _ => False) w w' := by
  obtain ⟨neg, mag, l, rfl, hr, hl, rfl⟩ := h
  have HB := Lib.hid (fun W (hW : Ext (fun _ => False) w W) => bits_any W mag l (hr.keep hW) (by omega))
  have hs : (sg neg (vl l)).sign = if vl l = 0 then 0 else if neg then -1 else 1 := by
    unfold sg
    by_cases h0 : vl l = 0
    · rw [h0]; cases neg <;> rfl
    · rw [if_neg h0]
      cases neg
      · simp; omega
      · simp; omega
  rw [hs]
  generalize vl l = n at *
  clear hs hr hl
  by_cases h0 : n = 0
  · rw [if_pos h0]
    have H0 := Lib.hid h0
    clear h0
    go_enter Tryz.func99, Tryz.ntmps99
    go_wp2_with fail
    refine (HB.out _ ((Ext.refl _ w).alloc _)).mono ?_
    rintro r w' ⟨q, rfl, hw, hq⟩
    subst hw
    obtain rfl := hq.2 H0.out
    clear HB hq
    go_wp2
    go_ret
    exact ⟨rfl, (Ext.refl _ w).alloc _⟩
  · rw [if_neg h0]
    have H0 := Lib.hid h0
    clear h0
    go_enter Tryz.func99, Tryz.ntmps99
    go_wp2_with fail
    refine (HB.out _ ((Ext.refl _ w).alloc _)).mono ?_
    rintro r w' ⟨q, rfl, hw, hq⟩
    subst hw
    have hq0 : ¬ (q : Int) = 0 := fun h => H0.out (hq.1 (by omega))
    clear hq HB
    cases neg
    · go_wp2
      go_ret
      exact ⟨rfl, (Ext.refl _ w).alloc _⟩
    · go_wp2
      go_ret
      exact ⟨rfl, (Ext.refl _ w).alloc _⟩
set_option maxRecDepth 100000 in
set_option maxHeartbeats 2000000 in
theorem ifrom_any (w : World) (k : Int) (h0 : -9223372036854775808 ≤ k) (h1 : k ≤ 9223372036854775807) :
    Calls Tryz.prog 115 #[.int .i64 k] w (IntPost w k) := by
  by_cases hk : k < 0
  · obtain ⟨n, hn⟩ : ∃ n : Nat, k = -(n : Int) := ⟨k.natAbs, by omega⟩
    have HF := Lib.hid (fun W => from_any W n (by omega))
    have HS := Lib.hid (fun W v h => signed_any W true v n h (Nat.le_trans (dg_two (n := n) (by omega)).1 (by omega)))
    have hz : sg true n = k := by unfold sg; simp [hn]
    rw [hz] at HS
    have q1 : IntKind.u64.wrap (-IntKind.u64.wrap (-(n : Int))) = n := by rw [wrapU, wrapU]; omega
    subst hn
    clear hz
    go_enter Tryz.func115, Tryz.ntmps115
    go_wp2_with fail
    refine (HF.out _).mono ?_
    rintro r w1 ⟨v1, rfl, h1, hx1⟩
    have HS1 := Lib.hid (HS.out w1 v1 h1)
    obtain ⟨ao, c, rfl⟩ := h1.shape
    have hb0 : BoxI (w.alloc (.cells #[.bool false, .slice none 0 0] 29)) w.heap.size false (.slice none 0 0) := ⟨blk_alloc_at _ _, fun _ _ h => (by cases h)⟩
    have HB1 := Lib.hid (hb0.ext hx1 id)
    have HX1 := Lib.hid (((Ext.refl (fun _ => False) w).alloc _).trans hx1)
    clear hb0 h1 hx1
    go_wp2_with fail
    refine HS1.out.mono ?_
    rintro r w2 ⟨v2, rfl, h2, hx2⟩
    have hb2 := HB1.out.ext hx2 id
    obtain ⟨f0, f1, f2, f3⟩ := hb2.facts
    obtain ⟨neg, so, sn, sc, rfl⟩ := h2.shape
    have hp := hb2.put (neg := neg) (no_int so sn sc)
    have HR : Hid (IsInt _ _ (-(n : Int)) ∧ Ext (fun _ => False) w _) := Lib.hid ⟨hp.int h2, (HX1.out.trans hx2).own hp.ext (fun k e => by omega)⟩
    have hg := hp.box.facts
    have HG := Lib.hid hg
    clear hb2 h2 hx2 hp hg
    go_wp2
    generalize (w2.setCell ⟨w.heap.size, 0, none⟩ (.bool neg)).setCell ⟨w.heap.size, 1, none⟩ (.slice so sn sc) = w9 at *
    obtain ⟨g0, g1, _⟩ := HG.out
    exact bodyPost_ret (v := .agg #[.bool neg, .slice so sn sc]) (by simp [results, Tryz.results115, go_sem, g0, g1]) rfl ⟨_, rfl, HR.out.1, HR.out.2⟩
  · obtain ⟨n, hn⟩ : ∃ n : Nat, k = (n : Int) := ⟨k.natAbs, by omega⟩
    have HF := Lib.hid (fun W => from_any W n (by omega))
    have HS := Lib.hid (fun W v h => signed_any W false v n h (Nat.le_trans (dg_two (n := n) (by omega)).1 (by omega)))
    have hz : sg false n = k := by unfold sg; simp [hn]
    rw [hz] at HS
    have q1 : IntKind.u64.wrap (n : Int) = n := by rw [wrapU]; omega
    subst hn
    clear hz
    go_enter Tryz.func115, Tryz.ntmps115
    go_wp2_with fail
    refine (HF.out _).mono ?_
    rintro r w1 ⟨v1, rfl, h1, hx1⟩
    have HS1 := Lib.hid (HS.out w1 v1 h1)
    obtain ⟨ao, c, rfl⟩ := h1.shape
    have hb0 : BoxI (w.alloc (.cells #[.bool false, .slice none 0 0] 29)) w.heap.size false (.slice none 0 0) := ⟨blk_alloc_at _ _, fun _ _ h => (by cases h)⟩
    have HB1 := Lib.hid (hb0.ext hx1 id)
    have HX1 := Lib.hid (((Ext.refl (fun _ => False) w).alloc _).trans hx1)
    clear hb0 h1 hx1
    go_wp2_with fail
    refine HS1.out.mono ?_
    rintro r w2 ⟨v2, rfl, h2, hx2⟩
    have hb2 := HB1.out.ext hx2 id
    obtain ⟨f0, f1, f2, f3⟩ := hb2.facts
    obtain ⟨neg, so, sn, sc, rfl⟩ := h2.shape
    have hp := hb2.put (neg := neg) (no_int so sn sc)
    have HR : Hid (IsInt _ _ (n : Int) ∧ Ext (fun _ => False) w _) := Lib.hid ⟨hp.int h2, (HX1.out.trans hx2).own hp.ext (fun k e => by omega)⟩
    have hg := hp.box.facts
    have HG := Lib.hid hg
    clear hb2 h2 hx2 hp hg
    go_wp2
    generalize (w2.setCell ⟨w.heap.size, 0, none⟩ (.bool neg)).setCell ⟨w.heap.size, 1, none⟩ (.slice so sn sc) = w9 at *
    obtain ⟨g0, g1, _⟩ := HG.out
    exact bodyPost_ret (v := .agg #[.bool neg, .slice so sn sc]) (by simp [results, Tryz.results115, go_sem, g0, g1]) rfl ⟨_, rfl, HR.out.1, HR.out.2⟩
end Go.Proofs.YtbgienfcmdgaaaaGreat
/-
  Package integer: Neg. Conditions: the arguments read as integers, lengths bounded.
-/
namespace Go.Proofs.YtbgienfcmdgaaaaGreat
open Go.RowKit Go.MapKept
open Go.ChangeMaps (setBlock)

theorem boxI_new {W : World} {k : Nat} (hk : k = W.heap.size) (neg : Bool) (ao : Option Addr) (n c : Nat) : BoxI (W.alloc (.cells #[.bool neg, .slice ao n c] 29)) k neg (.slice ao n c) := by
  subst hk; exact ⟨blk_alloc_at _ _, no_int ao n c⟩
theorem BoxI.alloc {W : World} {k : Nat} {neg : Bool} {mag : Value} (h : BoxI W k neg mag) (o : Obj) : BoxI (W.alloc o) k neg mag := h.ext ((Ext.refl (fun _ => False) W).alloc o) id
theorem sg_not (neg : Bool) (n : Nat) : sg (!neg) n = -sg neg n := by cases neg <;> simp [sg]
theorem dg_len_add {x y a b : Nat} (hx : x < 4294967296 ^ a) (hy : y < 4294967296 ^ b) : (dg (x + y)).length ≤ max a b + 1 := by
  refine dg_length_le ?_
  have h1 := pow_mono (Nat.le_max_left a b)
  have h2 := pow_mono (Nat.le_max_right a b)
  rw [pow_next]
  omega
theorem dg_len_mul {x y a b : Nat} (hx : x < 4294967296 ^ a) (hy : y < 4294967296 ^ b) : (dg (x * y)).length ≤ a + b := by
  refine dg_length_le ?_
  rw [Nat.pow_add]
  exact Nat.mul_lt_mul'' hx hy
set_option maxRecDepth 100000 in
set_option maxHeartbeats 2000000 in
theorem ineg_any (w : World) (v : Value) (z : Int) (L : Nat) (h : Rint w v z L) (hL : L ≤ 134217728) :
    Calls Tryz.prog 120 #[v] w (IntPost w (-z)) := by
  obtain ⟨neg, mag, l, rfl, hr, hl, rfl⟩ := h
  have HA := Lib.hid (fun W (hW : Ext (fun _ => False) w W) => add_any W mag (.slice none 0 0) l [] (hr.keep hW) (Rds.nil W) (by omega) (by simp))
  have hln : (dg (vl l)).length ≤ 134217728 := Nat.le_trans (dg_length_le (vl_lt hr.1)) (Nat.le_trans hl hL)
  rw [show vl l + vl [] = vl l from rfl] at HA
  have HS := Lib.hid (fun W v h => signed_any W (!neg) v (vl l) h (by omega))
  rw [sg_not] at HS
  have hmi := hr.noInt
  obtain ⟨ao, c, rfl, _⟩ := hr.2
  generalize l.length = m at *
  generalize vl l = n at *
  clear hr hl hln
  go_enter Tryz.func120, Tryz.ntmps120
  go_upto_region 0 with fail
  go_cut [1, 2] (fun v1 v2 wx => ∃ b r, v1 = .pointer (some ⟨b, 0, none⟩) ∧ v2 = .pointer (some ⟨r, 0, none⟩) ∧ BoxI wx b neg (.slice ao m c) ∧ BoxI wx r false (.slice none 0 0) ∧ w.heap.size ≤ r ∧ Ext (fun _ => False) w wx)
  case first =>
    go_wp2
    go_meet
    exact ⟨_, _, rfl, rfl, (boxI_new rfl neg ao m c).alloc _, boxI_new (by simp) false none 0 0, (by omega), ((Ext.refl _ w).alloc _).alloc _⟩
  case rest =>
    obtain ⟨b, r, rfl, rfl, hb, hrb, hle, hx⟩ := hcut
    obtain ⟨c0, c1, _⟩ := hb.facts
    have HB := Lib.hid (And.intro hb (And.intro hrb hx))
    clear hb hrb hx
    go_upto_region 1 with fail
    go_region_law (first
      | (go_simp; go_at_call 161; (with_reducible refine (HA.out _ ?_).mono ?_); (exact HB.out.2.2.drew); rintro r5 w5 ⟨v5, rfl, h5, hx5⟩; have hS5 := HS.out w5 v5 h5; obtain ⟨c05, c15, _⟩ := ((HB.out.1.ext (Ext.refl (fun _ => False) wc).drew id).ext hx5 id).facts; have hr5 := (HB.out.2.1.ext (Ext.refl (fun _ => False) wc).drew id).ext hx5 id; have hX5 := HB.out.2.2.drew.trans hx5; obtain ⟨ao5, k5, rfl⟩ := h5.shape)
      | (go_simp; go_at_call 152; (with_reducible refine hS5.mono ?_); rintro r6 w6 ⟨v6, rfl, h6, hx6⟩; have hr6 := hr5.ext hx6 id; obtain ⟨d0, d1, d2, d3⟩ := hr6.facts; have hX6 := hX5.trans hx6; obtain ⟨neg6, so, sn, sc, rfl⟩ := h6.shape))
    all_goals
      have hp := hr6.put (neg := neg6) (no_int so sn sc)
      have HR := Lib.hid (And.intro (hp.int h6) (And.intro (hX6.own hp.ext (fun k e => by omega)) hp.box))
      clear hp h6 hX6 hr6 hx6 d0 d1 d2 d3
      generalize (w6.setCell ⟨r, 0, none⟩ (.bool neg6)).setCell ⟨r, 1, none⟩ (.slice so sn sc) = w9 at *
      obtain ⟨g0, g1, _⟩ := HR.out.2.2.facts
      go_wp2
      exact bodyPost_ret (v := .agg #[.bool neg6, .slice so sn sc]) (by simp [results, Tryz.results120, go_sem, g0, g1]) rfl ⟨_, rfl, HR.out.1, HR.out.2.1⟩
end Go.Proofs.YtbgienfcmdgaaaaGreat
/-
  Package integer: Mul. Conditions: the arguments read as integers, lengths bounded.
-/
namespace Go.Proofs.YtbgienfcmdgaaaaGreat
open Go.RowKit Go.MapKept
open Go.ChangeMaps (setBlock)

/-- two boxes, by their cells -/
abbrev SI2 (b b' : Nat) (n n' : Bool) (m m' : Value) (W : World) : Prop :=
  W.cell? ⟨b, 0, none⟩ = some (.bool n) ∧ W.cell? ⟨b, 1, none⟩ = some m ∧ W.cell? ⟨b', 0, none⟩ = some (.bool n') ∧ W.cell? ⟨b', 1, none⟩ = some m'
theorem SI2.of {b b' : Nat} {n n' : Bool} {m m' : Value} {W : World} (h : BoxI W b n m) (h' : BoxI W b' n' m') : SI2 b b' n n' m m' W := ⟨h.facts.1, h.facts.2.1, h'.facts.1, h'.facts.2.1⟩
theorem SI2.drew {b b' : Nat} {n n' : Bool} {m m' : Value} {W : World} (h : SI2 b b' n n' m m' W) : SI2 b b' n n' m m' W.drew := h
theorem SI2.set {b b' : Nat} {n n' : Bool} {m m' : Value} {W : World} (h : SI2 b b' n n' m m' W) (p : Addr) (u : Value) (h1 : ¬ b = p.block) (h2 : ¬ b' = p.block) : SI2 b b' n n' m m' (W.setCell p u) := by
  obtain ⟨a, b, c, d⟩ := h
  exact ⟨(World.cell?_setCell_other _ _ _ _ (fun e => h1 (by rw [e]))).trans a, (World.cell?_setCell_other _ _ _ _ (fun e => h1 (by rw [e]))).trans b, (World.cell?_setCell_other _ _ _ _ (fun e => h2 (by rw [e]))).trans c, (World.cell?_setCell_other _ _ _ _ (fun e => h2 (by rw [e]))).trans d⟩
theorem sg_mul (a b : Bool) (x y : Nat) : sg (a != b) (x * y) = sg a x * sg b y := by
  cases a <;> cases b <;> simp [sg, Int.neg_mul, Int.mul_neg]
theorem Rint.open {w : World} {v : Value} {z : Int} {L : Nat} (h : Rint w v z L) : ∃ neg ao m c l, v = .agg #[.bool neg, .slice ao m c] ∧ Rds w (.slice ao m c) l ∧ l.length ≤ L ∧ z = sg neg (vl l) := by
  obtain ⟨neg, mag, l, rfl, hr, hl, rfl⟩ := h
  obtain ⟨ao, c, rfl, _⟩ := id hr.2
  exact ⟨neg, ao, _, c, l, rfl, hr, hl, rfl⟩
set_option maxRecDepth 100000 in
set_option maxHeartbeats 2000000 in
theorem imul_any (w : World) (v v' : Value) (z z' : Int) (L : Nat) (h : Rint w v z L) (h' : Rint w v' z' L) (hL : L ≤ 67108864) :
    Calls Tryz.prog 101 #[v, v'] w (IntPost w (z * z')) := by
  obtain ⟨neg, ao, m, c, l, rfl, hr, hl, rfl⟩ := h.open
  obtain ⟨neg', ao', m', c', l', rfl, hr', hl', rfl⟩ := h'.open
  have HA := Lib.hid (fun W (hW : Ext (fun _ => False) w W) => mul_any W _ _ l l' (hr.keep hW) (hr'.keep hW) (by omega) (by omega))
  have hln := dg_len_mul (vl_lt hr.1) (vl_lt hr'.1)
  rw [← sg_mul]
  obtain ⟨s, hs⟩ : ∃ s, (neg != neg') = s := ⟨_, rfl⟩
  rw [hs]
  have hs' : (!(neg == neg')) = s := hs
  have HS := Lib.hid (fun W v h => signed_any W s v (vl l * vl l') h (by omega))
  generalize vl l * vl l' = n at *
  clear hr hl hln hr' hl' h h' hs
  go_enter Tryz.func101, Tryz.ntmps101
  go_upto_region 0 with fail
  go_cut [2, 3, 4] (fun v1 v2 v3 wx => ∃ b b' r, v1 = .pointer (some ⟨b, 0, none⟩) ∧ v2 = .pointer (some ⟨b', 0, none⟩) ∧ v3 = .pointer (some ⟨r, 0, none⟩) ∧ BoxI wx b neg (.slice ao m c) ∧ BoxI wx b' neg' (.slice ao' m' c') ∧ BoxI wx r false (.slice none 0 0) ∧ ¬ b = r ∧ ¬ b' = r ∧ w.heap.size ≤ r ∧ Ext (fun _ => False) w wx)
  case first =>
    go_wp2
    go_meet
    exact ⟨_, _, _, rfl, rfl, rfl, ((boxI_new rfl neg ao m c).alloc _).alloc _, (boxI_new (by simp) neg' ao' m' c').alloc _, boxI_new (by simp) false none 0 0, (by omega), (by omega), (by omega), (((Ext.refl _ w).alloc _).alloc _).alloc _⟩
  case rest =>
    obtain ⟨b, b', r, rfl, rfl, rfl, hb, hb', hrb, n1, n2, hle, hx⟩ := hcut
    have hS := SI2.of hb hb'
    have HB := Lib.hid (And.intro hb (And.intro hb' (And.intro hrb hx)))
    clear hb hb' hrb hx
    go_upto_region 1 with fail
    go_region_held3 (SI2 b b' neg neg' (.slice ao m c) (.slice ao' m' c'))
      (repeat (first | (with_reducible assumption) | (with_reducible refine SI2.drew ?_) | (with_reducible refine SI2.set ?_ _ _ ?_ ?_) | (dsimp only; omega)))
      (first
        | (go_at_call 153; (with_reducible refine (HA.out _ ?_).mono ?_); (exact HB.out.2.2.2.drew); rintro r5 w5 ⟨v5, rfl, h5, hx5⟩; have hS5 := HS.out w5 v5 h5; have hK5 := SI2.of ((HB.out.1.ext (Ext.refl (fun _ => False) wc).drew id).ext hx5 id) ((HB.out.2.1.ext (Ext.refl (fun _ => False) wc).drew id).ext hx5 id); have hr5 := (HB.out.2.2.1.ext (Ext.refl (fun _ => False) wc).drew id).ext hx5 id; have hX5 := HB.out.2.2.2.drew.trans hx5; obtain ⟨ao5, k5, rfl⟩ := h5.shape)
        | (go_at_call 152; (with_reducible refine hS5.mono ?_); rintro r6 w6 ⟨v6, rfl, h6, hx6⟩; have hr6 := hr5.ext hx6 id; obtain ⟨d0, d1, d2, d3⟩ := hr6.facts; have hX6 := hX5.trans hx6; have hK6 := SI2.of (((HB.out.1.ext (Ext.refl (fun _ => False) wc).drew id).ext hx5 id).ext hx6 id) (((HB.out.2.1.ext (Ext.refl (fun _ => False) wc).drew id).ext hx5 id).ext hx6 id); obtain ⟨neg6, so, sn, sc, rfl⟩ := h6.shape))
    all_goals
      have hp := hr6.put (neg := neg6) (no_int so sn sc)
      have HR := Lib.hid (And.intro (hp.int h6) (And.intro (hX6.own hp.ext (fun k e => by omega)) hp.box))
      clear hp h6 hX6 hr6 hx6 d0 d1 d2 d3
      generalize (w6.setCell ⟨r, 0, none⟩ (.bool neg6)).setCell ⟨r, 1, none⟩ (.slice so sn sc) = w9 at *
      obtain ⟨g0, g1, _⟩ := HR.out.2.2.facts
      go_wp2
      exact bodyPost_ret (v := .agg #[.bool neg6, .slice so sn sc]) (by simp [results, Tryz.results101, go_sem, g0, g1]) rfl ⟨_, rfl, HR.out.1, HR.out.2.1⟩
end Go.Proofs.YtbgienfcmdgaaaaGreat
/-
  Package integer: Add. Conditions: the arguments read as integers, lengths bounded.
-/
namespace Go.Proofs.YtbgienfcmdgaaaaGreat
open Go.RowKit Go.MapKept
open Go.ChangeMaps (setBlock)

theorem sg_add (a : Bool) (x y : Nat) : sg a (x + y) = sg a x + sg a y := by cases a <;> simp [sg] <;> omega
theorem sg_sub (a b : Bool) (x y : Nat) (h : y ≤ x) (hab : ¬ a = b) : sg a (x - y) = sg a x + sg b y := by
  cases a <;> cases b <;> simp [sg] at * <;> omega
theorem dg_len_max {n x y a b : Nat} (h : n ≤ max x y) (hx : x < 4294967296 ^ a) (hy : y < 4294967296 ^ b) : (dg n).length ≤ max a b := by
  refine dg_length_le ?_
  have h1 := pow_mono (Nat.le_max_left a b)
  have h2 := pow_mono (Nat.le_max_right a b)
  omega
set_option maxRecDepth 100000 in
set_option maxHeartbeats 4000000 in
theorem iadd_any (w : World) (v v' : Value) (z z' : Int) (L : Nat) (h : Rint w v z L) (h' : Rint w v' z' L) (hL : L ≤ 134217728) :
    Calls Tryz.prog 116 #[v, v'] w (IntPost w (z + z')) := by
  obtain ⟨neg, ao, m, c, l, rfl, hr, hl, rfl⟩ := h.open
  obtain ⟨neg', ao', m', c', l', rfl, hr', hl', rfl⟩ := h'.open
  have HA := Lib.hid (fun W (hW : Ext (fun _ => False) w W) => add_any W _ _ l l' (hr.keep hW) (hr'.keep hW) (by omega) (by omega))
  have HC := Lib.hid (fun W (hW : Ext (fun _ => False) w W) => cmp_any W _ _ l l' (hr.keep hW) (hr'.keep hW) (by omega) (by omega))
  have HD := Lib.hid (fun W (h1 : Rds W (.slice ao m c) l) (h2 : Rds W (.slice ao' m' c') l') => sub_any W _ _ l l' h1 h2 (by omega) (by omega))
  have HD' := Lib.hid (fun W (h1 : Rds W (.slice ao m c) l) (h2 : Rds W (.slice ao' m' c') l') => sub_any W _ _ l' l h2 h1 (by omega) (by omega))
  have hln := dg_len_add (vl_lt hr.1) (vl_lt hr'.1)
  have hS2 := fun n (h : n ≤ max (vl l) (vl l')) => dg_len_max h (vl_lt hr.1) (vl_lt hr'.1)
  have HS := Lib.hid (fun W s v n (h : IsNat W v n) (hn : n ≤ max (vl l) (vl l') ∨ n = vl l + vl l') => signed_any W s v n h (by
    rcases hn with hn | rfl
    · have := hS2 n hn; omega
    · omega))
  have HR0 := Lib.hid (And.intro hr hr')
  generalize vl l = x at *
  generalize vl l' = y at *
  clear hr hl hln hr' hl' h h' hS2
  obtain ⟨Z, hZ⟩ : ∃ Z, sg neg x + sg neg' y = Z := ⟨_, rfl⟩
  rw [hZ]
  have HZ := Lib.hid hZ
  clear hZ
  go_enter Tryz.func116, Tryz.ntmps116
  go_upto_region 0 with fail
  go_cut [2, 3, 4] (fun v1 v2 v3 wx => ∃ b b' r, v1 = .pointer (some ⟨b, 0, none⟩) ∧ v2 = .pointer (some ⟨b', 0, none⟩) ∧ v3 = .pointer (some ⟨r, 0, none⟩) ∧ BoxI wx b neg (.slice ao m c) ∧ BoxI wx b' neg' (.slice ao' m' c') ∧ BoxI wx r false (.slice none 0 0) ∧ ¬ b = b' ∧ ¬ b = r ∧ ¬ b' = r ∧ w.heap.size ≤ b ∧ w.heap.size ≤ b' ∧ w.heap.size ≤ r ∧ Ext (fun _ => False) w wx)
  case first =>
    go_wp2
    go_meet
    exact ⟨_, _, _, rfl, rfl, rfl, ((boxI_new rfl neg ao m c).alloc _).alloc _, (boxI_new (by simp) neg' ao' m' c').alloc _, boxI_new (by simp) false none 0 0, (by omega), (by omega), (by omega), (by omega), (by omega), (by omega), (((Ext.refl _ w).alloc _).alloc _).alloc _⟩
  case rest =>
    obtain ⟨b, b', r, rfl, rfl, rfl, hb, hb', hrb, n0, n1, n2, le1, le2, hle, hx⟩ := hcut
    have hS := SI2.of hb hb'
    obtain ⟨c0, c1, c2, c3⟩ := hb.facts
    obtain ⟨e0, e1, e2, e3⟩ := hb'.facts
    have HB := Lib.hid (And.intro hb (And.intro hb' (And.intro hrb hx)))
    clear hb hb' hrb hx
    by_cases hn : neg = neg'
    · subst hn
      have HS1 := Lib.hid (fun W v h => HS.out W neg v (x + y) h (.inr rfl))
      rw [sg_add, HZ.out] at HS1
      clear c2 c3 e2 e3
      go_upto_region 2 with fail
      go_region_held3 (SI2 b b' neg neg (.slice ao m c) (.slice ao' m' c'))
        (repeat (first | (with_reducible assumption) | (with_reducible refine SI2.drew ?_) | (with_reducible refine SI2.set ?_ _ _ ?_ ?_) | (dsimp only; omega)))
        (first
          | (go_at_call 161; (with_reducible refine (HA.out _ ?_).mono ?_); (exact HB.out.2.2.2.drew); rintro r5 w5 ⟨v5, rfl, h5, hx5⟩; have hS5 := HS1.out w5 v5 h5; have hK5 := SI2.of ((HB.out.1.ext (Ext.refl (fun _ => False) wc).drew id).ext hx5 id) ((HB.out.2.1.ext (Ext.refl (fun _ => False) wc).drew id).ext hx5 id); have hr5 := (HB.out.2.2.1.ext (Ext.refl (fun _ => False) wc).drew id).ext hx5 id; have hX5 := HB.out.2.2.2.drew.trans hx5; obtain ⟨ao5, k5, rfl⟩ := h5.shape)
          | (go_at_call 152; (with_reducible refine hS5.mono ?_); rintro r6 w6 ⟨v6, rfl, h6, hx6⟩; have hr6 := hr5.ext hx6 id; obtain ⟨d0, d1, d2, d3⟩ := hr6.facts; have hX6 := hX5.trans hx6; have hK6 := SI2.of (((HB.out.1.ext (Ext.refl (fun _ => False) wc).drew id).ext hx5 id).ext hx6 id) (((HB.out.2.1.ext (Ext.refl (fun _ => False) wc).drew id).ext hx5 id).ext hx6 id); obtain ⟨neg6, so, sn, sc, rfl⟩ := h6.shape))
      all_goals
        have hp := hr6.put (neg := neg6) (no_int so sn sc)
        have HR := Lib.hid (And.intro (hp.int h6) (And.intro (hX6.own hp.ext (fun k e => by omega)) hp.box))
        clear hp h6 hX6 hr6 hx6 d0 d1 d2 d3
        generalize (w6.setCell ⟨r, 0, none⟩ (.bool neg6)).setCell ⟨r, 1, none⟩ (.slice so sn sc) = w9 at *
        obtain ⟨g0, g1, _⟩ := HR.out.2.2.facts
        go_wp2
        exact bodyPost_ret (v := .agg #[.bool neg6, .slice so sn sc]) (by simp [results, Tryz.results116, go_sem, g0, g1]) rfl ⟨_, rfl, HR.out.1, HR.out.2.1⟩
    · have hne : (neg == neg') = false := by simpa using hn
      have HC1 := Lib.hid (HC.out wc HB.out.2.2.2)
      by_cases hxy : x < y
      · have e : cmpN x y = -1 := by unfold cmpN; rw [if_pos hxy]
        rw [e] at HC1
        have HS1 := Lib.hid (fun W v h => HS.out W neg' v (y - x) h (.inl (by omega)))
        rw [sg_sub neg' neg y x (by omega) (fun h => hn h.symm), Int.add_comm, HZ.out] at HS1
        have Hxy := Lib.hid hxy
        clear e hn hxy
        go_wp2_with fail
        refine HC1.out.mono ?_
        rintro r7 w' ⟨rfl, hw⟩; obtain rfl := hw.symm
        clear hw HC1
        go_upto_region 4 with fail
        go_cut [] (fun wx => BoxI wx b neg' (.slice ao' m' c') ∧ BoxI wx b' neg (.slice ao m c) ∧ BoxI wx r false (.slice none 0 0) ∧ Rds wx (.slice ao m c) l ∧ Rds wx (.slice ao' m' c') l' ∧ Ext (fun _ => False) w wx)
        case first =>
          go_wp2
          go_meet
          have hp1 := HB.out.1.put (neg := neg') (no_int ao' m' c')
          have hp2 := (HB.out.2.1.ext hp1.ext (fun e => n0 e.symm)).put (neg := neg) (no_int ao m c)
          exact ⟨hp1.box.ext hp2.ext n0, hp2.box, (HB.out.2.2.1.ext hp1.ext (fun e => n1 e.symm)).ext hp2.ext (fun e => n2 e.symm), hp2.rds _ _ (hp1.rds _ _ (HR0.out.1.keep HB.out.2.2.2)), hp2.rds _ _ (hp1.rds _ _ (HR0.out.2.keep HB.out.2.2.2)), (HB.out.2.2.2.own hp1.ext (fun k e => by omega)).own hp2.ext (fun k e => by omega)⟩
        case rest =>
          obtain ⟨hb, hb', hrb, hr1, hr2, hx⟩ := hcut
          have HD1 := Lib.hid (HD'.out wc hr1 hr2)
          have hnl : ¬ y < x := by have := Hxy.out; omega
          obtain ⟨c0, c1, _⟩ := hb.facts
          obtain ⟨e0, e1, _⟩ := hb'.facts
          have HB' := Lib.hid (And.intro hb (And.intro hrb hx))
          have Hnl := Lib.hid hnl
          clear hb hb' hrb hx hnl
          go_wp2_with fail
          refine HD1.out.mono ?_
          intro r7 w7 hp7
          unfold SubPost at hp7
          rw [if_neg Hnl.out] at hp7
          obtain ⟨v7, rfl, h7, hx7⟩ := hp7
          have HS7 := Lib.hid (HS1.out w7 v7 h7)
          obtain ⟨c07, c17, _⟩ := (HB'.out.1.ext hx7 id).facts
          have HB7 := Lib.hid (And.intro (HB'.out.2.1.ext hx7 id) (HB'.out.2.2.trans hx7))
          obtain ⟨ao7, k7, rfl⟩ := h7.shape
          clear h7 hx7
          go_wp2_with fail
          refine HS7.out.mono ?_
          rintro r8 w6 ⟨v6, rfl, h6, hx6⟩
          have hr6 := HB7.out.1.ext hx6 id
          obtain ⟨d0, d1, d2, d3⟩ := hr6.facts
          have hX6 := HB7.out.2.trans hx6
          obtain ⟨neg6, so, sn, sc, rfl⟩ := h6.shape
          have hp := hr6.put (neg := neg6) (no_int so sn sc)
          have HR := Lib.hid (And.intro (hp.int h6) (And.intro (hX6.own hp.ext (fun k e => by omega)) hp.box))
          clear hp h6 hX6 hr6 hx6
          go_wp2
          generalize (w6.setCell ⟨r, 0, none⟩ (.bool neg6)).setCell ⟨r, 1, none⟩ (.slice so sn sc) = w9 at *
          obtain ⟨g0, g1, _⟩ := HR.out.2.2.facts
          exact bodyPost_ret (v := .agg #[.bool neg6, .slice so sn sc]) (by simp [results, Tryz.results116, go_sem, g0, g1]) rfl ⟨_, rfl, HR.out.1, HR.out.2.1⟩
      · have e : ¬ cmpN x y < 0 := by unfold cmpN; rw [if_neg hxy]; split <;> omega
        generalize hq : cmpN x y = cq at *
        have HS1 := Lib.hid (fun W v h => HS.out W neg v (x - y) h (.inl (by omega)))
        rw [sg_sub neg neg' x y (by omega) hn, HZ.out] at HS1
        have Hxy := Lib.hid hxy
        clear hq hn hxy
        go_wp2_with fail
        refine HC1.out.mono ?_
        rintro r7 w' ⟨rfl, hw⟩; obtain rfl := hw.symm
        clear hw HC1
        obtain ⟨hb, hb', hrb, hx⟩ := HB.out
        have HD1 := Lib.hid (HD.out wc (HR0.out.1.keep hx) (HR0.out.2.keep hx))
        have hnl : ¬ x < y := Hxy.out
        obtain ⟨c0, c1, _⟩ := hb.facts
        obtain ⟨e0, e1, _⟩ := hb'.facts
        have HB' := Lib.hid (And.intro hb (And.intro hrb hx))
        have Hnl := Lib.hid hnl
        clear hb hb' hrb hx hnl
        go_wp2_with fail
        refine HD1.out.mono ?_
        intro r7 w7 hp7
        unfold SubPost at hp7
        rw [if_neg Hnl.out] at hp7
        obtain ⟨v7, rfl, h7, hx7⟩ := hp7
        have HS7 := Lib.hid (HS1.out w7 v7 h7)
        obtain ⟨c07, c17, _⟩ := (HB'.out.1.ext hx7 id).facts
        have HB7 := Lib.hid (And.intro (HB'.out.2.1.ext hx7 id) (HB'.out.2.2.trans hx7))
        obtain ⟨ao7, k7, rfl⟩ := h7.shape
        clear h7 hx7
        go_wp2_with fail
        refine HS7.out.mono ?_
        rintro r8 w6 ⟨v6, rfl, h6, hx6⟩
        have hr6 := HB7.out.1.ext hx6 id
        obtain ⟨d0, d1, d2, d3⟩ := hr6.facts
        have hX6 := HB7.out.2.trans hx6
        obtain ⟨neg6, so, sn, sc, rfl⟩ := h6.shape
        have hp := hr6.put (neg := neg6) (no_int so sn sc)
        have HR := Lib.hid (And.intro (hp.int h6) (And.intro (hX6.own hp.ext (fun k e => by omega)) hp.box))
        clear hp h6 hX6 hr6 hx6
        go_wp2
        generalize (w6.setCell ⟨r, 0, none⟩ (.bool neg6)).setCell ⟨r, 1, none⟩ (.slice so sn sc) = w9 at *
        obtain ⟨g0, g1, _⟩ := HR.out.2.2.facts
        exact bodyPost_ret (v := .agg #[.bool neg6, .slice so sn sc]) (by simp [results, Tryz.results116, go_sem, g0, g1]) rfl ⟨_, rfl, HR.out.1, HR.out.2.1⟩
end Go.Proofs.YtbgienfcmdgaaaaGreat
/-
  Package integer: Sub, Cmp. Conditions: the arguments read as integers, lengths bounded.
-/
namespace Go.Proofs.YtbgienfcmdgaaaaGreat
open Go.RowKit Go.MapKept
open Go.ChangeMaps (setBlock)

theorem Rint.len {w : World} {v : Value} {z : Int} {L : Nat} (h : Rint w v z L) : (dg z.natAbs).length ≤ L := by
  obtain ⟨neg, mag, l, rfl, hr, hl, rfl⟩ := h
  rw [sg_natAbs]
  exact Nat.le_trans (dg_length_le (vl_lt hr.1)) hl
theorem Rint.mono {w : World} {v : Value} {z : Int} {L M : Nat} (h : Rint w v z L) (hl : L ≤ M) : Rint w v z M := by
  obtain ⟨neg, mag, l, h1, hr, h2, h3⟩ := h
  exact ⟨neg, mag, l, h1, hr, Nat.le_trans h2 hl, h3⟩
theorem len_add {x y : Int} {L : Nat} (hx : (dg x.natAbs).length ≤ L) (hy : (dg y.natAbs).length ≤ L) : (dg (x + y).natAbs).length ≤ L + 1 := by
  have h1 := dg_lt x.natAbs
  have h2 := dg_lt y.natAbs
  have h3 := Nat.lt_of_lt_of_le h1 (pow_mono hx)
  have h4 := Nat.lt_of_lt_of_le h2 (pow_mono hy)
  refine dg_length_le ?_
  rw [pow_next]
  omega
theorem len_mul {x y : Int} {L M : Nat} (hx : (dg x.natAbs).length ≤ L) (hy : (dg y.natAbs).length ≤ M) : (dg (x * y).natAbs).length ≤ L + M := by
  have h3 := Nat.lt_of_lt_of_le (dg_lt x.natAbs) (pow_mono hx)
  have h4 := Nat.lt_of_lt_of_le (dg_lt y.natAbs) (pow_mono hy)
  rw [Int.natAbs_mul]
  exact dg_len_mul h3 h4
set_option maxRecDepth 100000 in
set_option maxHeartbeats 4000000 in
theorem isub_any (w : World) (v v' : Value) (z z' : Int) (L : Nat) (h : Rint w v z L) (h' : Rint w v' z' L) (hL : L ≤ 134217728) :
    Calls Tryz.prog 151 #[v, v'] w (IntPost w (z - z')) := by
  have HN := Lib.hid (fun W (hW : Ext (fun _ => False) w W) => ineg_any W v' z' L (h'.keep hW) hL)
  have hl' : (dg (-z').natAbs).length ≤ L := by rw [Int.natAbs_neg]; exact h'.len
  have HA := Lib.hid (fun W (hW : Ext (fun _ => False) w W) u (hu : IsInt W u (-z')) => iadd_any W v u z (-z') L (h.keep hW) (hu.reads hl') hL)
  rw [← Int.sub_eq_add_neg] at HA
  obtain ⟨neg, ao, m, c, l, rfl, _, _, _⟩ := h.open
  obtain ⟨neg', ao', m', c', l', rfl, _, _, _⟩ := h'.open
  clear h h' hl'
  go_enter Tryz.func151, Tryz.ntmps151
  go_upto_region 0 with fail
  go_cut [2, 3, 4] (fun v1 v2 v3 wx => ∃ b b' r, v1 = .pointer (some ⟨b, 0, none⟩) ∧ v2 = .pointer (some ⟨b', 0, none⟩) ∧ v3 = .pointer (some ⟨r, 0, none⟩) ∧ BoxI wx b neg (.slice ao m c) ∧ BoxI wx b' neg' (.slice ao' m' c') ∧ BoxI wx r false (.slice none 0 0) ∧ ¬ b = r ∧ ¬ b' = r ∧ w.heap.size ≤ r ∧ Ext (fun _ => False) w wx)
  case first =>
    go_wp2
    go_meet
    exact ⟨_, _, _, rfl, rfl, rfl, ((boxI_new rfl neg ao m c).alloc _).alloc _, (boxI_new (by simp) neg' ao' m' c').alloc _, boxI_new (by simp) false none 0 0, (by omega), (by omega), (by omega), (((Ext.refl _ w).alloc _).alloc _).alloc _⟩
  case rest =>
    obtain ⟨b, b', r, rfl, rfl, rfl, hb, hb', hrb, n1, n2, hle, hx⟩ := hcut
    have hS := SI2.of hb hb'
    have HB := Lib.hid (And.intro hb (And.intro hb' (And.intro hrb hx)))
    clear hb hb' hrb hx
    go_upto_region 1 with fail
    go_region_held3 (SI2 b b' neg neg' (.slice ao m c) (.slice ao' m' c'))
      (repeat (first | (with_reducible assumption) | (with_reducible refine SI2.drew ?_) | (with_reducible refine SI2.set ?_ _ _ ?_ ?_) | (dsimp only; omega)))
      (first
        | (go_at_call 120; (with_reducible refine (HN.out _ ?_).mono ?_); (exact HB.out.2.2.2.drew); rintro r5 w5 ⟨v5, rfl, h5, hx5⟩; have hX5 := HB.out.2.2.2.drew.trans hx5; have hA5 := HA.out w5 hX5 v5 h5; have hK5 := SI2.of ((HB.out.1.ext (Ext.refl (fun _ => False) wc).drew id).ext hx5 id) ((HB.out.2.1.ext (Ext.refl (fun _ => False) wc).drew id).ext hx5 id); have hr5 := (HB.out.2.2.1.ext (Ext.refl (fun _ => False) wc).drew id).ext hx5 id; obtain ⟨neg5, ao5, n5, k5, rfl⟩ := h5.shape)
        | (go_at_call 116; (with_reducible refine hA5.mono ?_); rintro r6 w6 ⟨v6, rfl, h6, hx6⟩; have hr6 := hr5.ext hx6 id; obtain ⟨d0, d1, d2, d3⟩ := hr6.facts; have hX6 := hX5.trans hx6; have hK6 := SI2.of (((HB.out.1.ext (Ext.refl (fun _ => False) wc).drew id).ext hx5 id).ext hx6 id) (((HB.out.2.1.ext (Ext.refl (fun _ => False) wc).drew id).ext hx5 id).ext hx6 id); obtain ⟨neg6, so, sn, sc, rfl⟩ := h6.shape))
    all_goals
      have hp := hr6.put (neg := neg6) (no_int so sn sc)
      have HR := Lib.hid (And.intro (hp.int h6) (And.intro (hX6.own hp.ext (fun k e => by omega)) hp.box))
      clear hp h6 hX6 hr6 hx6 d0 d1 d2 d3
      generalize (w6.setCell ⟨r, 0, none⟩ (.bool neg6)).setCell ⟨r, 1, none⟩ (.slice so sn sc) = w9 at *
      obtain ⟨g0, g1, _⟩ := HR.out.2.2.facts
      go_wp2
      exact bodyPost_ret (v := .agg #[.bool neg6, .slice so sn sc]) (by simp [results, Tryz.results151, go_sem, g0, g1]) rfl ⟨_, rfl, HR.out.1, HR.out.2.1⟩
set_option maxRecDepth 100000 in
set_option maxHeartbeats 4000000 in
theorem icmp_any (w : World) (v v' : Value) (z z' : Int) (L : Nat) (h : Rint w v z L) (h' : Rint w v' z' L) (hL : L ≤ 134217728) :
    Calls Tryz.prog 100 #[v, v'] w fun r w' => r = .returned (.int .i64 (z - z').sign) ∧ Ext (fun _ => False) w w' := by
  have HN := Lib.hid (fun W (hW : Ext (fun _ => False) w W) => isub_any W v v' z z' L (h.keep hW) (h'.keep hW) hL)
  have hl' : (dg (z - z').natAbs).length ≤ L + 1 := by
    rw [Int.sub_eq_add_neg]
    exact len_add h.len (by rw [Int.natAbs_neg]; exact h'.len)
  have HA := Lib.hid (fun W u (hu : IsInt W u (z - z')) => isign_any W u (z - z') (L + 1) (hu.reads hl') (by omega))
  obtain ⟨neg, ao, m, c, l, rfl, _, _, _⟩ := h.open
  obtain ⟨neg', ao', m', c', l', rfl, _, _, _⟩ := h'.open
  clear h h' hl'
  generalize z - z' = d at *
  go_enter Tryz.func100, Tryz.ntmps100
  go_wp2_with fail
  refine (HN.out _ (((Ext.refl _ w).alloc _).alloc _)).mono ?_
  rintro r5 w5 ⟨v5, rfl, h5, hx5⟩
  have hA5 := Lib.hid (HA.out w5 v5 h5)
  have HX := Lib.hid ((((Ext.refl (fun _ => False) w).alloc _).alloc _).trans hx5)
  clear h5 hx5
  go_wp2_with fail
  refine hA5.out.mono ?_
  rintro r6 w6 ⟨rfl, hx6⟩
  have HX6 := Lib.hid (HX.out.trans hx6)
  clear hx6
  go_wp2
  go_ret
  exact ⟨rfl, HX6.out⟩
end Go.Proofs.YtbgienfcmdgaaaaGreat
/-
  Package integer: divide, Quo. Conditions: the arguments read as integers, the second is not 0, lengths bounded.
-/
namespace Go.Proofs.YtbgienfcmdgaaaaGreat
open Go.RowKit Go.MapKept
open Go.ChangeMaps (setBlock)

abbrev SI3 (b b' b2 : Nat) (n n' n2 : Bool) (m m' m2 : Value) (W : World) : Prop :=
  W.cell? ⟨b, 0, none⟩ = some (.bool n) ∧ W.cell? ⟨b, 1, none⟩ = some m ∧ W.cell? ⟨b', 0, none⟩ = some (.bool n') ∧ W.cell? ⟨b', 1, none⟩ = some m' ∧ W.cell? ⟨b2, 0, none⟩ = some (.bool n2) ∧ W.cell? ⟨b2, 1, none⟩ = some m2
theorem SI3.of {b b' b2 : Nat} {n n' n2 : Bool} {m m' m2 : Value} {W : World} (h : BoxI W b n m) (h' : BoxI W b' n' m') (h2 : BoxI W b2 n2 m2) : SI3 b b' b2 n n' n2 m m' m2 W := ⟨h.facts.1, h.facts.2.1, h'.facts.1, h'.facts.2.1, h2.facts.1, h2.facts.2.1⟩
theorem SI3.drew {b b' b2 : Nat} {n n' n2 : Bool} {m m' m2 : Value} {W : World} (h : SI3 b b' b2 n n' n2 m m' m2 W) : SI3 b b' b2 n n' n2 m m' m2 W.drew := h
theorem cell_other {W : World} {b i : Nat} {p : Addr} {u : Value} {x : Option Value} (h : W.cell? ⟨b, i, none⟩ = x) (hn : ¬ b = p.block) : (W.setCell p u).cell? ⟨b, i, none⟩ = x :=
  (World.cell?_setCell_other _ _ _ _ (fun e => hn (by rw [e]))).trans h
theorem SI3.set {b b' b2 : Nat} {n n' n2 : Bool} {m m' m2 : Value} {W : World} (h : SI3 b b' b2 n n' n2 m m' m2 W) (p : Addr) (u : Value) (h1 : ¬ b = p.block) (h2 : ¬ b' = p.block) (h3 : ¬ b2 = p.block) : SI3 b b' b2 n n' n2 m m' m2 (W.setCell p u) := by
  obtain ⟨a1, a2, a3, a4, a5, a6⟩ := h
  exact ⟨cell_other a1 h1, cell_other a2 h1, cell_other a3 h2, cell_other a4 h2, cell_other a5 h3, cell_other a6 h3⟩
theorem sg_zero (b : Bool) : sg b 0 = 0 := by cases b <;> rfl
theorem tdiv_nat (x y : Nat) : (x : Int).tdiv (y : Int) = ((x / y : Nat) : Int) := rfl
theorem sign_pos {x : Nat} (h : 0 < x) : (x : Int).sign = 1 := Int.sign_eq_one_of_pos (by omega)
theorem sg_tdiv (z z' : Int) : sg (decide (z.sign * z'.sign < 0)) (z.natAbs / z'.natAbs) = z.tdiv z' := by
  by_cases hq : z.natAbs / z'.natAbs = 0
  · rw [hq, sg_zero]
    have : (z.tdiv z').natAbs = 0 := by rw [Int.natAbs_tdiv]; exact hq
    omega
  · have hy : 0 < z'.natAbs := Nat.pos_of_ne_zero (fun h => hq (by rw [h, Nat.div_zero]))
    have hx : 0 < z.natAbs := Nat.pos_of_ne_zero (fun h => hq (by rw [h, Nat.zero_div]))
    rcases Int.natAbs_eq z with h | h <;> rcases Int.natAbs_eq z' with h' | h' <;> generalize z.natAbs = x at * <;> generalize z'.natAbs = y at * <;> subst h <;> subst h'
    · rw [sign_pos hx, sign_pos hy]; rfl
    · rw [Int.sign_neg, sign_pos hx, sign_pos hy, Int.tdiv_neg]; rfl
    · rw [Int.sign_neg, sign_pos hx, sign_pos hy, Int.neg_tdiv]; rfl
    · rw [Int.sign_neg, Int.sign_neg, sign_pos hx, sign_pos hy, Int.neg_tdiv, Int.tdiv_neg, Int.neg_neg]; rfl
set_option maxRecDepth 100000 in
set_option maxHeartbeats 1000000 in
theorem quof_any (w : World) (a b : Bool) : Calls Tryz.prog 197 #[.bool a, .bool b] w fun r w' => r = .returned (.bool false) ∧ w' = w := by
  go_enter Tryz.func197, Tryz.ntmps197
  go_wp2
  go_ret
  exact ⟨rfl, rfl⟩
def QuoPost (w : World) (z z' : Int) (r : Ending) (w' : World) : Prop :=
  ∃ q s, r = .returned (.tuple #[q, s, .int .i64 0]) ∧ IsInt w' q (z.tdiv z') ∧ IsInt w' s (z - z.tdiv z' * z') ∧ Ext (fun _ => False) w w'
set_option maxRecDepth 100000 in
set_option maxHeartbeats 4000000 in
theorem divide_any (w : World) (v v' : Value) (z z' : Int) (L : Nat) (h : Rint w v z L) (h' : Rint w v' z' L) (h0 : ¬ z' = 0) (hL : L ≤ 33554432) :
    Calls Tryz.prog 196 #[v, v', .func (.func 197) #[] #[]] w (QuoPost w z z') := by
  have HG1 := Lib.hid (fun W (hW : Ext (fun _ => False) w W) => isign_any W v z L (h.keep hW) (by omega))
  have HG2 := Lib.hid (fun W (hW : Ext (fun _ => False) w W) => isign_any W v' z' L (h'.keep hW) (by omega))
  have hlq : (dg (z.tdiv z').natAbs).length ≤ L := by
    rw [Int.natAbs_tdiv]
    exact Nat.le_trans (dg_mono (Nat.div_le_self _ _)) h.len
  have HM := Lib.hid (fun W (hW : Ext (fun _ => False) w W) u (hu : IsInt W u (z.tdiv z')) => imul_any W u v' (z.tdiv z') z' L (hu.reads hlq) (h'.keep hW) (by omega))
  have HU := Lib.hid (fun W (hW : Ext (fun _ => False) w W) u (hu : IsInt W u (z.tdiv z' * z')) => isub_any W v u z (z.tdiv z' * z') (L + L) ((h.keep hW).mono (by omega)) (hu.reads (len_mul hlq h'.len)) (by omega))
  have hsg := sg_tdiv z z'
  have hlz := h.len
  obtain ⟨neg, ao, m, c, l, rfl, hr, hl, hz⟩ := h.open
  obtain ⟨neg', ao', m', c', l', rfl, hr', hl', hz'⟩ := h'.open
  have HD := Lib.hid (fun W (hW : Ext (fun _ => False) w W) => divmod_any W _ _ l l' (hr.keep hW) (hr'.keep hW) (by omega) (by omega))
  have e1 : vl l = z.natAbs := by rw [hz, sg_natAbs]
  have e2 : vl l' = z'.natAbs := by rw [hz', sg_natAbs]
  rw [e1, e2] at HD
  have hy0 : ¬ z'.natAbs = 0 := by omega
  have hDP : ∀ W, DivPost W z.natAbs z'.natAbs = fun r w' => ∃ v1 v2, r = .returned (.tuple #[v1, v2, .int .i64 0]) ∧ IsNat w' v1 (z.natAbs / z'.natAbs) ∧ IsNat w' v2 (z.natAbs % z'.natAbs) ∧ Ext (fun _ => False) W w' := fun W => by
    funext r w'; unfold DivPost; rw [if_neg hy0]
  simp only [hDP] at HD
  have HS := Lib.hid (fun W v n (hn : IsNat W v (z.natAbs / z'.natAbs)) => signed_any W n v _ hn (Nat.le_trans (Nat.le_trans (dg_mono (Nat.div_le_self _ _)) hlz) (by omega)))
  have hPb : -1 ≤ z.sign * z'.sign ∧ z.sign * z'.sign ≤ 1 := by
    rcases Int.sign_trichotomy z with h | h | h <;> rcases Int.sign_trichotomy z' with h' | h' | h' <;> rw [h, h'] <;> decide
  have hPw : IntKind.i64.wrap (z.sign * z'.sign) = z.sign * z'.sign := IntWalk.i64_in _ (by omega)
  obtain ⟨PP, hPP⟩ : ∃ PP, z.sign * z'.sign = PP := ⟨_, rfl⟩
  rw [hPP] at hPw hPb hsg
  obtain ⟨P, hP⟩ : ∃ P, decide (PP < 0) = P := ⟨_, rfl⟩
  rw [hP] at hsg
  have Hsg := Lib.hid hsg
  generalize z.natAbs / z'.natAbs = x at *
  generalize z.natAbs % z'.natAbs = y at *
  unfold QuoPost
  have hq : ∀ t t' : Int, t = t → t' = t' → True := fun _ _ _ _ => trivial
  clear hr hr' hl hl' h h' hz hz' e1 e2 hy0 hDP hlq hlz hsg hq
  generalize z.tdiv z' = q at *
  generalize z - q * z' = s at *
  generalize q * z' = qz at *
  generalize z.sign = sz at *
  generalize z'.sign = sz' at *
  go_enter Tryz.func196, Tryz.ntmps196
  go_upto_region 0 with fail
  go_cut [3, 4, 6, 7, 8] (fun v1 v2 v3 v4 v8 wx => ∃ b b' r r', v1 = .pointer (some ⟨b, 0, none⟩) ∧ v2 = .pointer (some ⟨b', 0, none⟩) ∧ v3 = .pointer (some ⟨r, 0, none⟩) ∧ v4 = .pointer (some ⟨r', 0, none⟩) ∧ v8 = .int .i64 0 ∧ BoxI wx b neg (.slice ao m c) ∧ BoxI wx b' neg' (.slice ao' m' c') ∧ BoxI wx r false (.slice none 0 0) ∧ BoxI wx r' false (.slice none 0 0) ∧ ¬ b = r ∧ ¬ b' = r ∧ ¬ b = r' ∧ ¬ b' = r' ∧ ¬ r = r' ∧ w.heap.size ≤ r ∧ w.heap.size ≤ r' ∧ Ext (fun _ => False) w wx)
  case first =>
    go_wp2
    go_meet
    exact ⟨_, _, _, _, rfl, rfl, rfl, rfl, rfl, (((boxI_new rfl neg ao m c).alloc _).alloc _).alloc _, ((boxI_new (by simp) neg' ao' m' c').alloc _).alloc _, (boxI_new (by simp) false none 0 0).alloc _, boxI_new (by simp) false none 0 0, (by omega), (by omega), (by omega), (by omega), (by omega), (by omega), (by omega), ((((Ext.refl _ w).alloc _).alloc _).alloc _).alloc _⟩
  case rest =>
    obtain ⟨b, b', r, r', rfl, rfl, rfl, rfl, rfl, hb, hb', hrb, hrb', n1, n2, n3, n4, n5, hle, hle', hx⟩ := hcut
    obtain ⟨c0, c1, _⟩ := hb.facts
    obtain ⟨e0, e1, _⟩ := hb'.facts
    have HD1 := Lib.hid (HD.out wc hx)
    have HB := Lib.hid (And.intro hb (And.intro hb' (And.intro hrb (And.intro hrb' hx))))
    clear hb hb' hrb hrb' hx
    go_wp2_with fail
    refine HD1.out.mono ?_
    rintro r1 w1 ⟨v1, v2, rfl, h1, h2, hx1⟩
    have hS := SI2.of (HB.out.1.ext hx1 id) (HB.out.2.1.ext hx1 id)
    have HX1 := Lib.hid (And.intro hx1 h1)
    obtain ⟨ao2, c2, rfl⟩ := h2.shape
    obtain ⟨ao1, c1', rfl⟩ := h1.shape
    clear h1 h2 hx1 c0 c1 e0 e1
    generalize (dg y).length = ly at *
    generalize (dg x).length = lx at *
    go_upto_region 4 with fail
    go_region_held3 (SI2 b b' neg neg' (.slice ao m c) (.slice ao' m' c'))
      (repeat (first | (with_reducible assumption) | (with_reducible refine SI2.drew ?_) | (with_reducible refine SI2.set ?_ _ _ ?_ ?_) | (dsimp only; omega)))
      (first
        | (go_at_call 99; (with_reducible refine (HG1.out _ ?_).mono ?_); (exact (HB.out.2.2.2.2.trans HX1.out.1).drew); rintro r2 w2 ⟨rfl, hx2⟩; have hX2 := HX1.out.1.drew.trans hx2; have hK2 := SI2.of (HB.out.1.ext hX2 id) (HB.out.2.1.ext hX2 id))
        | (go_at_call 99; (with_reducible refine (HG2.out _ ?_).mono ?_); (exact HB.out.2.2.2.2.trans hX2); rintro r3 w3 ⟨rfl, hx3⟩; have hX3 := hX2.trans hx3; have hK3 := SI2.of (HB.out.1.ext hX3 id) (HB.out.2.1.ext hX3 id)))
    have h13 : Ext (fun _ => False) w1 w3 := (Ext.refl _ w1).drew.trans (hx2.trans hx3)
    have HX3 := Lib.hid (And.intro (HX1.out.2.keep h13) hX3)
    clear hK2 hK3 hX2 hX3 hx2 hx3 h13 hS hPw hPP hPb
    go_wp2_with fail
    refine (quof_any _ _ _).mono ?_
    rintro r4 w4 ⟨rfl, hw⟩; obtain rfl := hw.symm
    clear hw
    have HS3 := Lib.hid (HS.out w3 _ P HX3.out.1)
    rw [Hsg.out] at HS3
    go_wp2_with fail
    refine HS3.out.mono ?_
    rintro r5 w5 ⟨v5, rfl, h5, hx5⟩
    have HX5 := Lib.hid (And.intro h5 (HX3.out.2.trans hx5))
    obtain ⟨neg5, ao5, n6, k5, rfl⟩ := h5.shape
    clear h5 hx5 HS3
    go_upto_region 8 with fail
    obtain ⟨bq, hbq⟩ : ∃ bq, w5.heap.size = bq := ⟨_, rfl⟩
    have hbox := boxI_new hbq.symm neg5 ao5 n6 k5
    have hx57 := (Ext.refl (fun _ => False) w5).alloc (.cells #[.bool neg5, .slice ao5 n6 k5] 29)
    rw [hbq]
    generalize w5.alloc (.cells #[.bool neg5, .slice ao5 n6 k5] 29) = w7 at *
    have hX7 := HX5.out.2.trans hx57
    have hI7 := HX5.out.1.keep hx57
    have HM7 := Lib.hid (HM.out w7.drew (HB.out.2.2.2.2.trans hX7).drew _ (hI7.keep (Ext.refl _ w7).drew))
    have hS := SI3.of (HB.out.1.ext hX7 id) (HB.out.2.1.ext hX7 id) hbox
    have HX7 := Lib.hid (And.intro hX7 (And.intro hI7 hbox))
    have hq1 : ¬ bq = r := fun e => by
      have h1 := HB.out.2.2.1.lt
      have h2 := HX5.out.2.size
      omega
    have hq2 : ¬ bq = r' := fun e => by
      have h1 := HB.out.2.2.2.1.lt
      have h2 := HX5.out.2.size
      omega
    clear hX7 hI7 hbox hx57 hbq HX5 HX3 HX1 hP
    go_region_held3 (SI3 b b' bq neg neg' neg5 (.slice ao m c) (.slice ao' m' c') (.slice ao5 n6 k5))
      (repeat (first | (with_reducible assumption) | (with_reducible refine SI3.drew ?_) | (with_reducible refine SI3.set ?_ _ _ ?_ ?_ ?_) | (dsimp only; omega)))
      (first
        | (go_at_call 101; (with_reducible refine HM7.out.mono ?_); rintro r8 w8 ⟨v8, rfl, h8, hx8⟩; have hx78 := (Ext.refl (fun _ => False) w7).drew.trans hx8; have hX8 := HX7.out.1.trans hx78; have hU8 := HU.out w8 (HB.out.2.2.2.2.trans hX8) v8 h8; have hK8 := SI3.of (HB.out.1.ext hX8 id) (HB.out.2.1.ext hX8 id) (HX7.out.2.2.ext hx78 id); obtain ⟨neg8, ao8, n8, k8, rfl⟩ := h8.shape)
        | (go_at_call 151; (with_reducible refine hU8.mono ?_); rintro r9 w9 ⟨v9, rfl, h9, hx9⟩; have hx79 := hx78.trans hx9; have hX9 := HX7.out.1.trans hx79; have hK9 := SI3.of (HB.out.1.ext hX9 id) (HB.out.2.1.ext hX9 id) (HX7.out.2.2.ext hx79 id); have hr9 := HB.out.2.2.1.ext hX9 id; have hr9' := HB.out.2.2.2.1.ext hX9 id; obtain ⟨d0, d1, d2, d3⟩ := hr9.facts; obtain ⟨f0, f1, f2, f3⟩ := hr9'.facts; obtain ⟨neg9, ao9, n9, k9, rfl⟩ := h9.shape))
    have hp1 := hr9.put (neg := neg5) (no_int ao5 n6 k5)
    have hp2 := (hr9'.ext hp1.ext (fun e => n5 e.symm)).put (neg := neg9) (no_int ao9 n9 k9)
    have HR := Lib.hid (And.intro (hp2.int (hp1.int (HX7.out.2.1.keep hx79))) (And.intro (hp2.int (hp1.int h9)) (And.intro (((HB.out.2.2.2.2.trans hX9).own hp1.ext (fun k e => by omega)).own hp2.ext (fun k e => by omega)) (And.intro (hp1.box.ext hp2.ext n5) hp2.box))))
    clear hp1 hp2 h8 h9 hx8 hx9 hx78 hx79 hX8 hX9 hK8 hK9 hU8 d0 d1 d2 d3 f0 f1 f2 f3 hr9 hr9' hS
    generalize (((w9.setCell ⟨r, 0, none⟩ (.bool neg5)).setCell ⟨r, 1, none⟩ (.slice ao5 n6 k5)).setCell ⟨r', 0, none⟩ (.bool neg9)).setCell ⟨r', 1, none⟩ (.slice ao9 n9 k9) = w10 at *
    obtain ⟨g0, g1, _⟩ := HR.out.2.2.2.1.facts
    obtain ⟨g2, g3, _⟩ := HR.out.2.2.2.2.facts
    go_wp2
    exact bodyPost_ret (v := .tuple #[.agg #[.bool neg5, .slice ao5 n6 k5], .agg #[.bool neg9, .slice ao9 n9 k9], .int .i64 0]) (by simp [results, Tryz.results196, go_sem, g0, g1, g2, g3]) rfl ⟨_, _, rfl, HR.out.1, HR.out.2.1, HR.out.2.2.1⟩
set_option maxRecDepth 100000 in
set_option maxHeartbeats 4000000 in
theorem quo_any (w : World) (v v' : Value) (z z' : Int) (L : Nat) (h : Rint w v z L) (h' : Rint w v' z' L) (h0 : ¬ z' = 0) (hL : L ≤ 33554432) :
    Calls Tryz.prog 165 #[v, v'] w (QuoPost w z z') := by
  have HD := Lib.hid (fun W (hW : Ext (fun _ => False) w W) => divide_any W v v' z z' L (h.keep hW) (h'.keep hW) h0 hL)
  obtain ⟨neg, ao, m, c, l, rfl, _, _, _⟩ := h.open
  obtain ⟨neg', ao', m', c', l', rfl, _, _, _⟩ := h'.open
  clear h h'
  unfold QuoPost at *
  generalize z.tdiv z' = q at *
  generalize z - q * z' = s at *
  go_enter Tryz.func165, Tryz.ntmps165
  go_upto_region 0 with fail
  go_cut [2, 3, 4, 5, 6] (fun v1 v2 v3 v4 v8 wx => ∃ b b' r r', v1 = .pointer (some ⟨b, 0, none⟩) ∧ v2 = .pointer (some ⟨b', 0, none⟩) ∧ v3 = .pointer (some ⟨r, 0, none⟩) ∧ v4 = .pointer (some ⟨r', 0, none⟩) ∧ v8 = .int .i64 0 ∧ BoxI wx b neg (.slice ao m c) ∧ BoxI wx b' neg' (.slice ao' m' c') ∧ BoxI wx r false (.slice none 0 0) ∧ BoxI wx r' false (.slice none 0 0) ∧ ¬ r = r' ∧ w.heap.size ≤ r ∧ w.heap.size ≤ r' ∧ Ext (fun _ => False) w wx)
  case first =>
    go_wp2
    go_meet
    exact ⟨_, _, _, _, rfl, rfl, rfl, rfl, rfl, (((boxI_new rfl neg ao m c).alloc _).alloc _).alloc _, ((boxI_new (by simp) neg' ao' m' c').alloc _).alloc _, (boxI_new (by simp) false none 0 0).alloc _, boxI_new (by simp) false none 0 0, (by omega), (by omega), (by omega), ((((Ext.refl _ w).alloc _).alloc _).alloc _).alloc _⟩
  case rest =>
    obtain ⟨b, b', r, r', rfl, rfl, rfl, rfl, rfl, hb, hb', hrb, hrb', n5, hle, hle', hx⟩ := hcut
    obtain ⟨c0, c1, _⟩ := hb.facts
    obtain ⟨e0, e1, _⟩ := hb'.facts
    have HD1 := Lib.hid (HD.out wc hx)
    have HB := Lib.hid (And.intro hrb (And.intro hrb' hx))
    clear hb hb' hrb hrb' hx
    go_wp2_with fail
    refine HD1.out.mono ?_
    rintro r1 w9 ⟨v1, v2, rfl, h1, h2, hx1⟩
    have hr9 := HB.out.1.ext hx1 id
    have hr9' := HB.out.2.1.ext hx1 id
    obtain ⟨d0, d1, d2, d3⟩ := hr9.facts
    obtain ⟨f0, f1, f2, f3⟩ := hr9'.facts
    obtain ⟨neg5, ao5, n6, k5, rfl⟩ := h1.shape
    obtain ⟨neg9, ao9, n9, k9, rfl⟩ := h2.shape
    have hp1 := hr9.put (neg := neg5) (no_int ao5 n6 k5)
    have hp2 := (hr9'.ext hp1.ext (fun e => n5 e.symm)).put (neg := neg9) (no_int ao9 n9 k9)
    have HR := Lib.hid (And.intro (hp2.int (hp1.int h1)) (And.intro (hp2.int (hp1.int h2)) (And.intro (((HB.out.2.2.trans hx1).own hp1.ext (fun k e => by omega)).own hp2.ext (fun k e => by omega)) (And.intro (hp1.box.ext hp2.ext n5) hp2.box))))
    clear hp1 hp2 h1 h2 hx1 hr9 hr9' c0 c1 e0 e1
    go_wp2
    generalize (((w9.setCell ⟨r, 0, none⟩ (.bool neg5)).setCell ⟨r, 1, none⟩ (.slice ao5 n6 k5)).setCell ⟨r', 0, none⟩ (.bool neg9)).setCell ⟨r', 1, none⟩ (.slice ao9 n9 k9) = w10 at *
    obtain ⟨g0, g1, _⟩ := HR.out.2.2.2.1.facts
    obtain ⟨g2, g3, _⟩ := HR.out.2.2.2.2.facts
    exact bodyPost_ret (v := .tuple #[.agg #[.bool neg5, .slice ao5 n6 k5], .agg #[.bool neg9, .slice ao9 n9 k9], .int .i64 0]) (by simp [results, Tryz.results165, go_sem, g0, g1, g2, g3]) rfl ⟨_, _, rfl, HR.out.1, HR.out.2.1, HR.out.2.2.1⟩
end Go.Proofs.YtbgienfcmdgaaaaGreat
/-
  Package rational: how its numbers read; boxes that hold a fraction; den, From, Sign. Conditions: the arguments read as fractions, lengths bounded.
-/
namespace Go.Proofs.YtbgienfcmdgaaaaGreat
open Go.RowKit Go.MapKept
open Go.ChangeMaps (setBlock)

/-- a denominator as it counts: 0 digits stand for 1 -/
def dn (d : Nat) : Nat := if d = 0 then 1 else d
theorem dn_pos (d : Nat) : 0 < dn d := by unfold dn; split <;> omega
/-- a value reads as the fraction q, in at most L digits each -/
def Rrat (w : World) (v : Value) (q : Rat) (L : Nat) : Prop := ∃ neg mag dv' l d, v = .agg #[.bool neg, mag, dv'] ∧ Rds w mag l ∧ l.length ≤ L ∧ Rds w dv' d ∧ d.length ≤ L ∧ q = mkRat (sg neg (vl l)) (dn (vl d))
/-- how a denominator is written in the only form -/
def dw (d : Nat) : Nat := if d = 1 then 0 else d
/-- a value in the only form -/
def IsRat (w : World) (v : Value) (q : Rat) : Prop := ∃ mag dv', v = .agg #[.bool (decide (q.num < 0)), mag, dv'] ∧ IsNat w mag q.num.natAbs ∧ IsNat w dv' (dw q.den)
def RatPost (w : World) (q : Rat) (r : Ending) (w' : World) : Prop := ∃ v, r = .returned v ∧ IsRat w' v q ∧ Ext (fun _ => False) w w'
def RintPost (w : World) (z : Int) (L : Nat) (r : Ending) (w' : World) : Prop := ∃ v, r = .returned v ∧ Rint w' v z L ∧ Ext (fun _ => False) w w'
/-- at most L digits each -/
def Sz (q : Rat) (L : Nat) : Prop := (dg q.num.natAbs).length ≤ L ∧ (dg q.den).length ≤ L
theorem Rrat.keep {w w' : World} {v : Value} {q : Rat} {L : Nat} (h : Rrat w v q L) (hx : Ext (fun _ => False) w w') : Rrat w' v q L := by
  obtain ⟨neg, mag, dv', l, d, h1, h2, h3, h4, h5⟩ := h
  exact ⟨neg, mag, dv', l, d, h1, h2.keep hx, h3, h4.keep hx, h5⟩
theorem IsRat.keep {w w' : World} {v : Value} {q : Rat} (h : IsRat w v q) (hx : Ext (fun _ => False) w w') : IsRat w' v q := by
  obtain ⟨mag, dv', h1, h2, h3⟩ := h
  exact ⟨mag, dv', h1, h2.keep hx, h3.keep hx⟩
theorem dn_dw (q : Rat) : dn (dw q.den) = q.den := by
  have := q.den_nz
  unfold dn dw
  by_cases h : q.den = 1
  · rw [if_pos h, if_pos rfl, h]
  · rw [if_neg h, if_neg this]
theorem dw_le (d : Nat) : dw d ≤ d := by unfold dw; split <;> omega
theorem sg_self (z : Int) : sg (decide (z < 0)) z.natAbs = z := by
  unfold sg
  split
  · rename_i h; have := of_decide_eq_true h; omega
  · rename_i h; have : ¬ z < 0 := fun h' => h (decide_eq_true h'); omega
theorem IsRat.reads {w : World} {v : Value} {q : Rat} {L : Nat} (h : IsRat w v q) (hl : Sz q L) : Rrat w v q L := by
  obtain ⟨mag, dv', h1, h2, h3⟩ := h
  exact ⟨_, mag, dv', _, _, h1, h2, hl.1, h3, Nat.le_trans (dg_mono (dw_le _)) hl.2, by rw [vl_dg, vl_dg, dn_dw, sg_self, Rat.mkRat_self]⟩
theorem Rrat.open {w : World} {v : Value} {q : Rat} {L : Nat} (h : Rrat w v q L) : ∃ neg ao m c ao' m' c' l d, v = .agg #[.bool neg, .slice ao m c, .slice ao' m' c'] ∧ Rint w (.agg #[.bool neg, .slice ao m c]) (sg neg (vl l)) L ∧ Rds w (.slice ao' m' c') d ∧ m' = d.length ∧ d.length ≤ L ∧ q = mkRat (sg neg (vl l)) (dn (vl d)) := by
  obtain ⟨neg, mag, dv', l, d, rfl, h1, h2, h3, h4, h5⟩ := h
  obtain ⟨ao, c, rfl, _⟩ := id h1.2
  obtain ⟨ao', c', rfl, _⟩ := id h3.2
  exact ⟨neg, ao, _, c, ao', _, c', l, d, rfl, ⟨neg, _, l, rfl, h1, h2, rfl⟩, h3, rfl, h4, h5⟩
/-- a block that holds a fraction -/
def BoxR (w : World) (b : Nat) (neg : Bool) (mag den : Value) : Prop := blk w b = some (.cells #[.bool neg, mag, den] 31 (0, 0)) ∧ (∀ k d, mag ≠ .int k d) ∧ ∀ k d, den ≠ .int k d
theorem BoxR.lt {w : World} {b : Nat} {neg : Bool} {mag den : Value} (h : BoxR w b neg mag den) : b < w.heap.size := blk_lt h.1
theorem BoxR.facts {w : World} {b : Nat} {neg : Bool} {mag den : Value} (h : BoxR w b neg mag den) : w.cell? ⟨b, 0, none⟩ = some (.bool neg) ∧ w.cell? ⟨b, 1, none⟩ = some mag ∧ w.cell? ⟨b, 2, none⟩ = some den ∧ w.frozen? ⟨b, 0, none⟩ = false ∧ w.frozen? ⟨b, 1, none⟩ = false ∧ w.frozen? ⟨b, 2, none⟩ = false :=
  ⟨by simpa using cell_of_cells h.1 0, by simpa using cell_of_cells h.1 1, by simpa using cell_of_cells h.1 2, free_of_cells h.1 0, free_of_cells h.1 1, free_of_cells h.1 2⟩
theorem BoxR.noDig {w : World} {b : Nat} {neg : Bool} {mag den : Value} (h : BoxR w b neg mag den) : NoDig w b := fun i d => by
  rw [cell_of_cells h.1 i]
  match i with
  | 0 => simp
  | 1 => simpa using h.2.1 .u32 d
  | 2 => simpa using h.2.2 .u32 d
  | i + 3 => simp
theorem BoxR.ext {S : Nat → Prop} {w w' : World} {b : Nat} {neg : Bool} {mag den : Value} (h : BoxR w b neg mag den) (hx : Ext S w w') (hn : ¬ S b) : BoxR w' b neg mag den := ⟨(hx.blk h.lt hn).trans h.1, h.2⟩
theorem boxR_new {W : World} {k : Nat} (hk : k = W.heap.size) (neg : Bool) (ao : Option Addr) (n c : Nat) (ao' : Option Addr) (n' c' : Nat) : BoxR (W.alloc (.cells #[.bool neg, .slice ao n c, .slice ao' n' c'] 31)) k neg (.slice ao n c) (.slice ao' n' c') := by
  subst hk; exact ⟨blk_alloc_at _ _, no_int ao n c, no_int ao' n' c'⟩
theorem BoxR.alloc {W : World} {k : Nat} {neg : Bool} {mag den : Value} (h : BoxR W k neg mag den) (o : Obj) : BoxR (W.alloc o) k neg mag den := h.ext ((Ext.refl (fun _ => False) W).alloc o) id
/-- a fraction is stored -/
structure PutR (w w' : World) (r : Nat) (neg : Bool) (mag den : Value) : Prop where
  box : BoxR w' r neg mag den
  ext : Ext (fun k => k = r) w w'
  rds : ∀ v l, Rds w v l → Rds w' v l
theorem BoxR.put {w : World} {r : Nat} {n0 neg : Bool} {m0 mag d0 den : Value} (h : BoxR w r n0 m0 d0) (hm : ∀ k d, mag ≠ .int k d) (hd : ∀ k d, den ≠ .int k d) : PutR w (((w.setCell ⟨r, 0, none⟩ (.bool neg)).setCell ⟨r, 1, none⟩ mag).setCell ⟨r, 2, none⟩ den) r neg mag den := by
  have hx : Ext (fun k => k = r) w (((w.setCell ⟨r, 0, none⟩ (.bool neg)).setCell ⟨r, 1, none⟩ mag).setCell ⟨r, 2, none⟩ den) := (((Ext.refl (fun k => k = r) w).setCell (p := ⟨r, 0, none⟩) _ (fun _ => rfl)).setCell (p := ⟨r, 1, none⟩) _ (fun _ => rfl)).setCell (p := ⟨r, 2, none⟩) _ (fun _ => rfl)
  refine ⟨⟨?_, hm, hd⟩, hx, fun v l hr => hr.past hx (fun k _ e => by subst e; exact h.noDig)⟩
  have h1 := blk_setCell_same h.1 0 (.bool neg)
  have h2 := blk_setCell_same h1 1 mag
  have h3 := blk_setCell_same h2 2 den
  simpa using h3
theorem PutR.int {w w' : World} {r : Nat} {neg : Bool} {mag den v : Value} {z : Int} (h : PutR w w' r neg mag den) (hi : IsInt w v z) : IsInt w' v z := by
  obtain ⟨m, h1, h2⟩ := hi
  exact ⟨m, h1, h.rds _ _ h2⟩
theorem PutR.rat {w w' : World} {r : Nat} {neg : Bool} {mag den v : Value} {q : Rat} (h : PutR w w' r neg mag den) (hi : IsRat w v q) : IsRat w' v q := by
  obtain ⟨mag, dv', h1, h2, h3⟩ := hi
  exact ⟨mag, dv', h1, h.rds _ _ h2, h.rds _ _ h3⟩
theorem IsRat.shape {w : World} {v : Value} {q : Rat} (h : IsRat w v q) : ∃ neg ao n c ao' n' c', v = .agg #[.bool neg, .slice ao n c, .slice ao' n' c'] := by
  obtain ⟨mag, dv', rfl, h2, h3⟩ := h
  obtain ⟨ao, c, rfl⟩ := h2.shape
  obtain ⟨ao', c', rfl⟩ := h3.shape
  exact ⟨_, ao, _, c, ao', _, c', rfl⟩
theorem IsRat.mk {w : World} {neg : Bool} {mag dv' : Value} {q : Rat} (h : IsInt w (.agg #[.bool neg, mag]) q.num) (hd : IsNat w dv' (dw q.den)) : IsRat w (.agg #[.bool neg, mag, dv']) q := by
  obtain ⟨m, h1, h2⟩ := h
  injection h1 with h1
  simp at h1
  obtain ⟨rfl, rfl⟩ := h1
  exact ⟨mag, dv', rfl, h2, hd⟩
theorem IsRat.ofInt {w : World} {neg : Bool} {mag : Value} {z : Int} (h : IsInt w (.agg #[.bool neg, mag]) z) : IsRat w (.agg #[.bool neg, mag, .slice none 0 0]) (z : Rat) :=
  IsRat.mk (by rw [Rat.num_intCast]; exact h) (by rw [Rat.den_intCast]; exact IsNat.nil w)
theorem Put.rint {w w' : World} {r : Nat} {neg : Bool} {mag v : Value} {z : Int} {L : Nat} (h : Put w w' r neg mag) (hi : Rint w v z L) : Rint w' v z L := by
  obtain ⟨n, m, l, h1, h2, h3⟩ := hi
  exact ⟨n, m, l, h1, h.rds _ _ h2, h3⟩
theorem Rint.shape {w : World} {v : Value} {z : Int} {L : Nat} (h : Rint w v z L) : ∃ neg ao n c, v = .agg #[.bool neg, .slice ao n c] := by
  obtain ⟨neg, ao, m, c, l, h1, _⟩ := h.open
  exact ⟨neg, ao, m, c, h1⟩
theorem div_gcd {z : Int} {g : Nat} (hg : 0 < g) (h : g ∣ z.natAbs) : ∃ k : Int, z = g * k ∧ z / (g : Int) = k ∧ z.tdiv g = k := by
  obtain ⟨k, hk⟩ := Int.ofNat_dvd_left.2 h
  have hg0 : (g : Int) ≠ 0 := by omega
  exact ⟨k, hk, by rw [hk, Int.mul_ediv_cancel_left _ hg0], by rw [hk, Int.mul_tdiv_cancel_left _ hg0]⟩
theorem sign_mkRat (z : Int) {d : Nat} (hd : 0 < d) : (mkRat z d).num.sign = z.sign := by
  have hg : 0 < d.gcd z.natAbs := Nat.gcd_pos_of_pos_left _ hd
  obtain ⟨k, h1, h2, _⟩ := div_gcd hg (Nat.gcd_dvd_right d z.natAbs)
  rw [Rat.num_mkRat, if_neg (by omega), h2]
  generalize d.gcd z.natAbs = g at *
  rw [h1, Int.sign_mul, sign_pos hg, Int.one_mul]
def DenPost (w : World) (d L : Nat) (r : Ending) (w' : World) : Prop := RintPost w (dn d : Nat) L r w'
set_option maxRecDepth 100000 in
set_option maxHeartbeats 4000000 in
theorem den_any (w : World) (v : Value) (neg : Bool) (ao : Option Addr) (m c : Nat) (ao' : Option Addr) (m' c' : Nat) (d : List Nat) (L : Nat) (hv : v = .agg #[.bool neg, .slice ao m c, .slice ao' m' c'])
    (h : Rds w (.slice ao' m' c') d) (hl : d.length ≤ L) (hL : L ≤ 268435455) (h1 : 1 ≤ L) :
    Calls Tryz.prog 102 #[v] w (RintPost w (dn (vl d) : Nat) L) := by
  subst hv
  have HB := Lib.hid (fun W (hW : Ext (fun _ => False) w W) => bits_any W _ d (h.keep hW) (by omega))
  have HF := Lib.hid (fun W => ifrom_any W 1 (by omega) (by omega))
  have HR := Lib.hid (And.intro h hl)
  clear h hl
  obtain ⟨Z, hZ⟩ : ∃ Z : Int, (dn (vl d) : Int) = Z := ⟨_, rfl⟩
  rw [hZ]
  by_cases h0 : vl d = 0
  · have hz : Z = 1 := by rw [← hZ]; unfold dn; rw [if_pos h0]; rfl
    subst hz
    have H0 := Lib.hid h0
    clear h0 hZ
    go_enter Tryz.func102, Tryz.ntmps102
    go_wp2_with fail
    refine (HB.out _ (((Ext.refl _ w).alloc _).alloc _)).mono ?_
    rintro r w' ⟨q, rfl, hw, hq⟩
    subst hw
    obtain rfl := hq.2 H0.out
    clear HB hq
    obtain ⟨rb, hrb⟩ : ∃ rb, w.heap.size + 1 = rb := ⟨_, rfl⟩
    have hb0 := boxI_new (W := w.alloc (.cells #[.bool neg, .slice ao m c, .slice ao' m' c'] 31)) (k := rb) (by simp; omega) false none 0 0
    have hx0 : Ext (fun _ => False) w ((w.alloc (.cells #[.bool neg, .slice ao m c, .slice ao' m' c'] 31)).alloc (.cells #[.bool false, .slice none 0 0] 29)) := ((Ext.refl _ w).alloc _).alloc _
    rw [hrb]
    generalize (w.alloc (.cells #[.bool neg, .slice ao m c, .slice ao' m' c'] 31)).alloc (.cells #[.bool false, .slice none 0 0] 29) = w1 at *
    have HB0 := Lib.hid (And.intro hb0 hx0)
    clear hb0 hx0
    go_wp2_with fail
    refine (HF.out _).mono ?_
    rintro r6 w6 ⟨v6, rfl, h6, hx6⟩
    have hr6 := HB0.out.1.ext hx6 id
    obtain ⟨d0, d1, d2, d3⟩ := hr6.facts
    have hX6 := HB0.out.2.trans hx6
    obtain ⟨neg6, so, sn, sc, rfl⟩ := h6.shape
    have hp := hr6.put (neg := neg6) (no_int so sn sc)
    have HR := Lib.hid (And.intro ((hp.int h6).reads (L := L) (Nat.le_trans (dg_length_le (k := 1) (by decide)) h1)) (And.intro (hX6.own hp.ext (fun k e => by omega)) hp.box))
    clear hp h6 hX6 hr6 hx6
    go_wp2
    generalize (w6.setCell ⟨rb, 0, none⟩ (.bool neg6)).setCell ⟨rb, 1, none⟩ (.slice so sn sc) = w9 at *
    obtain ⟨g0, g1, _⟩ := HR.out.2.2.facts
    exact bodyPost_ret (v := .agg #[.bool neg6, .slice so sn sc]) (by simp [results, Tryz.results102, go_sem, g0, g1]) rfl ⟨_, rfl, HR.out.1, HR.out.2.1⟩
  · have hz : Z = (vl d : Int) := by rw [← hZ]; unfold dn; rw [if_neg h0]
    have HZ := Lib.hid hz
    have H0 := Lib.hid h0
    clear h0 hZ hz
    go_enter Tryz.func102, Tryz.ntmps102
    go_wp2_with fail
    refine (HB.out _ (((Ext.refl _ w).alloc _).alloc _)).mono ?_
    rintro r w' ⟨q, rfl, hw, hq⟩
    subst hw
    have hq0 : ¬ (q : Int) = 0 := fun h => H0.out (hq.1 (by omega))
    clear HB hq
    have hx0 : Ext (fun _ => False) w ((w.alloc (.cells #[.bool neg, .slice ao m c, .slice ao' m' c'] 31)).alloc (.cells #[.bool false, .slice ao' m' c'] 29)) := ((Ext.refl _ w).alloc _).alloc _
    have HX0 := Lib.hid hx0
    clear hx0
    go_wp2
    exact bodyPost_ret (v := .agg #[.bool false, .slice ao' m' c']) (by simp [results, Tryz.results102, go_sem]) rfl ⟨_, rfl, ⟨false, _, d, rfl, HR.out.1.keep HX0.out, HR.out.2, by rw [HZ.out]; rfl⟩, HX0.out⟩
set_option maxRecDepth 100000 in
set_option maxHeartbeats 4000000 in
theorem rfrom_any (w : World) (k : Int) (h0 : -9223372036854775808 ≤ k) (h1 : k ≤ 9223372036854775807) :
    Calls Tryz.prog 66 #[.int .i64 k] w (RatPost w (k : Rat)) := by
  have HF := Lib.hid (fun W => ifrom_any W k h0 h1)
  obtain ⟨q, hq⟩ : ∃ q : Rat, (k : Rat) = q := ⟨_, rfl⟩
  have hof : ∀ W neg mag, IsInt W (.agg #[.bool neg, mag]) k → IsRat W (.agg #[.bool neg, mag, .slice none 0 0]) q := fun W neg mag h => by rw [← hq]; exact IsRat.ofInt h
  have Hof := Lib.hid hof
  rw [hq]
  clear hof hq h0 h1
  go_enter Tryz.func66, Tryz.ntmps66
  go_wp2_with fail
  refine (HF.out _).mono ?_
  rintro r6 w6 ⟨v6, rfl, h6, hx6⟩
  have hr6 := (boxR_new rfl false none 0 0 none 0 0 (W := w)).ext hx6 id
  obtain ⟨d0, d1, d2, d3, d4, d5⟩ := hr6.facts
  have hX6 := ((Ext.refl (fun _ => False) w).alloc _).trans hx6
  obtain ⟨neg6, so, sn, sc, rfl⟩ := h6.shape
  have hp := hr6.put (neg := neg6) (no_int so sn sc) (no_int none 0 0)
  have HR := Lib.hid (And.intro (hp.rat (Hof.out _ _ _ h6)) (And.intro (hX6.own hp.ext (fun k e => by omega)) hp.box))
  clear hp h6 hX6 hr6 hx6
  go_wp2
  generalize ((w6.setCell ⟨w.heap.size, 0, none⟩ (.bool neg6)).setCell ⟨w.heap.size, 1, none⟩ (.slice so sn sc)).setCell ⟨w.heap.size, 2, none⟩ (.slice none 0 0) = w9 at *
  obtain ⟨g0, g1, g2, _⟩ := HR.out.2.2.facts
  exact bodyPost_ret (v := .agg #[.bool neg6, .slice so sn sc, .slice none 0 0]) (by simp [results, Tryz.results66, go_sem, g0, g1, g2]) rfl ⟨_, rfl, HR.out.1, HR.out.2.1⟩
set_option maxRecDepth 100000 in
set_option maxHeartbeats 4000000 in
theorem rsign_any (w : World) (v : Value) (q : Rat) (L : Nat) (h : Rrat w v q L) (hL : L ≤ 268435455) :
    Calls Tryz.prog 51 #[v] w fun r w' => r = .returned (.int .i64 q.num.sign) ∧ Ext (fun _ => False) w w' := by
  obtain ⟨neg, ao, m, c, ao', m', c', l, d, rfl, h1, _, _, _, rfl⟩ := h.open
  rw [sign_mkRat _ (dn_pos _)]
  have HS := Lib.hid (fun W (hW : Ext (fun _ => False) w W) => isign_any W _ _ L (h1.keep hW) hL)
  generalize sg neg (vl l) = z at *
  clear h h1
  go_enter Tryz.func51, Tryz.ntmps51
  go_wp2_with fail
  refine (HS.out _ ((Ext.refl _ w).alloc _)).mono ?_
  rintro r6 w6 ⟨rfl, hx6⟩
  have HX6 := Lib.hid (((Ext.refl (fun _ => False) w).alloc _).trans hx6)
  clear hx6
  go_wp2
  go_ret
  exact ⟨rfl, HX6.out⟩
end Go.Proofs.YtbgienfcmdgaaaaGreat
/-
  Package rational: reduced. Conditions: the arguments read as integers, the second is positive, lengths bounded.
-/
namespace Go.Proofs.YtbgienfcmdgaaaaGreat
open Go.RowKit Go.MapKept
open Go.ChangeMaps (setBlock)

theorem red_num {z : Int} {y : Nat} (hy : 0 < y) : z.tdiv ((Nat.gcd z.natAbs y : Nat) : Int) = (mkRat z y).num ∧ (y : Int).tdiv ((Nat.gcd z.natAbs y : Nat) : Int) = ((mkRat z y).den : Int) := by
  have hg : 0 < Nat.gcd z.natAbs y := Nat.gcd_pos_of_pos_right _ hy
  have hc : y.gcd z.natAbs = Nat.gcd z.natAbs y := Nat.gcd_comm _ _
  obtain ⟨k, h1, h2, h3⟩ := div_gcd hg (Nat.gcd_dvd_left z.natAbs y)
  rw [Rat.num_mkRat, Rat.den_mkRat, if_neg (by omega), if_neg (by omega), hc, h2, h3]
  exact ⟨rfl, tdiv_nat _ _⟩
theorem cmpN_one (d : Nat) : cmpN d 1 = 0 ↔ d = 1 := by unfold cmpN; split <;> (try split) <;> omega
abbrev S1 (b : Nat) (m : Value) (W : World) : Prop := W.cell? ⟨b, 1, none⟩ = some m
theorem S1.drew {b : Nat} {m : Value} {W : World} (h : S1 b m W) : S1 b m W.drew := h
set_option maxRecDepth 100000 in
set_option maxHeartbeats 4000000 in
theorem reduced_any (w : World) (v v' : Value) (z : Int) (y L : Nat) (h : Rint w v z L) (h' : Rint w v' (y : Int) L) (hy : 0 < y) (hL : L ≤ 33554432) :
    Calls Tryz.prog 119 #[v, v'] w (RatPost w (mkRat z y)) := by
  have HSg := Lib.hid (fun W (hW : Ext (fun _ => False) w W) => isign_any W v' y L (h'.keep hW) (by omega))
  rw [sign_pos hy] at HSg
  obtain ⟨hq1, hq2⟩ := red_num (z := z) hy
  have hg : 0 < Nat.gcd z.natAbs y := Nat.gcd_pos_of_pos_right _ hy
  have hgl : (dg (Nat.gcd z.natAbs y)).length ≤ L := Nat.le_trans (dg_mono (Nat.gcd_le_right _ hy)) h'.len
  have HQ1 := Lib.hid (fun W (hW : Ext (fun _ => False) w W) ao n c (hu : IsNat W (.slice ao n c) (Nat.gcd z.natAbs y)) => quo_any W v (.agg #[.bool false, .slice ao n c]) z ((Nat.gcd z.natAbs y : Nat) : Int) L (h.keep hW) ⟨false, _, _, rfl, hu, hgl, by rw [vl_dg]; rfl⟩ (by omega) hL)
  have HQ2 := Lib.hid (fun W (hW : Ext (fun _ => False) w W) ao n c (hu : IsNat W (.slice ao n c) (Nat.gcd z.natAbs y)) => quo_any W v' (.agg #[.bool false, .slice ao n c]) y ((Nat.gcd z.natAbs y : Nat) : Int) L (h'.keep hW) ⟨false, _, _, rfl, hu, hgl, by rw [vl_dg]; rfl⟩ (by omega) hL)
  unfold QuoPost at HQ1 HQ2
  simp only [hq1, hq2] at HQ1 HQ2
  have hdl : (dg (mkRat z y).den).length ≤ L := by
    have : (mkRat z y).den ≤ y := by
      have e := hq2
      rw [tdiv_nat] at e
      have := Nat.div_le_self y (Nat.gcd z.natAbs y)
      omega
    exact Nat.le_trans (dg_mono this) h'.len
  have HC := Lib.hid (fun W u u' (h1 : IsNat W u (mkRat z y).den) (h2 : IsNat W u' 1) => cmp_any W u u' _ _ h1 h2 (by omega) (Nat.le_trans (dg_two (n := 1) (by decide)).1 (by decide)))
  simp only [vl_dg] at HC
  have hF : ∀ W, Calls Tryz.prog 160 #[.int .u64 1] W (NatPost W 1) := fun W => from_any W 1 (by decide)
  have HF := Lib.hid hF
  clear hF
  obtain ⟨neg, ao, m, c, l, rfl, hr, hl, hz⟩ := h.open
  obtain ⟨neg', ao', m', c', l', rfl, hr', hl', hz'⟩ := h'.open
  have HG := Lib.hid (fun W (hW : Ext (fun _ => False) w W) => gcd_any W _ _ l l' (hr.keep hW) (hr'.keep hW) (by omega) (by omega))
  have e1 : vl l = z.natAbs := by rw [hz, sg_natAbs]
  have e2 : vl l' = y := by have := congrArg Int.natAbs hz'; rw [sg_natAbs] at this; simpa using this.symm
  rw [e1, e2] at HG
  clear hq1 hq2 hg hgl hdl hr hr' hl hl' hz hz' e1 e2 h h'
  generalize Nat.gcd z.natAbs y = g at *
  generalize mkRat z y = q at *
  go_enter Tryz.func119, Tryz.ntmps119
  go_upto_region 0 with fail
  go_cut [2, 3, 4] (fun v1 v2 v3 wx => ∃ b b' r, v1 = .pointer (some ⟨b, 0, none⟩) ∧ v2 = .pointer (some ⟨b', 0, none⟩) ∧ v3 = .pointer (some ⟨r, 0, none⟩) ∧ BoxI wx b neg (.slice ao m c) ∧ BoxI wx b' neg' (.slice ao' m' c') ∧ BoxR wx r false (.slice none 0 0) (.slice none 0 0) ∧ w.heap.size ≤ r ∧ Ext (fun _ => False) w wx)
  case first =>
    go_wp2
    go_meet
    exact ⟨_, _, _, rfl, rfl, rfl, ((boxI_new rfl neg ao m c).alloc _).alloc _, (boxI_new (by simp) neg' ao' m' c').alloc _, boxR_new (by simp) false none 0 0 none 0 0, (by omega), (((Ext.refl _ w).alloc _).alloc _).alloc _⟩
  case rest =>
    obtain ⟨b, b', r, rfl, rfl, rfl, hb, hb', hrb, hle, hx⟩ := hcut
    obtain ⟨e0, e1, _⟩ := hb'.facts
    have HB := Lib.hid (And.intro hb (And.intro hb' (And.intro hrb hx)))
    clear hb hb' hrb hx
    go_wp2_with fail
    refine (HSg.out _ HB.out.2.2.2).mono ?_
    rintro r1 w1 ⟨rfl, hx1⟩
    have HX1 := Lib.hid hx1
    obtain ⟨c10, c11, _⟩ := (HB.out.1.ext hx1 id).facts
    obtain ⟨e10, e11, _⟩ := (HB.out.2.1.ext hx1 id).facts
    have HG1 := Lib.hid (HG.out w1 (HB.out.2.2.2.trans hx1))
    clear hx1 e0 e1
    go_wp2_with fail
    refine HG1.out.mono ?_
    rintro r2 w2 ⟨vg, rfl, hg2, hx2⟩
    obtain ⟨aog, cg, rfl⟩ := hg2.shape
    generalize (dg g).length = ng at *
    clear c10 c11 e10 e11 HG1
    -- the box of the gcd
    have hbg := boxI_new (W := w2) rfl false aog ng cg
    have hx23 := (Ext.refl (fun _ => False) w2).alloc (.cells #[.bool false, .slice aog ng cg] 29)
    have hX3 := (HX1.out.trans hx2).trans hx23
    go_upto_region 4 with fail
    obtain ⟨bg, hbge⟩ : ∃ bg, w2.heap.size = bg := ⟨_, rfl⟩
    rw [hbge] at hbg ⊢
    generalize w2.alloc (.cells #[.bool false, .slice aog ng cg] 29) = w3 at *
    obtain ⟨c0, c1, _⟩ := (HB.out.1.ext hX3 id).facts
    obtain ⟨g0, g1, _⟩ := hbg.facts
    have HQ13 := Lib.hid (HQ1.out w3 (HB.out.2.2.2.trans hX3) aog ng cg (hg2.keep hx23))
    have HX3 := Lib.hid (And.intro hX3 (And.intro hbg (hg2.keep hx23)))
    clear hg2 hx2 hX3 hbg hx23 hbge HX1
    go_wp2_with fail
    refine HQ13.out.mono ?_
    rintro r4 w4 ⟨vn, vs, rfl, hn4, hs4, hx4⟩
    obtain ⟨nn, aon, mn, cn, rfl⟩ := hn4.shape
    obtain ⟨ns, aos, ms, cs, rfl⟩ := hs4.shape
    have hX4 := HX3.out.1.trans hx4
    clear c0 c1 g0 g1
    go_upto_region 5 with fail
    obtain ⟨bn, hbne⟩ : ∃ bn, w4.heap.size = bn := ⟨_, rfl⟩
    have hbn := (boxI_new (W := w4) rfl nn aon mn cn).alloc (.cells #[.bool ns, .slice aos ms cs] 29)
    have hx45 := ((Ext.refl (fun _ => False) w4).alloc (.cells #[.bool nn, .slice aon mn cn] 29)).alloc (.cells #[.bool ns, .slice aos ms cs] 29)
    rw [hbne] at hbn ⊢
    generalize (w4.alloc (.cells #[.bool nn, .slice aon mn cn] 29)).alloc (.cells #[.bool ns, .slice aos ms cs] 29) = w5 at *
    have hX5 := hX4.trans hx45
    obtain ⟨e0, e1, _⟩ := (HB.out.2.1.ext hX5 id).facts
    obtain ⟨g0, g1, _⟩ := (HX3.out.2.1.ext (hx4.trans hx45) id).facts
    have HQ25 := Lib.hid (HQ2.out w5 (HB.out.2.2.2.trans hX5) aog ng cg (HX3.out.2.2.keep (hx4.trans hx45)))
    have HX5 := Lib.hid (And.intro hX5 (And.intro (hn4.keep hx45) hbn))
    clear hX4 hx4 hX5 hx45 hbn hn4 hs4 hbne
    go_wp2_with fail
    refine HQ25.out.mono ?_
    rintro r6 w6 ⟨vd, vt, rfl, hd6, ht6, hx6⟩
    obtain ⟨nd, aod, md, cd, rfl⟩ := hd6.shape
    obtain ⟨nt, aot, mt, ct, rfl⟩ := ht6.shape
    have hX6 := HX5.out.1.trans hx6
    clear e0 e1 g0 g1
    go_upto_region 6 with fail
    obtain ⟨bd, hbde⟩ : ∃ bd, w6.heap.size = bd := ⟨_, rfl⟩
    have hbd := (boxI_new (W := w6) rfl nd aod md cd).alloc (.cells #[.bool nt, .slice aot mt ct] 29)
    have hx67 := ((Ext.refl (fun _ => False) w6).alloc (.cells #[.bool nd, .slice aod md cd] 29)).alloc (.cells #[.bool nt, .slice aot mt ct] 29)
    rw [hbde] at hbd ⊢
    generalize (w6.alloc (.cells #[.bool nd, .slice aod md cd] 29)).alloc (.cells #[.bool nt, .slice aot mt ct] 29) = w7 at *
    have hX7 := hX6.trans hx67
    have hnd : IsNat w7 (.slice aod md cd) q.den := by
      obtain ⟨m0, h1, h2⟩ := hd6.keep hx67
      cases h1
      rw [Int.natAbs_natCast] at h2
      exact h2
    have hS : S1 bd (.slice aod md cd) w7 := hbd.facts.2.1
    have HX7 := Lib.hid (And.intro hX7 (And.intro (HX5.out.2.1.keep (hx6.trans hx67)) (And.intro (HX5.out.2.2.ext (hx6.trans hx67) id) (And.intro hbd hnd))))
    clear hX6 hx6 hX7 hx67 hbd hd6 ht6 hbde hnd
    go_region_held3 (S1 bd (.slice aod md cd))
      (repeat (first | (with_reducible assumption) | (with_reducible refine S1.drew ?_)))
      (first
        | (go_at_call 160; (with_reducible refine (HF.out _).mono ?_); rintro r8 w8 ⟨v8, rfl, h8, hx8⟩; have hx78 := (Ext.refl (fun _ => False) w7).drew.trans hx8; have hK8 : S1 bd (.slice aod md cd) w8 := (HX7.out.2.2.2.1.ext hx78 id).facts.2.1; have hC8 := HC.out w8 _ _ (HX7.out.2.2.2.2.keep hx78) h8)
        | (go_at_call 162; (with_reducible refine hC8.mono ?_); rintro r9 w' ⟨rfl, hw⟩; obtain rfl := hw.symm))
    have hX8 := HX7.out.1.trans hx78
    have hr8 := HB.out.2.2.1.ext hX8 id
    obtain ⟨d0, d1, d2, d3, d4, d5⟩ := hr8.facts
    obtain ⟨c0, c1, _⟩ := (HX7.out.2.2.1.ext hx78 id).facts
    have hn8 := HX7.out.2.1.keep hx78
    have hd8 := HX7.out.2.2.2.2.keep hx78
    have hXw := HB.out.2.2.2.trans hX8
    have hc1 := cmpN_one q.den
    generalize cmpN q.den 1 = cq at *
    by_cases h1 : q.den = 1
    · have hcq := hc1.2 h1
      subst hcq
      have hp := hr8.put (neg := nn) (no_int aon mn cn) (no_int none 0 0)
      have hR0 : IsRat w8 (.agg #[.bool nn, .slice aon mn cn, .slice none 0 0]) q := IsRat.mk hn8 (by rw [h1]; exact IsNat.nil w8)
      have HR := Lib.hid (And.intro (hp.rat hR0) (And.intro (hXw.own hp.ext (fun k e => by omega)) hp.box))
      clear hp hR0 hn8 hd8 hr8 hXw hX8 hx8 hx78 h8 hC8 hK8 hS hc1 h1
      go_wp2
      generalize ((w8.setCell ⟨r, 0, none⟩ (.bool nn)).setCell ⟨r, 1, none⟩ (.slice aon mn cn)).setCell ⟨r, 2, none⟩ (.slice none 0 0) = w9 at *
      obtain ⟨g0, g1, g2, _⟩ := HR.out.2.2.facts
      exact bodyPost_ret (v := .agg #[.bool nn, .slice aon mn cn, .slice none 0 0]) (by simp [results, Tryz.results119, go_sem, g0, g1, g2]) rfl ⟨_, rfl, HR.out.1, HR.out.2.1⟩
    · have hcq : ¬ cq = 0 := fun e => h1 (hc1.1 e)
      have hp := hr8.put (neg := nn) (no_int aon mn cn) (no_int aod md cd)
      have hR0 : IsRat w8 (.agg #[.bool nn, .slice aon mn cn, .slice aod md cd]) q := IsRat.mk hn8 (by unfold dw; rw [if_neg h1]; exact hd8)
      have HR := Lib.hid (And.intro (hp.rat hR0) (And.intro (hXw.own hp.ext (fun k e => by omega)) hp.box))
      clear hp hR0 hn8 hd8 hr8 hXw hX8 hx8 hx78 h8 hC8 hS hc1 h1
      have hcb : (cq == 0) = false := by simpa using hcq
      go_wp2
      generalize ((w8.setCell ⟨r, 0, none⟩ (.bool nn)).setCell ⟨r, 1, none⟩ (.slice aon mn cn)).setCell ⟨r, 2, none⟩ (.slice aod md cd) = w9 at *
      obtain ⟨g0, g1, g2, _⟩ := HR.out.2.2.facts
      exact bodyPost_ret (v := .agg #[.bool nn, .slice aon mn cn, .slice aod md cd]) (by simp [results, Tryz.results119, go_sem, g0, g1, g2]) rfl ⟨_, rfl, HR.out.1, HR.out.2.1⟩
end Go.Proofs.YtbgienfcmdgaaaaGreat
/-
  Package rational: the two functions that are applied crosswise. Conditions: the arguments read as integers, lengths bounded.
-/
namespace Go.Proofs.YtbgienfcmdgaaaaGreat
open Go.RowKit Go.MapKept
open Go.ChangeMaps (setBlock)

abbrev SI4 (b1 b2 b3 b4 : Nat) (n1 n2 n3 n4 : Bool) (m1 m2 m3 m4 : Value) (W : World) : Prop :=
  W.cell? ⟨b1, 0, none⟩ = some (.bool n1) ∧ W.cell? ⟨b1, 1, none⟩ = some m1 ∧ W.cell? ⟨b2, 0, none⟩ = some (.bool n2) ∧ W.cell? ⟨b2, 1, none⟩ = some m2 ∧ W.cell? ⟨b3, 0, none⟩ = some (.bool n3) ∧ W.cell? ⟨b3, 1, none⟩ = some m3 ∧ W.cell? ⟨b4, 0, none⟩ = some (.bool n4) ∧ W.cell? ⟨b4, 1, none⟩ = some m4
section
variable {b1 b2 b3 b4 : Nat} {n1 n2 n3 n4 : Bool} {m1 m2 m3 m4 : Value} {W : World}
/-- four boxes -/
def Box4 (W : World) (b1 b2 b3 b4 : Nat) (n1 n2 n3 n4 : Bool) (m1 m2 m3 m4 : Value) : Prop := BoxI W b1 n1 m1 ∧ BoxI W b2 n2 m2 ∧ BoxI W b3 n3 m3 ∧ BoxI W b4 n4 m4
theorem Box4.s (h : Box4 W b1 b2 b3 b4 n1 n2 n3 n4 m1 m2 m3 m4) : SI4 b1 b2 b3 b4 n1 n2 n3 n4 m1 m2 m3 m4 W := ⟨h.1.facts.1, h.1.facts.2.1, h.2.1.facts.1, h.2.1.facts.2.1, h.2.2.1.facts.1, h.2.2.1.facts.2.1, h.2.2.2.facts.1, h.2.2.2.facts.2.1⟩
theorem Box4.keep {W' : World} (h : Box4 W b1 b2 b3 b4 n1 n2 n3 n4 m1 m2 m3 m4) (hx : Ext (fun _ => False) W W') : Box4 W' b1 b2 b3 b4 n1 n2 n3 n4 m1 m2 m3 m4 := ⟨h.1.ext hx id, h.2.1.ext hx id, h.2.2.1.ext hx id, h.2.2.2.ext hx id⟩
theorem SI4.drew (h : SI4 b1 b2 b3 b4 n1 n2 n3 n4 m1 m2 m3 m4 W) : SI4 b1 b2 b3 b4 n1 n2 n3 n4 m1 m2 m3 m4 W.drew := h
theorem SI4.set (h : SI4 b1 b2 b3 b4 n1 n2 n3 n4 m1 m2 m3 m4 W) (p : Addr) (u : Value) (h1 : ¬ b1 = p.block) (h2 : ¬ b2 = p.block) (h3 : ¬ b3 = p.block) (h4 : ¬ b4 = p.block) : SI4 b1 b2 b3 b4 n1 n2 n3 n4 m1 m2 m3 m4 (W.setCell p u) := by
  obtain ⟨a1, a2, a3, a4, a5, a6, a7, a8⟩ := h
  exact ⟨cell_other a1 h1, cell_other a2 h1, cell_other a3 h2, cell_other a4 h2, cell_other a5 h3, cell_other a6 h3, cell_other a7 h4, cell_other a8 h4⟩
end
/-- two integers are returned -/
def TwoInt (w : World) (Z Y : Int) (r : Ending) (w' : World) : Prop := ∃ a b, r = .returned (.tuple #[a, b]) ∧ IsInt w' a Z ∧ IsInt w' b Y ∧ Ext (fun _ => False) w w'
set_option maxRecDepth 100000 in
set_option maxHeartbeats 8000000 in
theorem mulf_any (w : World) (p q r s : Value) (zp zq zr zs : Int) (L : Nat) (hp : Rint w p zp L) (hq : Rint w q zq L) (hr : Rint w r zr L) (hs : Rint w s zs L) (hL : L ≤ 4194304) :
    Calls Tryz.prog 159 #[p, q, r, s] w (TwoInt w (zp * zr) (zq * zs)) := by
  have H1 := Lib.hid (fun W (hW : Ext (fun _ => False) w W) => imul_any W p r zp zr L (hp.keep hW) (hr.keep hW) (by omega))
  have H2 := Lib.hid (fun W (hW : Ext (fun _ => False) w W) => imul_any W q s zq zs L (hq.keep hW) (hs.keep hW) (by omega))
  obtain ⟨n1, a1, l1, c1, _, rfl, _, _, _⟩ := hp.open
  obtain ⟨n2, a2, l2, c2, _, rfl, _, _, _⟩ := hq.open
  obtain ⟨n3, a3, l3, c3, _, rfl, _, _, _⟩ := hr.open
  obtain ⟨n4, a4, l4, c4, _, rfl, _, _, _⟩ := hs.open
  clear hp hq hr hs
  unfold TwoInt
  generalize zp * zr = Z at *
  generalize zq * zs = Y at *
  go_enter Tryz.func159, Tryz.ntmps159
  go_upto_region 0 with fail
  go_cut [4, 5, 6, 7, 8, 9] (fun v1 v2 v3 v4 v5 v6 wx => ∃ b1 b2 b3 b4 r1 r2, v1 = .pointer (some ⟨b1, 0, none⟩) ∧ v2 = .pointer (some ⟨b2, 0, none⟩) ∧ v3 = .pointer (some ⟨b3, 0, none⟩) ∧ v4 = .pointer (some ⟨b4, 0, none⟩) ∧ v5 = .pointer (some ⟨r1, 0, none⟩) ∧ v6 = .pointer (some ⟨r2, 0, none⟩) ∧ Box4 wx b1 b2 b3 b4 n1 n2 n3 n4 (.slice a1 l1 c1) (.slice a2 l2 c2) (.slice a3 l3 c3) (.slice a4 l4 c4) ∧ BoxI wx r1 false (.slice none 0 0) ∧ BoxI wx r2 false (.slice none 0 0) ∧ b1 < r1 ∧ b2 < r1 ∧ b3 < r1 ∧ b4 < r1 ∧ r1 < r2 ∧ w.heap.size ≤ r1 ∧ Ext (fun _ => False) w wx)
  case first =>
    go_wp2
    go_meet
    exact ⟨_, _, _, _, _, _, rfl, rfl, rfl, rfl, rfl, rfl, ⟨(((((boxI_new rfl n1 a1 l1 c1).alloc _).alloc _).alloc _).alloc _).alloc _, ((((boxI_new (by simp) n2 a2 l2 c2).alloc _).alloc _).alloc _).alloc _, (((boxI_new (by simp) n3 a3 l3 c3).alloc _).alloc _).alloc _, ((boxI_new (by simp) n4 a4 l4 c4).alloc _).alloc _⟩, (boxI_new (by simp) false none 0 0).alloc _, boxI_new (by simp) false none 0 0, (by omega), (by omega), (by omega), (by omega), (by omega), (by omega), ((((((Ext.refl _ w).alloc _).alloc _).alloc _).alloc _).alloc _).alloc _⟩
  case rest =>
    obtain ⟨b1, b2, b3, b4, r1, r2, rfl, rfl, rfl, rfl, rfl, rfl, hb, hr1, hr2, i1, i2, i3, i4, i5, hle, hx⟩ := hcut
    have hS := hb.s
    have HB := Lib.hid (And.intro hb (And.intro hr1 (And.intro hr2 hx)))
    clear hb hr1 hr2 hx
    go_upto_region 1 with fail
    go_region_held3 (SI4 b1 b2 b3 b4 n1 n2 n3 n4 (.slice a1 l1 c1) (.slice a2 l2 c2) (.slice a3 l3 c3) (.slice a4 l4 c4))
      (repeat (first | (with_reducible assumption) | (with_reducible refine SI4.drew ?_) | (with_reducible refine SI4.set ?_ _ _ ?_ ?_ ?_ ?_) | (dsimp only; omega)))
      (first
        | (go_at_call 101; (with_reducible refine (H1.out _ (HB.out.2.2.2.drew)).mono ?_); rintro q1 w11 ⟨v11, rfl, h11, hx11⟩; have hX1 := (Ext.refl (fun _ => False) wc).drew.trans hx11; have hK1 := (HB.out.1.keep hX1).s; obtain ⟨ng1, ag1, lg1, cg1, rfl⟩ := h11.shape)
        | (go_at_call 101; (with_reducible refine (H2.out _ (HB.out.2.2.2.trans hX1)).mono ?_); rintro q2 w12 ⟨v12, rfl, h12, hx12⟩; have hX2 := hX1.trans hx12; have hK2 := (HB.out.1.keep hX2).s; have hR1 := HB.out.2.1.ext hX2 id; have hR2 := HB.out.2.2.1.ext hX2 id; obtain ⟨d0, d1, d2, d3⟩ := hR1.facts; obtain ⟨f0, f1, f2, f3⟩ := hR2.facts; obtain ⟨ng2, ag2, lg2, cg2, rfl⟩ := h12.shape))
    have hp1 := hR1.put (neg := ng1) (no_int ag1 lg1 cg1)
    have hp2 := (hR2.ext hp1.ext (fun e => by omega)).put (neg := ng2) (no_int ag2 lg2 cg2)
    have HR := Lib.hid (And.intro (hp2.int (hp1.int (h11.keep hx12))) (And.intro (hp2.int (hp1.int h12)) (And.intro (((HB.out.2.2.2.trans hX2).own hp1.ext (fun k e => by omega)).own hp2.ext (fun k e => by omega)) (And.intro (hp1.box.ext hp2.ext (fun e => by omega)) hp2.box))))
    clear hp1 hp2 hR1 hR2 hS d0 d1 d2 d3 f0 f1 f2 f3 h11 hx11 hX1 hK1 h12 hx12 hX2 hK2
    generalize (((w12.setCell ⟨r1, 0, none⟩ (.bool ng1)).setCell ⟨r1, 1, none⟩ (.slice ag1 lg1 cg1)).setCell ⟨r2, 0, none⟩ (.bool ng2)).setCell ⟨r2, 1, none⟩ (.slice ag2 lg2 cg2) = w20 at *
    obtain ⟨g0, g1, _⟩ := HR.out.2.2.2.1.facts
    obtain ⟨g2, g3, _⟩ := HR.out.2.2.2.2.facts
    go_wp2
    exact bodyPost_ret (v := .tuple #[.agg #[.bool ng1, .slice ag1 lg1 cg1], .agg #[.bool ng2, .slice ag2 lg2 cg2]]) (by simp [results, Tryz.results159, go_sem, g0, g1, g2, g3]) rfl ⟨_, _, rfl, HR.out.1, HR.out.2.1, HR.out.2.2.1⟩
set_option maxRecDepth 100000 in
set_option maxHeartbeats 8000000 in
theorem addf_any (w : World) (p q r s : Value) (zp zq zr zs : Int) (L : Nat) (hp : Rint w p zp L) (hq : Rint w q zq L) (hr : Rint w r zr L) (hs : Rint w s zs L) (hL : L ≤ 4194304) :
    Calls Tryz.prog 118 #[p, q, r, s] w (TwoInt w (zp * zs + zr * zq) (zq * zs)) := by
  have H1 := Lib.hid (fun W (hW : Ext (fun _ => False) w W) => imul_any W p s zp zs L (hp.keep hW) (hs.keep hW) (by omega))
  have H2 := Lib.hid (fun W (hW : Ext (fun _ => False) w W) => imul_any W r q zr zq L (hr.keep hW) (hq.keep hW) (by omega))
  have H4 := Lib.hid (fun W (hW : Ext (fun _ => False) w W) => imul_any W q s zq zs L (hq.keep hW) (hs.keep hW) (by omega))
  have hl1 := len_mul hp.len hs.len
  have hl2 := len_mul hr.len hq.len
  have H3 := Lib.hid (fun W u u' (hu : IsInt W u (zp * zs)) (hu' : IsInt W u' (zr * zq)) => iadd_any W u u' _ _ (L + L) (hu.reads hl1) (hu'.reads hl2) (by omega))
  clear hl1 hl2
  obtain ⟨n1, a1, l1, c1, _, rfl, _, _, _⟩ := hp.open
  obtain ⟨n2, a2, l2, c2, _, rfl, _, _, _⟩ := hq.open
  obtain ⟨n3, a3, l3, c3, _, rfl, _, _, _⟩ := hr.open
  obtain ⟨n4, a4, l4, c4, _, rfl, _, _, _⟩ := hs.open
  clear hp hq hr hs
  unfold TwoInt
  generalize zp * zs = Z1 at *
  generalize zr * zq = Z2 at *
  generalize zq * zs = Y at *
  go_enter Tryz.func118, Tryz.ntmps118
  go_upto_region 0 with fail
  go_cut [4, 5, 6, 7, 8, 9] (fun v1 v2 v3 v4 v5 v6 wx => ∃ b1 b2 b3 b4 r1 r2, v1 = .pointer (some ⟨b1, 0, none⟩) ∧ v2 = .pointer (some ⟨b2, 0, none⟩) ∧ v3 = .pointer (some ⟨b3, 0, none⟩) ∧ v4 = .pointer (some ⟨b4, 0, none⟩) ∧ v5 = .pointer (some ⟨r1, 0, none⟩) ∧ v6 = .pointer (some ⟨r2, 0, none⟩) ∧ Box4 wx b1 b2 b3 b4 n1 n2 n3 n4 (.slice a1 l1 c1) (.slice a2 l2 c2) (.slice a3 l3 c3) (.slice a4 l4 c4) ∧ BoxI wx r1 false (.slice none 0 0) ∧ BoxI wx r2 false (.slice none 0 0) ∧ b1 < r1 ∧ b2 < r1 ∧ b3 < r1 ∧ b4 < r1 ∧ r1 < r2 ∧ w.heap.size ≤ r1 ∧ Ext (fun _ => False) w wx)
  case first =>
    go_wp2
    go_meet
    exact ⟨_, _, _, _, _, _, rfl, rfl, rfl, rfl, rfl, rfl, ⟨(((((boxI_new rfl n1 a1 l1 c1).alloc _).alloc _).alloc _).alloc _).alloc _, ((((boxI_new (by simp) n2 a2 l2 c2).alloc _).alloc _).alloc _).alloc _, (((boxI_new (by simp) n3 a3 l3 c3).alloc _).alloc _).alloc _, ((boxI_new (by simp) n4 a4 l4 c4).alloc _).alloc _⟩, (boxI_new (by simp) false none 0 0).alloc _, boxI_new (by simp) false none 0 0, (by omega), (by omega), (by omega), (by omega), (by omega), (by omega), ((((((Ext.refl _ w).alloc _).alloc _).alloc _).alloc _).alloc _).alloc _⟩
  case rest =>
    obtain ⟨b1, b2, b3, b4, r1, r2, rfl, rfl, rfl, rfl, rfl, rfl, hb, hr1, hr2, i1, i2, i3, i4, i5, hle, hx⟩ := hcut
    have hS := hb.s
    have HB := Lib.hid (And.intro hb (And.intro hr1 (And.intro hr2 hx)))
    clear hb hr1 hr2 hx
    go_upto_region 1 with fail
    go_region_held3 (SI4 b1 b2 b3 b4 n1 n2 n3 n4 (.slice a1 l1 c1) (.slice a2 l2 c2) (.slice a3 l3 c3) (.slice a4 l4 c4))
      (repeat (first | (with_reducible assumption) | (with_reducible refine SI4.drew ?_) | (with_reducible refine SI4.set ?_ _ _ ?_ ?_ ?_ ?_) | (dsimp only; omega)))
      (first
        | (go_at_call 101; (with_reducible refine (H1.out _ (HB.out.2.2.2.drew)).mono ?_); rintro q1 w11 ⟨v11, rfl, h11, hx11⟩; have hX1 := (Ext.refl (fun _ => False) wc).drew.trans hx11; have hK1 := (HB.out.1.keep hX1).s; obtain ⟨ng1, ag1, lg1, cg1, rfl⟩ := h11.shape)
        | (go_at_call 101; (with_reducible refine (H2.out _ (HB.out.2.2.2.trans hX1)).mono ?_); rintro q2 w12 ⟨v12, rfl, h12, hx12⟩; have hX2 := hX1.trans hx12; have hK2 := (HB.out.1.keep hX2).s; have hA := H3.out _ _ _ (h11.keep hx12) h12; obtain ⟨ng2, ag2, lg2, cg2, rfl⟩ := h12.shape)
        | (go_at_call 116; (with_reducible refine hA.mono ?_); rintro q3 w13 ⟨v13, rfl, h13, hx13⟩; have hX3 := hX2.trans hx13; have hK3 := (HB.out.1.keep hX3).s; obtain ⟨ng3, ag3, lg3, cg3, rfl⟩ := h13.shape)
        | (go_at_call 101; (with_reducible refine (H4.out _ (HB.out.2.2.2.trans hX3)).mono ?_); rintro q4 w14 ⟨v14, rfl, h14, hx14⟩; have hX4 := hX3.trans hx14; have hK4 := (HB.out.1.keep hX4).s; have hR1 := HB.out.2.1.ext hX4 id; have hR2 := HB.out.2.2.1.ext hX4 id; obtain ⟨d0, d1, d2, d3⟩ := hR1.facts; obtain ⟨f0, f1, f2, f3⟩ := hR2.facts; obtain ⟨ng4, ag4, lg4, cg4, rfl⟩ := h14.shape))
    have hp1 := hR1.put (neg := ng3) (no_int ag3 lg3 cg3)
    have hp2 := (hR2.ext hp1.ext (fun e => by omega)).put (neg := ng4) (no_int ag4 lg4 cg4)
    have HR := Lib.hid (And.intro (hp2.int (hp1.int (h13.keep hx14))) (And.intro (hp2.int (hp1.int h14)) (And.intro (((HB.out.2.2.2.trans hX4).own hp1.ext (fun k e => by omega)).own hp2.ext (fun k e => by omega)) (And.intro (hp1.box.ext hp2.ext (fun e => by omega)) hp2.box))))
    clear hp1 hp2 hR1 hR2 hS d0 d1 d2 d3 f0 f1 f2 f3 h11 hx11 hX1 hK1 h12 hx12 hX2 hK2 h13 hx13 hX3 hK3 h14 hx14 hX4 hK4
    generalize (((w14.setCell ⟨r1, 0, none⟩ (.bool ng3)).setCell ⟨r1, 1, none⟩ (.slice ag3 lg3 cg3)).setCell ⟨r2, 0, none⟩ (.bool ng4)).setCell ⟨r2, 1, none⟩ (.slice ag4 lg4 cg4) = w20 at *
    obtain ⟨g0, g1, _⟩ := HR.out.2.2.2.1.facts
    obtain ⟨g2, g3, _⟩ := HR.out.2.2.2.2.facts
    go_wp2
    exact bodyPost_ret (v := .tuple #[.agg #[.bool ng3, .slice ag3 lg3 cg3], .agg #[.bool ng4, .slice ag4 lg4 cg4]]) (by simp [results, Tryz.results118, go_sem, g0, g1, g2, g3]) rfl ⟨_, _, rfl, HR.out.1, HR.out.2.1, HR.out.2.2.1⟩

end Go.Proofs.YtbgienfcmdgaaaaGreat
