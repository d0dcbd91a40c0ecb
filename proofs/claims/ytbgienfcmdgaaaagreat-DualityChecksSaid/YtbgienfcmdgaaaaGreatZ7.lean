/-
  Package linear: Cost, Dot. Conditions: the arguments read as programs, terms, points.
-/
import Derived.Test.YtbgienfcmdgaaaaGreatZ6
import Derived.Deep.RegionHeld3
set_option linter.unusedVariables false
namespace Go.Proofs.YtbgienfcmdgaaaaGreat
open Go.RowKit Go.MapKept
open Go.ChangeMaps (setBlock)

theorem Vrs.ok {p : ProgV} {w : World} {v : Value} (h : Vrs w v p.vars) (i : Nat) (hi : i < p.vars.length) : VarOk (p.v i) := by
  obtain ⟨ao, c, rfl, _⟩ := h.shape
  obtain ⟨_, _, _, _, _, _, _, _, _, h⟩ := h.atp i hi
  exact h
theorem Rws.ok {p : ProgV} {w : World} {v : Value} (h : Rws w v p.rows) (i : Nat) (hi : i < p.rows.length) : RowOk (p.r i) := by
  obtain ⟨ao, c, rfl, _⟩ := h.shape
  obtain ⟨_, _, _, _, _, _, _, _, _, _, _, h, _⟩ := h.atp i hi
  exact h
theorem Tms.ok {ts : List TermV} {w : World} {v : Value} (h : Tms w v ts) (i : Nat) (hi : i < ts.length) : TermOk (ts.getD i term0) := by
  obtain ⟨ao, c, rfl, _⟩ := h.shape
  obtain ⟨_, _, _, _, _, _, h⟩ := h.at i hi
  exact h
theorem Rats.sz {l : List Rat} {w : World} {v : Value} {L : Nat} (h : Rats w v l L) (h1 : 1 ≤ L) (i : Int) : Sz (atQ l i) L := by
  by_cases h0 : i < 0
  · rw [atQ_neg l h0]; exact Sz.zero.mono h1
  by_cases h2 : (l.length : Int) ≤ i
  · rw [atQ_out l h2]; exact Sz.zero.mono h1
  obtain ⟨j, rfl⟩ : ∃ j : Nat, i = j := ⟨i.toNat, by omega⟩
  obtain ⟨ao, c, rfl, _⟩ := h.shape
  obtain ⟨_, _, _, _, _, _, _, _, _, _, _, _, _, _, h⟩ := h.at j (by omega)
  exact h.sz h1
/-- three new boxes -/
theorem box3 (w : World) (oa ob oc : Obj) : blk (((w.alloc oa).alloc ob).alloc oc) w.heap.size = some oa ∧ blk (((w.alloc oa).alloc ob).alloc oc) (w.heap.size + 1) = some ob ∧ blk (((w.alloc oa).alloc ob).alloc oc) (w.heap.size + 1 + 1) = some oc ∧ Ext (fun _ => False) w (((w.alloc oa).alloc ob).alloc oc) := by
  refine ⟨?_, ?_, ?_, (((Ext.refl _ w).alloc _).alloc _).alloc _⟩
  · rw [blk_alloc_past _ _ _ (by simp; omega), blk_alloc_past _ _ _ (by simp), blk_alloc_at]
  · rw [blk_alloc_past _ _ _ (by simp)]
    have := blk_alloc_at (w.alloc oa) ob
    rwa [World.size_alloc] at this
  · have := blk_alloc_at ((w.alloc oa).alloc ob) oc
    rwa [World.size_alloc, World.size_alloc] at this
theorem boxR_of {W : World} {k : Nat} {neg : Bool} {ao ao' : Option Addr} {n c n' c' : Nat} (h : blk W k = some (.cells #[.bool neg, .slice ao n c, .slice ao' n' c'] 31 (0, 0))) : BoxR W k neg (.slice ao n c) (.slice ao' n' c') := ⟨h, no_int ao n c, no_int ao' n' c'⟩
/-- a result in its box, returned -/
theorem rat_put {w w1 : World} {r : Nat} {neg n0 : Bool} {a1 a2 : Option Addr} {m1 c1 m2 c2 : Nat} {q : Rat} {x0 y0 : Value} (hb : BoxR w1 r n0 x0 y0) (hr : w.heap.size ≤ r) (hx : Ext (fun _ => False) w w1)
    (h : IsRat w1 (.agg #[.bool neg, .slice a1 m1 c1, .slice a2 m2 c2]) q) :
    BoxR (((w1.setCell ⟨r, 0, none⟩ (.bool neg)).setCell ⟨r, 1, none⟩ (.slice a1 m1 c1)).setCell ⟨r, 2, none⟩ (.slice a2 m2 c2)) r neg (.slice a1 m1 c1) (.slice a2 m2 c2) ∧
      RatPost w q (.returned (.agg #[.bool neg, .slice a1 m1 c1, .slice a2 m2 c2])) (((w1.setCell ⟨r, 0, none⟩ (.bool neg)).setCell ⟨r, 1, none⟩ (.slice a1 m1 c1)).setCell ⟨r, 2, none⟩ (.slice a2 m2 c2)) :=
  have hp := hb.put (neg := neg) (no_int a1 m1 c1) (no_int a2 m2 c2)
  ⟨hp.box, _, rfl, hp.rat h, hx.own hp.ext (fun k e => by omega)⟩
set_option maxRecDepth 100000 in
set_option maxHeartbeats 4000000 in
theorem Cost_any (w : World) (pv xv : Value) (p : ProgV) (l : List Rat) (L : Nat) (hp : IsPrg w pv p) (hl : Rats w xv l L) (h1 : 1 ≤ L) (hL : 1 + p.vars.length * (L + 3) + (L + 3) ≤ 4000000) :
    Calls Tryz.prog 54 #[pv, xv] w (RatPost w (costQ p l)) := by
  obtain ⟨vv, rv, rfl, hv, hr⟩ := hp
  obtain ⟨vo, vc, rfl, -, hn, -⟩ := hv.shape
  obtain ⟨xo, xc, rfl, -, hxn, -⟩ := hl.shape
  obtain ⟨b0, b1, b2, hx⟩ := box3 w (.cells #[.slice vo p.vars.length vc, rv] 25) (.cells #[.slice xo l.length xc] 32) (.cells #[.bool false, .slice none 0 0, .slice none 0 0] 31)
  have hs := lsum_any (((w.alloc (.cells #[.slice vo p.vars.length vc, rv] 25)).alloc (.cells #[.slice xo l.length xc] 32)).alloc (.cells #[.bool false, .slice none 0 0, .slice none 0 0] 31)) p.vars.length 104 #[.pointer (some ⟨w.heap.size, 0, none⟩), .pointer (some ⟨w.heap.size + 1, 0, none⟩)] (fun i => (p.v i).co) (fun i => atQ l i) L h1 hL
    (fun i hi => (hv.ok i hi).co) (fun i _ => hl.sz h1 i) (enters_of Tryz.func104 (by kernel_rfl) rfl)
    (fun W hW i hi => cost1_any W w.heap.size (w.heap.size + 1) _ rv _ p l L (blk_keep b0 hW) (blk_keep b1 hW) (hv.keep (hx.trans hW)) (hl.keep (hx.trans hW)) i hi)
  have HS := Lib.hid hs
  have HB := Lib.hid (And.intro (boxR_of b2) hx)
  clear hv hr hl hs b0 b1 b2 hx
  generalize l.length = xn at *
  go_enter Tryz.func54, Tryz.ntmps54
  go_wp2_with fail
  refine HS.out.mono ?_
  rintro r1 w2 ⟨v2, rfl, h2, hx2⟩
  obtain ⟨ng, sa, sn, sc, ta, tn, tc, rfl⟩ := h2.shape
  have hr3 := HB.out.1.ext hx2 id
  obtain ⟨d0, d1, d2, d3, d4, d5⟩ := hr3.facts
  have HP := Lib.hid (rat_put (w := w) hr3 (by omega) (HB.out.2.trans hx2) h2)
  clear h2 hr3 hx2
  go_wp2
  generalize ((w2.setCell ⟨w.heap.size + 1 + 1, 0, none⟩ (.bool ng)).setCell ⟨w.heap.size + 1 + 1, 1, none⟩ (.slice sa sn sc)).setCell ⟨w.heap.size + 1 + 1, 2, none⟩ (.slice ta tn tc) = w9 at *
  obtain ⟨g0, g1, g2, _⟩ := HP.out.1.facts
  exact bodyPost_ret (v := .agg #[.bool ng, .slice sa sn sc, .slice ta tn tc]) (by simp [results, Tryz.results54, go_sem, g0, g1, g2]) rfl HP.out.2
set_option maxRecDepth 100000 in
set_option maxHeartbeats 4000000 in
theorem Dot_any (w : World) (tv xv : Value) (ts : List TermV) (l : List Rat) (L : Nat) (hv : Tms w tv ts) (hl : Rats w xv l L) (h1 : 1 ≤ L) (hL : 1 + ts.length * (L + 3) + (L + 3) ≤ 4000000) :
    Calls Tryz.prog 74 #[tv, xv] w (RatPost w (dotQ ts l)) := by
  obtain ⟨vo, vc, rfl, -, hn, -⟩ := hv.shape
  obtain ⟨xo, xc, rfl, -, hxn, -⟩ := hl.shape
  obtain ⟨b0, b1, b2, hx⟩ := box3 w (.cells #[.slice vo ts.length vc] 56) (.cells #[.slice xo l.length xc] 32) (.cells #[.bool false, .slice none 0 0, .slice none 0 0] 31)
  have hs := lsum_any (((w.alloc (.cells #[.slice vo ts.length vc] 56)).alloc (.cells #[.slice xo l.length xc] 32)).alloc (.cells #[.bool false, .slice none 0 0, .slice none 0 0] 31)) ts.length 124 #[.pointer (some ⟨w.heap.size, 0, none⟩), .pointer (some ⟨w.heap.size + 1, 0, none⟩)] (fun i => (ts.getD i term0).coef) (fun i => atQ l (ts.getD i term0).var) L h1 hL
    (fun i hi => (hv.ok i hi).coef) (fun i _ => hl.sz h1 _) (enters_of Tryz.func124 (by kernel_rfl) rfl)
    (fun W hW i hi => dot1_any W w.heap.size (w.heap.size + 1) _ _ ts l L (blk_keep b0 hW) (blk_keep b1 hW) (hv.keep (hx.trans hW)) (hl.keep (hx.trans hW)) i hi)
  have HS := Lib.hid hs
  have HB := Lib.hid (And.intro (boxR_of b2) hx)
  clear hv hl hs b0 b1 b2 hx
  obtain ⟨q, hq⟩ : ∃ q, dotQ ts l = q := ⟨_, rfl⟩
  unfold dotQ at hq
  rw [hq] at HS
  unfold dotQ
  rw [hq]
  clear hq
  generalize l.length = xn at *
  generalize ts.length = n at *
  go_enter Tryz.func74, Tryz.ntmps74
  go_wp2_with fail
  refine HS.out.mono ?_
  rintro r1 w2 ⟨v2, rfl, h2, hx2⟩
  obtain ⟨ng, sa, sn, sc, ta, tn, tc, rfl⟩ := h2.shape
  have hr3 := HB.out.1.ext hx2 id
  obtain ⟨d0, d1, d2, d3, d4, d5⟩ := hr3.facts
  have HP := Lib.hid (rat_put (w := w) hr3 (by omega) (HB.out.2.trans hx2) h2)
  clear h2 hr3 hx2
  go_wp2
  generalize ((w2.setCell ⟨w.heap.size + 1 + 1, 0, none⟩ (.bool ng)).setCell ⟨w.heap.size + 1 + 1, 1, none⟩ (.slice sa sn sc)).setCell ⟨w.heap.size + 1 + 1, 2, none⟩ (.slice ta tn tc) = w9 at *
  obtain ⟨g0, g1, g2, _⟩ := HP.out.1.facts
  exact bodyPost_ret (v := .agg #[.bool ng, .slice sa sn sc, .slice ta tn tc]) (by simp [results, Tryz.results74, go_sem, g0, g1, g2]) rfl HP.out.2
end Go.Proofs.YtbgienfcmdgaaaaGreat
/-
  Package linear: Signed. Conditions: the arguments read as programs, points.
-/
namespace Go.Proofs.YtbgienfcmdgaaaaGreat
open Go.RowKit Go.MapKept
open Go.ChangeMaps (setBlock)

/-- a truth value is returned; old blocks stay -/
def BoolPost (w : World) (b : Bool) (r : Ending) (w' : World) : Prop := r = .returned (.bool b) ∧ Ext (fun _ => False) w w'
theorem rnum_neg (q : Rat) : q.num < 0 ↔ q < 0 := by
  have := @Rat.num_nonneg q
  constructor
  · intro h; exact Rat.not_le.1 (fun h2 => by have := this.2 h2; omega)
  · intro h; exact Int.not_le.1 (fun h2 => by have := this.1 h2; grind)
theorem sign_lt (q : Rat) : q.num.sign < 0 ↔ q < 0 := by
  rw [Int.sign_neg_iff]
  exact rnum_neg q
theorem sign_gt (q : Rat) : 0 < q.num.sign ↔ 0 < q := by
  rw [Int.sign_pos_iff]
  have h := rnum_neg (-q)
  rw [Rat.neg_num] at h
  constructor
  · intro h1; have := h.1 (by omega); grind
  · intro h1; have := h.2 (by grind); omega
/-- a test at all indices, with the first at which it fails -/
theorem allTo_next {f : Nat → Bool} {i : Nat} (h : allTo i f = true) (hf : f i = true) : allTo (i + 1) f = true := by
  show (allTo i f && f i) = true
  rw [h, hf]; rfl
set_option maxRecDepth 100000 in
set_option maxHeartbeats 4000000 in
theorem Signed_any (w : World) (pv yv : Value) (p : ProgV) (y : List Rat) (L : Nat) (hp : IsPrg w pv p) (hy : Rats w yv y L) (h1 : 1 ≤ L) (hL : L ≤ 268435455) :
    Calls Tryz.prog 60 #[pv, yv] w (BoolPost w (signedB p y)) := by
  obtain ⟨vv, rv, rfl, -, hr⟩ := hp
  obtain ⟨ro, rc, rfl, -, hn, -⟩ := hr.shape
  obtain ⟨yo, yc, rfl, -, hyn, -⟩ := hy.shape
  have HV := Lib.hid (And.intro hr hy)
  obtain ⟨n, hn'⟩ : ∃ n, p.rows.length = n := ⟨_, rfl⟩
  have HN := Lib.hid hn'
  have HA := Lib.hid (fun W (hW : Ext (fun _ => False) w W) (i : Nat) => lat_any W _ y L (hy.keep hW) i)
  have HG := Lib.hid (fun W u q (hu : Rrat W u q L) => rsign_any W u q L hu hL)
  clear hr hy
  rw [hn'] at hn ⊢ HV
  clear hn'
  generalize y.length = yn at *
  go_enter Tryz.func60, Tryz.ntmps60
  go_wp2_with fail
  go_loopg [11] n (fun gg v11 wr => ∃ i : Nat, i ≤ n ∧ gg = n - i ∧ v11 = .int .i64 i ∧ allTo i (fun i => signB (p.r i).kind (atQ y i)) = true ∧ Ext (fun _ => False) w wr)
  case atStart => exact ⟨0, Nat.zero_le _, rfl, rfl, rfl, (Ext.refl _ _).alloc _⟩
  case round =>
    obtain ⟨i, hi, rfl, rfl, hall, hx⟩ := hrel
    have HX := Lib.hid (And.intro hall hx)
    clear hall hx
    by_cases hin : i < n
    · have i0 : (i : Int) < (n : Int) := by omega
      have hrow := (HV.out.1.keep HX.out.2)
      obtain ⟨b, off, ta, tc, rfl, hlt, e0, e1, e2, e3, e4, -, -⟩ := hrow.atp i (by rw [HN.out]; exact hin)
      clear hrow
      have HA1 := Lib.hid (fun W (hW : Ext (fun _ => False) wr W) => HA.out W (HX.out.2.trans hW) i)
      generalize (p.r i).terms.length = tn at *
      obtain ⟨k, hk⟩ : ∃ k, (p.r i).kind = k := ⟨_, rfl⟩
      rw [hk] at e2
      have HK := Lib.hid hk
      clear hk
      have hx1 := (Ext.refl (fun _ => False) wr).alloc (.cells #[.string (p.r i).name, .int .i64 (p.r i).group, .int .i64 k, .slice ta tn tc, .int .i64 (p.r i).bound] 58)
      have hb1 := blk_alloc_at wr (.cells #[.string (p.r i).name, .int .i64 (p.r i).group, .int .i64 k, .slice ta tn tc, .int .i64 (p.r i).bound] 58)
      have HB := Lib.hid (And.intro hb1 hx1)
      clear hb1 hx1
      go_upto_region 4 with fail
      obtain ⟨rb, hrb⟩ : ∃ rb, wr.heap.size = rb := ⟨_, rfl⟩
      rw [hrb] at HB ⊢
      generalize wr.alloc (.cells #[.string (p.r i).name, .int .i64 (p.r i).group, .int .i64 k, .slice ta tn tc, .int .i64 (p.r i).bound] 58) = w1 at *
      go_wp2_with fail
      refine (HA1.out w1 HB.out.2).mono ?_
      rintro r2 w2 ⟨v2, rfl, h2, hx2⟩
      have HG2 := Lib.hid (HG.out w2 v2 _ h2)
      have HX2 := Lib.hid hx2
      clear h2 hx2 HA1 e0 e1 e2 e3 e4
      go_wp2_with fail
      refine HG2.out.mono ?_
      rintro r3 w3 ⟨rfl, hx3⟩
      have hx13 := HX2.out.trans hx3
      have e2 := cell_keep (cellq HB.out.1 2 rfl) hx13
      have hs1 := sign_lt (atQ y i)
      have hs2 := sign_gt (atQ y i)
      have HS := Lib.hid (And.intro hs1 hs2)
      have HX3 := Lib.hid ((HX.out.2.trans HB.out.2).trans hx13)
      have hres : signB (p.r i).kind (atQ y i) = !(decide (k = 1) && decide ((atQ y i).num.sign < 0) || decide (k = 0) && decide (0 < (atQ y i).num.sign)) := by
        unfold signB; rw [HK.out]; congr 2 <;> congr 1 <;> exact decide_eq_decide.2 (by first | exact hs1.symm | exact hs2.symm)
      have HR := Lib.hid hres
      clear hx3 hx13 HX2 HG2 HB hs1 hs2 hres HS HK
      generalize (atQ y i).num.sign = sg at *
      have hcase : (k = 1 ∧ sg < 0) ∨ (k = 0 ∧ 0 < sg) ∨ (k = 1 ∧ ¬ sg < 0) ∨ (k = 0 ∧ ¬ 0 < sg) ∨ (¬ k = 1 ∧ ¬ k = 0) := by omega
      rcases hcase with ⟨rfl, hs⟩ | ⟨rfl, hs⟩ | ⟨rfl, hs⟩ | ⟨rfl, hs⟩ | ⟨hk1, hk0⟩
      · go_wp2
        go_ret
        exact ⟨ret_bool (allTo_false (i := i) (by rw [HN.out]; exact hin) (by rw [HR.out]; simp [hs])).symm, HX3.out⟩
      · go_wp2
        go_ret
        exact ⟨ret_bool (allTo_false (i := i) (by rw [HN.out]; exact hin) (by rw [HR.out]; simp [hs])).symm, HX3.out⟩
      · go_wp2
        go_roundg (n - (i + 1))
        case measure => omega
        case rel => exact ⟨i + 1, by omega, rfl, by go_num, allTo_next HX.out.1 (by rw [HR.out]; simp [hs]), HX3.out⟩
      · go_wp2
        go_roundg (n - (i + 1))
        case measure => omega
        case rel => exact ⟨i + 1, by omega, rfl, by go_num, allTo_next HX.out.1 (by rw [HR.out]; simp [hs]), HX3.out⟩
      · have k1 : (k == 1) = false := by simpa using hk1
        have k0 : (k == 0) = false := by simpa using hk0
        go_wp2
        go_roundg (n - (i + 1))
        case measure => omega
        case rel => exact ⟨i + 1, by omega, rfl, by go_num, allTo_next HX.out.1 (by rw [HR.out]; simp [hk1, hk0]), HX3.out⟩
    · obtain rfl : i = n := by omega
      go_wp2
      go_ret
      exact ⟨ret_bool (by unfold signedB; rw [HN.out]; exact HX.out.1.symm), HX.out.2⟩
end Go.Proofs.YtbgienfcmdgaaaaGreat
/-
  Some cells of the memory, as a region holds them. Conditions: none beyond each lemma's own.
-/
namespace Go.Proofs.YtbgienfcmdgaaaaGreat
open Go.RowKit Go.MapKept

/-- 2 cells -/
abbrev S2 (b0 b1 o0 o1 : Nat) (x0 x1 : Value) (W : World) : Prop := W.cell? ⟨b0, o0, none⟩ = some x0 ∧ W.cell? ⟨b1, o1, none⟩ = some x1
section
variable {b0 b1 o0 o1 : Nat} {x0 x1 : Value} {W : World}
theorem S2.drew (h : S2 b0 b1 o0 o1 x0 x1 W) : S2 b0 b1 o0 o1 x0 x1 W.drew := h
theorem S2.keep {W' : World} (h : S2 b0 b1 o0 o1 x0 x1 W) (hx : Ext (fun _ => False) W W') : S2 b0 b1 o0 o1 x0 x1 W' := ⟨cell_keep h.1 hx, cell_keep h.2 hx⟩
theorem S2.alloc (h : S2 b0 b1 o0 o1 x0 x1 W) (o : Obj) : S2 b0 b1 o0 o1 x0 x1 (W.alloc o) := ⟨cell_new h.1 o, cell_new h.2 o⟩
theorem S2.set (h : S2 b0 b1 o0 o1 x0 x1 W) (p : Addr) (u : Value) (k0 : ¬ b0 = p.block) (k1 : ¬ b1 = p.block) : S2 b0 b1 o0 o1 x0 x1 (W.setCell p u) := ⟨cell_other h.1 k0, cell_other h.2 k1⟩
end
/-- 5 cells -/
abbrev S5 (b0 b1 b2 b3 b4 o0 o1 o2 o3 o4 : Nat) (x0 x1 x2 x3 x4 : Value) (W : World) : Prop := W.cell? ⟨b0, o0, none⟩ = some x0 ∧ W.cell? ⟨b1, o1, none⟩ = some x1 ∧ W.cell? ⟨b2, o2, none⟩ = some x2 ∧ W.cell? ⟨b3, o3, none⟩ = some x3 ∧ W.cell? ⟨b4, o4, none⟩ = some x4
section
variable {b0 b1 b2 b3 b4 o0 o1 o2 o3 o4 : Nat} {x0 x1 x2 x3 x4 : Value} {W : World}
theorem S5.drew (h : S5 b0 b1 b2 b3 b4 o0 o1 o2 o3 o4 x0 x1 x2 x3 x4 W) : S5 b0 b1 b2 b3 b4 o0 o1 o2 o3 o4 x0 x1 x2 x3 x4 W.drew := h
theorem S5.keep {W' : World} (h : S5 b0 b1 b2 b3 b4 o0 o1 o2 o3 o4 x0 x1 x2 x3 x4 W) (hx : Ext (fun _ => False) W W') : S5 b0 b1 b2 b3 b4 o0 o1 o2 o3 o4 x0 x1 x2 x3 x4 W' := ⟨cell_keep h.1 hx, cell_keep h.2.1 hx, cell_keep h.2.2.1 hx, cell_keep h.2.2.2.1 hx, cell_keep h.2.2.2.2 hx⟩
theorem S5.alloc (h : S5 b0 b1 b2 b3 b4 o0 o1 o2 o3 o4 x0 x1 x2 x3 x4 W) (o : Obj) : S5 b0 b1 b2 b3 b4 o0 o1 o2 o3 o4 x0 x1 x2 x3 x4 (W.alloc o) := ⟨cell_new h.1 o, cell_new h.2.1 o, cell_new h.2.2.1 o, cell_new h.2.2.2.1 o, cell_new h.2.2.2.2 o⟩
theorem S5.set (h : S5 b0 b1 b2 b3 b4 o0 o1 o2 o3 o4 x0 x1 x2 x3 x4 W) (p : Addr) (u : Value) (k0 : ¬ b0 = p.block) (k1 : ¬ b1 = p.block) (k2 : ¬ b2 = p.block) (k3 : ¬ b3 = p.block) (k4 : ¬ b4 = p.block) : S5 b0 b1 b2 b3 b4 o0 o1 o2 o3 o4 x0 x1 x2 x3 x4 (W.setCell p u) := ⟨cell_other h.1 k0, cell_other h.2.1 k1, cell_other h.2.2.1 k2, cell_other h.2.2.2.1 k3, cell_other h.2.2.2.2 k4⟩
end
/-- 6 cells -/
abbrev S6 (b0 b1 b2 b3 b4 b5 o0 o1 o2 o3 o4 o5 : Nat) (x0 x1 x2 x3 x4 x5 : Value) (W : World) : Prop := W.cell? ⟨b0, o0, none⟩ = some x0 ∧ W.cell? ⟨b1, o1, none⟩ = some x1 ∧ W.cell? ⟨b2, o2, none⟩ = some x2 ∧ W.cell? ⟨b3, o3, none⟩ = some x3 ∧ W.cell? ⟨b4, o4, none⟩ = some x4 ∧ W.cell? ⟨b5, o5, none⟩ = some x5
section
variable {b0 b1 b2 b3 b4 b5 o0 o1 o2 o3 o4 o5 : Nat} {x0 x1 x2 x3 x4 x5 : Value} {W : World}
theorem S6.drew (h : S6 b0 b1 b2 b3 b4 b5 o0 o1 o2 o3 o4 o5 x0 x1 x2 x3 x4 x5 W) : S6 b0 b1 b2 b3 b4 b5 o0 o1 o2 o3 o4 o5 x0 x1 x2 x3 x4 x5 W.drew := h
theorem S6.keep {W' : World} (h : S6 b0 b1 b2 b3 b4 b5 o0 o1 o2 o3 o4 o5 x0 x1 x2 x3 x4 x5 W) (hx : Ext (fun _ => False) W W') : S6 b0 b1 b2 b3 b4 b5 o0 o1 o2 o3 o4 o5 x0 x1 x2 x3 x4 x5 W' := ⟨cell_keep h.1 hx, cell_keep h.2.1 hx, cell_keep h.2.2.1 hx, cell_keep h.2.2.2.1 hx, cell_keep h.2.2.2.2.1 hx, cell_keep h.2.2.2.2.2 hx⟩
theorem S6.alloc (h : S6 b0 b1 b2 b3 b4 b5 o0 o1 o2 o3 o4 o5 x0 x1 x2 x3 x4 x5 W) (o : Obj) : S6 b0 b1 b2 b3 b4 b5 o0 o1 o2 o3 o4 o5 x0 x1 x2 x3 x4 x5 (W.alloc o) := ⟨cell_new h.1 o, cell_new h.2.1 o, cell_new h.2.2.1 o, cell_new h.2.2.2.1 o, cell_new h.2.2.2.2.1 o, cell_new h.2.2.2.2.2 o⟩
theorem S6.set (h : S6 b0 b1 b2 b3 b4 b5 o0 o1 o2 o3 o4 o5 x0 x1 x2 x3 x4 x5 W) (p : Addr) (u : Value) (k0 : ¬ b0 = p.block) (k1 : ¬ b1 = p.block) (k2 : ¬ b2 = p.block) (k3 : ¬ b3 = p.block) (k4 : ¬ b4 = p.block) (k5 : ¬ b5 = p.block) : S6 b0 b1 b2 b3 b4 b5 o0 o1 o2 o3 o4 o5 x0 x1 x2 x3 x4 x5 (W.setCell p u) := ⟨cell_other h.1 k0, cell_other h.2.1 k1, cell_other h.2.2.1 k2, cell_other h.2.2.2.1 k3, cell_other h.2.2.2.2.1 k4, cell_other h.2.2.2.2.2 k5⟩
end
/-- 7 cells -/
abbrev S7 (b0 b1 b2 b3 b4 b5 b6 o0 o1 o2 o3 o4 o5 o6 : Nat) (x0 x1 x2 x3 x4 x5 x6 : Value) (W : World) : Prop := W.cell? ⟨b0, o0, none⟩ = some x0 ∧ W.cell? ⟨b1, o1, none⟩ = some x1 ∧ W.cell? ⟨b2, o2, none⟩ = some x2 ∧ W.cell? ⟨b3, o3, none⟩ = some x3 ∧ W.cell? ⟨b4, o4, none⟩ = some x4 ∧ W.cell? ⟨b5, o5, none⟩ = some x5 ∧ W.cell? ⟨b6, o6, none⟩ = some x6
section
variable {b0 b1 b2 b3 b4 b5 b6 o0 o1 o2 o3 o4 o5 o6 : Nat} {x0 x1 x2 x3 x4 x5 x6 : Value} {W : World}
theorem S7.drew (h : S7 b0 b1 b2 b3 b4 b5 b6 o0 o1 o2 o3 o4 o5 o6 x0 x1 x2 x3 x4 x5 x6 W) : S7 b0 b1 b2 b3 b4 b5 b6 o0 o1 o2 o3 o4 o5 o6 x0 x1 x2 x3 x4 x5 x6 W.drew := h
theorem S7.keep {W' : World} (h : S7 b0 b1 b2 b3 b4 b5 b6 o0 o1 o2 o3 o4 o5 o6 x0 x1 x2 x3 x4 x5 x6 W) (hx : Ext (fun _ => False) W W') : S7 b0 b1 b2 b3 b4 b5 b6 o0 o1 o2 o3 o4 o5 o6 x0 x1 x2 x3 x4 x5 x6 W' := ⟨cell_keep h.1 hx, cell_keep h.2.1 hx, cell_keep h.2.2.1 hx, cell_keep h.2.2.2.1 hx, cell_keep h.2.2.2.2.1 hx, cell_keep h.2.2.2.2.2.1 hx, cell_keep h.2.2.2.2.2.2 hx⟩
theorem S7.alloc (h : S7 b0 b1 b2 b3 b4 b5 b6 o0 o1 o2 o3 o4 o5 o6 x0 x1 x2 x3 x4 x5 x6 W) (o : Obj) : S7 b0 b1 b2 b3 b4 b5 b6 o0 o1 o2 o3 o4 o5 o6 x0 x1 x2 x3 x4 x5 x6 (W.alloc o) := ⟨cell_new h.1 o, cell_new h.2.1 o, cell_new h.2.2.1 o, cell_new h.2.2.2.1 o, cell_new h.2.2.2.2.1 o, cell_new h.2.2.2.2.2.1 o, cell_new h.2.2.2.2.2.2 o⟩
theorem S7.set (h : S7 b0 b1 b2 b3 b4 b5 b6 o0 o1 o2 o3 o4 o5 o6 x0 x1 x2 x3 x4 x5 x6 W) (p : Addr) (u : Value) (k0 : ¬ b0 = p.block) (k1 : ¬ b1 = p.block) (k2 : ¬ b2 = p.block) (k3 : ¬ b3 = p.block) (k4 : ¬ b4 = p.block) (k5 : ¬ b5 = p.block) (k6 : ¬ b6 = p.block) : S7 b0 b1 b2 b3 b4 b5 b6 o0 o1 o2 o3 o4 o5 o6 x0 x1 x2 x3 x4 x5 x6 (W.setCell p u) := ⟨cell_other h.1 k0, cell_other h.2.1 k1, cell_other h.2.2.1 k2, cell_other h.2.2.2.1 k3, cell_other h.2.2.2.2.1 k4, cell_other h.2.2.2.2.2.1 k5, cell_other h.2.2.2.2.2.2 k6⟩
end
/-- 8 cells -/
abbrev S8 (b0 b1 b2 b3 b4 b5 b6 b7 o0 o1 o2 o3 o4 o5 o6 o7 : Nat) (x0 x1 x2 x3 x4 x5 x6 x7 : Value) (W : World) : Prop := W.cell? ⟨b0, o0, none⟩ = some x0 ∧ W.cell? ⟨b1, o1, none⟩ = some x1 ∧ W.cell? ⟨b2, o2, none⟩ = some x2 ∧ W.cell? ⟨b3, o3, none⟩ = some x3 ∧ W.cell? ⟨b4, o4, none⟩ = some x4 ∧ W.cell? ⟨b5, o5, none⟩ = some x5 ∧ W.cell? ⟨b6, o6, none⟩ = some x6 ∧ W.cell? ⟨b7, o7, none⟩ = some x7
section
variable {b0 b1 b2 b3 b4 b5 b6 b7 o0 o1 o2 o3 o4 o5 o6 o7 : Nat} {x0 x1 x2 x3 x4 x5 x6 x7 : Value} {W : World}
theorem S8.drew (h : S8 b0 b1 b2 b3 b4 b5 b6 b7 o0 o1 o2 o3 o4 o5 o6 o7 x0 x1 x2 x3 x4 x5 x6 x7 W) : S8 b0 b1 b2 b3 b4 b5 b6 b7 o0 o1 o2 o3 o4 o5 o6 o7 x0 x1 x2 x3 x4 x5 x6 x7 W.drew := h
theorem S8.keep {W' : World} (h : S8 b0 b1 b2 b3 b4 b5 b6 b7 o0 o1 o2 o3 o4 o5 o6 o7 x0 x1 x2 x3 x4 x5 x6 x7 W) (hx : Ext (fun _ => False) W W') : S8 b0 b1 b2 b3 b4 b5 b6 b7 o0 o1 o2 o3 o4 o5 o6 o7 x0 x1 x2 x3 x4 x5 x6 x7 W' := ⟨cell_keep h.1 hx, cell_keep h.2.1 hx, cell_keep h.2.2.1 hx, cell_keep h.2.2.2.1 hx, cell_keep h.2.2.2.2.1 hx, cell_keep h.2.2.2.2.2.1 hx, cell_keep h.2.2.2.2.2.2.1 hx, cell_keep h.2.2.2.2.2.2.2 hx⟩
theorem S8.alloc (h : S8 b0 b1 b2 b3 b4 b5 b6 b7 o0 o1 o2 o3 o4 o5 o6 o7 x0 x1 x2 x3 x4 x5 x6 x7 W) (o : Obj) : S8 b0 b1 b2 b3 b4 b5 b6 b7 o0 o1 o2 o3 o4 o5 o6 o7 x0 x1 x2 x3 x4 x5 x6 x7 (W.alloc o) := ⟨cell_new h.1 o, cell_new h.2.1 o, cell_new h.2.2.1 o, cell_new h.2.2.2.1 o, cell_new h.2.2.2.2.1 o, cell_new h.2.2.2.2.2.1 o, cell_new h.2.2.2.2.2.2.1 o, cell_new h.2.2.2.2.2.2.2 o⟩
theorem S8.set (h : S8 b0 b1 b2 b3 b4 b5 b6 b7 o0 o1 o2 o3 o4 o5 o6 o7 x0 x1 x2 x3 x4 x5 x6 x7 W) (p : Addr) (u : Value) (k0 : ¬ b0 = p.block) (k1 : ¬ b1 = p.block) (k2 : ¬ b2 = p.block) (k3 : ¬ b3 = p.block) (k4 : ¬ b4 = p.block) (k5 : ¬ b5 = p.block) (k6 : ¬ b6 = p.block) (k7 : ¬ b7 = p.block) : S8 b0 b1 b2 b3 b4 b5 b6 b7 o0 o1 o2 o3 o4 o5 o6 o7 x0 x1 x2 x3 x4 x5 x6 x7 (W.setCell p u) := ⟨cell_other h.1 k0, cell_other h.2.1 k1, cell_other h.2.2.1 k2, cell_other h.2.2.2.1 k3, cell_other h.2.2.2.2.1 k4, cell_other h.2.2.2.2.2.1 k5, cell_other h.2.2.2.2.2.2.1 k6, cell_other h.2.2.2.2.2.2.2 k7⟩
end
/-- a copied variable in its box -/
def BoxV (W : World) (b : Nat) (v : VarV) : Prop := blk W b = some (.cells (cV v).toArray 63 (0, 0))
theorem BoxV.facts {W : World} {b : Nat} {v : VarV} (h : BoxV W b v) : W.cell? ⟨b, 0, none⟩ = some (.int .i64 v.lo) ∧ W.cell? ⟨b, 1, none⟩ = some (.int .i64 v.up) ∧ W.cell? ⟨b, 2, none⟩ = some (.bool v.op) ∧ W.cell? ⟨b, 3, none⟩ = some (.bool v.ig) ∧ W.cell? ⟨b, 4, none⟩ = some (.int .i64 v.co) := ⟨cellq h 0 rfl, cellq h 1 rfl, cellq h 2 rfl, cellq h 3 rfl, cellq h 4 rfl⟩
theorem BoxV.keep {W W' : World} {b : Nat} {v : VarV} (h : BoxV W b v) (hx : Ext (fun _ => False) W W') : BoxV W' b v := blk_keep h hx
theorem BoxV.new (W : World) (v : VarV) : BoxV (W.alloc (.cells #[.int .i64 v.lo, .int .i64 v.up, .bool v.op, .bool v.ig, .int .i64 v.co] 63)) W.heap.size v := blk_alloc_at _ _
theorem BoxR.keep {W W' : World} {b : Nat} {neg : Bool} {m d : Value} (h : BoxR W b neg m d) (hx : Ext (fun _ => False) W W') : BoxR W' b neg m d := h.ext hx id
end Go.Proofs.YtbgienfcmdgaaaaGreat
/-
  A drawn region walked by hand: one operation after another, where a guard passes some of them over. Conditions: none beyond each lemma's own.
-/
namespace Go.Proofs.YtbgienfcmdgaaaaGreat
open Go.RowKit Go.MapKept

section
variable {P : Program} {md : Region.Mode} {l : List Oper} {Q : Exit → Act → World → Prop} {S : World → Prop}
theorem held_take (i : Nat) {oi : Oper} {v : Value} {fuel : Nat} {listed : Array Bool} {a : Act} {w : World} (hi : l[i]? = some oi) (hs : Region.noSelect l.toArray = true) (hf : Region.free md l.toArray listed i = true)
    (hr : (Region.ready md l.toArray listed).contains i = true) (hQ : ∀ c a w, Q (.panic c) (a.put oi.dst v) w → Q (.panic c) a w) (hw : Region.wanted oi (yielded l.toArray a.tmps) = true)
    (he : ∀ w, S w → (execOp a.eval oi).run P w = .ok (.value v) w) (hS : S w) (h : wpAnyH P md l.toArray Q S fuel (listed.setIfInBounds i true) (a.put oi.dst v) w) : wpAnyH P md l.toArray Q S (fuel + 1) listed a w :=
  wpAnyH_take (by simpa using hi) hs hf hr hQ (.inl ⟨hw, he⟩) hS h
theorem held_skip (i : Nat) {oi : Oper} {fuel : Nat} {listed : Array Bool} {a : Act} {w : World} (hi : l[i]? = some oi) (hs : Region.noSelect l.toArray = true) (hf : Region.free md l.toArray listed i = true)
    (hr : (Region.ready md l.toArray listed).contains i = true) (hQ : ∀ c a w, Q (.panic c) (a.put oi.dst undef) w → Q (.panic c) a w) (hw : Region.wanted oi (yielded l.toArray a.tmps) = false)
    (hS : S w) (h : wpAnyH P md l.toArray Q S fuel (listed.setIfInBounds i true) (a.put oi.dst undef) w) : wpAnyH P md l.toArray Q S (fuel + 1) listed a w :=
  wpAnyH_take (by simpa using hi) hs hf hr hQ (.inr ⟨hw, rfl⟩) hS h
theorem held_step (i : Nat) {oi : Oper} {fuel : Nat} {listed : Array Bool} {a : Act} {w : World} (hi : l[i]? = some oi) (hr : Region.ready md l.toArray listed = [i])
    (h : ∀ K' : Act → World → Prop, Shut (∀ a w, S w → (S w → wpAnyH P md l.toArray Q S fuel (listed.setIfInBounds i true) a w) → K' a w) → if Region.wanted oi (yielded l.toArray a.tmps) = true then Oper.wp P oi a w K' Q else K' (a.put oi.dst undef) w) :
    wpAnyH P md l.toArray Q S (fuel + 1) listed a w :=
  wpAnyH_ready hr (by simp) (AllReadyH.cons (by simpa using hi) h AllReadyH.nil)
end
end Go.Proofs.YtbgienfcmdgaaaaGreat
/-
  Package linear: Least. Conditions: the arguments read as programs, lists of fractions.
-/
namespace Go.Proofs.YtbgienfcmdgaaaaGreat
open Go.RowKit Go.MapKept
open Go.ChangeMaps (setBlock)

set_option maxRecDepth 100000 in
set_option maxHeartbeats 4000000 in
theorem least1_any (w : World) (pb xb : Nat) (vv rv xv : Value) (p : ProgV) (l : List Rat) (L : Nat) (hp : blk w pb = some (.cells #[vv, rv] 25 (0, 0))) (hxb : blk w xb = some (.cells #[xv] 32 (0, 0))) (hv : Vrs w vv p.vars) (hl : Rats w xv l L) (hL : L ≤ 268435455) (i : Nat) (hi : i < p.vars.length) :
    Calls Tryz.prog 114 #[.int .i64 i, .pointer (some ⟨xb, 0, none⟩), .pointer (some ⟨pb, 0, none⟩)] w (TermPost w (pickQ (p.v i) (atQ l i)) (atQ l i) L) := by
  obtain ⟨vo, vc, rfl, -, hn, -⟩ := hv.shape
  obtain ⟨xo, xc, rfl, -, hxn, -⟩ := hl.shape
  have HA := Lib.hid (fun W (hW : Ext (fun _ => False) w W) => lat_any W _ l L (hl.keep hW) i)
  obtain ⟨b, off, rfl, hlt, e0, e1, -, -, -, -⟩ := hv.atp i hi
  have hx := (Ext.refl (fun _ => False) w).alloc (.cells #[.bool false, .slice none 0 0, .slice none 0 0] 31)
  have hS : S4 pb xb b b 0 0 (off + i * 5) (off + i * 5 + 1) (.slice (some ⟨b, off, none⟩) p.vars.length vc) (.slice xo l.length xc) (.int .i64 (p.v i).lo) (.int .i64 (p.v i).up) (w.alloc (.cells #[.bool false, .slice none 0 0, .slice none 0 0] 31)) := S4.keep ⟨cellq hp 0 rfl, cellq hxb 0 rfl, e0, e1⟩ hx
  have hb := boxR_new (W := w) rfl false none 0 0 none 0 0
  have HB := Lib.hid (And.intro hb (And.intro hx hS))
  have n0 := blk_lt hp
  have n1 := blk_lt hxb
  have j0 : (0 : Int) ≤ (i : Int) := by omega
  have j1 : (i : Int) < (p.vars.length : Int) := by omega
  clear hv hl hp hxb e0 e1 hi
  go_enter Tryz.func114, Tryz.ntmps114
  go_upto_region 1 with fail
  obtain ⟨x0, x1, -, -⟩ := hS
  clear hb hx
  obtain ⟨r, hr⟩ : ∃ r, w.heap.size = r := ⟨_, rfl⟩
  rw [hr] at HB n0 n1 hlt ⊢
  generalize w.alloc (.cells #[.bool false, .slice none 0 0, .slice none 0 0] 31) = w1 at *
  go_wp2_with fail
  refine (HA.out _ HB.out.2.1).mono ?_
  rintro r2 w2 ⟨v2, rfl, h2, hx2⟩
  have HG := Lib.hid (rsign_any w2 v2 _ L h2 hL)
  have HX2 := Lib.hid hx2
  clear h2 hx2
  go_wp2_with fail
  refine HG.out.mono ?_
  rintro r3 w3 ⟨rfl, hx3⟩
  have hx13 := HX2.out.trans hx3
  have hS := HB.out.2.2.keep hx13
  have HB3 := Lib.hid (And.intro (HB.out.1.ext hx13 id) (HB.out.2.1.trans hx13))
  have hsg := sign_lt (atQ l i)
  clear hx3 hx13 HX2 HG HB x0 x1
  have hcase : ((atQ l i).num.sign < 0 ∧ pickQ (p.v i) (atQ l i) = (p.v i).up) ∨ (¬ (atQ l i).num.sign < 0 ∧ pickQ (p.v i) (atQ l i) = (p.v i).lo) := by
    by_cases h : atQ l i < 0
    · exact .inl ⟨hsg.2 h, if_pos h⟩
    · exact .inr ⟨fun h2 => h (hsg.1 h2), if_neg h⟩
  generalize pickQ (p.v i) (atQ l i) = pk at *
  generalize p.vars.length = n at *
  generalize l.length = xn at *
  generalize (atQ l i).num.sign = sg at *
  clear hsg
  rcases hcase with ⟨hc, rfl⟩ | ⟨hc, rfl⟩
  · replace hS : S3 pb xb b 0 0 (off + i * 5 + 1) (.slice (some ⟨b, off, none⟩) n vc) (.slice xo xn xc) (.int .i64 (p.v i).up) w3 := ⟨hS.1, hS.2.1, hS.2.2.2⟩
    generalize (p.v i).up = k at *
    go_upto_region 2 with fail
    (go_region_held3 (S3 pb xb b 0 0 (off + i * 5 + 1) (.slice (some ⟨b, off, none⟩) n vc) (.slice xo xn xc) (.int .i64 k))
      (repeat (first | (with_reducible assumption) | (with_reducible refine S3.drew ?_) | (with_reducible refine S3.set ?_ _ _ ?_ ?_ ?_) | (dsimp only; omega)))
      ((go_at_call 105; (with_reducible refine (HA.out _ HB3.out.2.drew).mono ?_); rintro q1 w11 ⟨v11, rfl, h11, hx11⟩; have hX1 := (Ext.refl (fun _ => False) w3).drew.trans hx11; have hK1 := hS.keep hX1; have hr3 := HB3.out.1.ext hX1 id; obtain ⟨d0, d1, d2, d3, d4, d5⟩ := hr3.facts; obtain ⟨ng, sa, sn, sc, ta, tn, tc, rfl⟩ := h11.shape)))
    obtain ⟨hp, ha⟩ := term_put (w := w) (k := k) hr3 (Nat.le_of_eq hr) (HB3.out.2.trans hX1) h11
    have HP := Lib.hid (And.intro hp ha)
    clear hp ha h11 hx11 hX1 hK1 hr3 d0 d1 d2 d3 d4 d5 hS HB3
    go_wp2
    generalize ((w11.setCell ⟨r, 0, none⟩ (.bool ng)).setCell ⟨r, 1, none⟩ (.slice sa sn sc)).setCell ⟨r, 2, none⟩ (.slice ta tn tc) = w9 at *
    obtain ⟨g0, g1, g2, _⟩ := HP.out.1.facts
    exact bodyPost_ret (v := .tuple #[.int .i64 k, .agg #[.bool ng, .slice sa sn sc, .slice ta tn tc]]) (by simp [results, Tryz.results114, go_sem, g0, g1, g2]) rfl HP.out.2
  · replace hS : S3 pb xb b 0 0 (off + i * 5) (.slice (some ⟨b, off, none⟩) n vc) (.slice xo xn xc) (.int .i64 (p.v i).lo) w3 := ⟨hS.1, hS.2.1, hS.2.2.1⟩
    generalize (p.v i).lo = k at *
    go_upto_region 3 with fail
    (go_region_held3 (S3 pb xb b 0 0 (off + i * 5) (.slice (some ⟨b, off, none⟩) n vc) (.slice xo xn xc) (.int .i64 k))
      (repeat (first | (with_reducible assumption) | (with_reducible refine S3.drew ?_) | (with_reducible refine S3.set ?_ _ _ ?_ ?_ ?_) | (dsimp only; omega)))
      ((go_at_call 105; (with_reducible refine (HA.out _ HB3.out.2.drew).mono ?_); rintro q1 w11 ⟨v11, rfl, h11, hx11⟩; have hX1 := (Ext.refl (fun _ => False) w3).drew.trans hx11; have hK1 := hS.keep hX1; have hr3 := HB3.out.1.ext hX1 id; obtain ⟨d0, d1, d2, d3, d4, d5⟩ := hr3.facts; obtain ⟨ng, sa, sn, sc, ta, tn, tc, rfl⟩ := h11.shape)))
    obtain ⟨hp, ha⟩ := term_put (w := w) (k := k) hr3 (Nat.le_of_eq hr) (HB3.out.2.trans hX1) h11
    have HP := Lib.hid (And.intro hp ha)
    clear hp ha h11 hx11 hX1 hK1 hr3 d0 d1 d2 d3 d4 d5 hS HB3
    go_wp2
    generalize ((w11.setCell ⟨r, 0, none⟩ (.bool ng)).setCell ⟨r, 1, none⟩ (.slice sa sn sc)).setCell ⟨r, 2, none⟩ (.slice ta tn tc) = w9 at *
    obtain ⟨g0, g1, g2, _⟩ := HP.out.1.facts
    exact bodyPost_ret (v := .tuple #[.int .i64 k, .agg #[.bool ng, .slice sa sn sc, .slice ta tn tc]]) (by simp [results, Tryz.results114, go_sem, g0, g1, g2]) rfl HP.out.2

/-- what hinders a least value at an index -/
def leaB (p : ProgV) (c : List Rat) (i : Nat) : Bool := ((p.v i).op || decide ((p.v i).lo ≤ (p.v i).up)) && !((p.v i).op && decide (atQ c i < 0))
theorem allTo_and (f g : Nat → Bool) : ∀ n, allTo n (fun i => f i && g i) = (allTo n f && allTo n g)
  | 0 => rfl
  | n + 1 => by
    show (allTo n (fun i => f i && g i) && (f n && g n)) = ((allTo n f && f n) && (allTo n g && g n))
    rw [allTo_and f g n]
    cases allTo n f <;> cases allTo n g <;> cases f n <;> cases g n <;> rfl
theorem leastQ_eq (p : ProgV) (c : List Rat) : leastQ p c = if allTo p.vars.length (leaB p c) then some (leastS p c) else none := by
  unfold leastQ emptyB lowB leaB
  rw [allTo_and]
  generalize allTo p.vars.length (fun i => (p.v i).op || decide ((p.v i).lo ≤ (p.v i).up)) = a
  generalize (allTo p.vars.length fun i => !((p.v i).op && decide (atQ c i < 0))) = b
  cases a <;> cases b <;> rfl
/-- a value, or none -/
def OptPost (w : World) (q : Option Rat) (r : Ending) (w' : World) : Prop := Ext (fun _ => False) w w' ∧ match q with
  | none => ∃ v, r = .returned (.tuple #[v, .bool false]) ∧ IsRat w' v 0
  | some q => ∃ v, r = .returned (.tuple #[v, .bool true]) ∧ IsRat w' v q
theorem pick_in {p : ProgV} {w : World} {v : Value} (h : Vrs w v p.vars) (c : List Rat) (i : Nat) (hi : i < p.vars.length) : InR (pickQ (p.v i) (atQ c i)) := by
  unfold pickQ
  split
  · exact (h.ok i hi).up
  · exact (h.ok i hi).lo
set_option maxRecDepth 100000 in
set_option maxHeartbeats 4000000 in
theorem Least_any (w : World) (pv xv : Value) (p : ProgV) (l : List Rat) (L : Nat) (hp : IsPrg w pv p) (hl : Rats w xv l L) (h1 : 1 ≤ L) (hL : 1 + p.vars.length * (L + 3) + (L + 3) ≤ 4000000) :
    Calls Tryz.prog 62 #[pv, xv] w (OptPost w (leastQ p l)) := by
  obtain ⟨vv, rv, rfl, hv, hr⟩ := hp
  obtain ⟨vo, vc, rfl, -, hn, -⟩ := hv.shape
  obtain ⟨xo, xc, rfl, -, hxn, -⟩ := hl.shape
  obtain ⟨b0, b1, b2, hx⟩ := box3 w (.cells #[.slice vo p.vars.length vc, rv] 25) (.cells #[.slice xo l.length xc] 32) (.cells #[.bool false, .slice none 0 0, .slice none 0 0] 31)
  have HV := Lib.hid (And.intro hv hl)
  have HS := Lib.hid (fun W0 (hW0 : Ext (fun _ => False) (((w.alloc (.cells #[.slice vo p.vars.length vc, rv] 25)).alloc (.cells #[.slice xo l.length xc] 32)).alloc (.cells #[.bool false, .slice none 0 0, .slice none 0 0] 31)) W0) =>
    lsum_any W0 p.vars.length 114 #[.pointer (some ⟨w.heap.size + 1, 0, none⟩), .pointer (some ⟨w.heap.size, 0, none⟩)] (fun i => pickQ (p.v i) (atQ l i)) (fun i => atQ l i) L h1 hL
      (fun i hi => pick_in hv l i hi) (fun i _ => hl.sz h1 i) (enters_of Tryz.func114 (by kernel_rfl) rfl)
      (fun W hW i hi => least1_any W w.heap.size (w.heap.size + 1) _ rv _ p l L (blk_keep b0 (hW0.trans hW)) (blk_keep b1 (hW0.trans hW)) (hv.keep ((hx.trans hW0).trans hW)) (hl.keep ((hx.trans hW0).trans hW)) (by omega) i hi))
  have HA := Lib.hid (fun W (hW : Ext (fun _ => False) w W) (i : Nat) => lat_any W _ l L (hl.keep hW) i)
  have HG := Lib.hid (fun W u q (hu : Rrat W u q L) => rsign_any W u q L hu (by omega))
  have HB := Lib.hid (And.intro b0 (And.intro b1 (And.intro (boxR_of b2) hx)))
  have HQ := Lib.hid (leastQ_eq p l)
  obtain ⟨qs, hqs⟩ : ∃ qs, leastS p l = qs := ⟨_, rfl⟩
  have hqs' := hqs
  unfold leastS at hqs'
  rw [hqs'] at HS
  rw [hqs] at HQ
  clear hv hr hl b0 b1 b2 hx hqs hqs'
  obtain ⟨n, hn'⟩ : ∃ n, p.vars.length = n := ⟨_, rfl⟩
  have HN := Lib.hid hn'
  rw [hn'] at hn ⊢ HV HB HS HQ
  clear hn' hL
  generalize l.length = xn at *
  go_enter Tryz.func62, Tryz.ntmps62
  go_upto_region 1 with fail
  generalize (((w.alloc (.cells #[.slice vo n vc, rv] 25)).alloc (.cells #[.slice xo xn xc] 32)).alloc (.cells #[.bool false, .slice none 0 0, .slice none 0 0] 31)) = w1 at *
  obtain ⟨pb, hpb⟩ : ∃ pb, w.heap.size = pb := ⟨_, rfl⟩
  have hpw : w.heap.size ≤ pb := Nat.le_of_eq hpb
  rw [hpb] at HB HS ⊢
  have z0 := cellq HB.out.1 0 rfl
  go_wp2_with fail
  go_loopg [11] n (fun gg v11 wr => ∃ i : Nat, i ≤ n ∧ gg = n - i ∧ v11 = .int .i64 i ∧ allTo i (leaB p l) = true ∧ Ext (fun _ => False) w1 wr)
  case atStart => exact ⟨0, Nat.zero_le _, rfl, rfl, rfl, Ext.refl _ _⟩
  case round =>
    clear z0
    obtain ⟨i, hi, rfl, rfl, hall, hx⟩ := hrel
    have HX := Lib.hid (And.intro hall hx)
    clear hall hx
    by_cases hin : i < n
    · have i0 : (i : Int) < (n : Int) := by omega
      have hrow := (HV.out.1.keep (HB.out.2.2.2.trans HX.out.2))
      obtain ⟨b, off, rfl, hlt, e0, e1, e2, e3, e4, -⟩ := hrow.atp i (by rw [HN.out]; exact hin)
      clear hrow
      have HA1 := Lib.hid (fun W (hW : Ext (fun _ => False) wr W) => HA.out W ((HB.out.2.2.2.trans HX.out.2).trans hW) i)
      have hb1 := BoxV.new wr (p.v i)
      have hx1 := (Ext.refl (fun _ => False) wr).alloc (.cells #[.int .i64 (p.v i).lo, .int .i64 (p.v i).up, .bool (p.v i).op, .bool (p.v i).ig, .int .i64 (p.v i).co] 63)
      have HR := Lib.hid (show leaB p l i = (((p.v i).op || decide ((p.v i).lo ≤ (p.v i).up)) && !((p.v i).op && decide (atQ l i < 0))) from rfl)
      have HB1 := Lib.hid (And.intro hb1 hx1)
      clear hb1 hx1
      go_upto_region 4 with fail
      obtain ⟨rb, hrb⟩ : ∃ rb, wr.heap.size = rb := ⟨_, rfl⟩
      rw [hrb] at HB1 ⊢
      generalize wr.alloc (.cells #[.int .i64 (p.v i).lo, .int .i64 (p.v i).up, .bool (p.v i).op, .bool (p.v i).ig, .int .i64 (p.v i).co] 63) = w2 at *
      clear e0 e1 e2 e3 e4
      obtain ⟨f0, f1, f2, -, -⟩ := HB1.out.1.facts
      have a0 := (cellq HB.out.2.1 0 rfl)
      have a1 := cell_keep (cell_keep a0 HX.out.2) HB1.out.2
      clear a0
      have hbr := ((HB.out.2.2.1.keep HX.out.2).keep HB1.out.2)
      obtain ⟨d0, d1, d2, d3, d4, d5⟩ := hbr.facts
      have hput := hbr.put (neg := false) (no_int none 0 0) (no_int none 0 0)
      have HPut := Lib.hid hput
      clear hput hbr
      have hs0 := sign_lt (atQ l i)
      have HSg := Lib.hid hs0
      clear hs0
      generalize (p.v i).op = o at *
      generalize (p.v i).lo = lo at *
      generalize (p.v i).up = up at *
      cases o with
      | false =>
        by_cases hlu : up < lo
        · go_wp2
          generalize (((w2.setCell ⟨pb + 1 + 1, 0, none⟩ (.bool false)).setCell ⟨pb + 1 + 1, 1, none⟩ (.slice none 0 0)).setCell ⟨pb + 1 + 1, 2, none⟩ (.slice none 0 0)) = w9 at *
          obtain ⟨g0, g1, g2, _⟩ := HPut.out.box.facts
          refine bodyPost_ret (v := .tuple #[.agg #[.bool false, .slice none 0 0, .slice none 0 0], .bool false]) (by simp [results, Tryz.results62, go_sem, g0, g1, g2]) rfl ⟨?_, ?_⟩
          · exact (((HB.out.2.2.2.trans HX.out.2).trans HB1.out.2)).own HPut.out.ext (fun k e => by omega)
          · rw [HQ.out, if_neg (by rw [allTo_false (f := leaB p l) hin (by rw [HR.out]; simp; omega)]; simp)]
            exact ⟨_, rfl, IsRat.zero _⟩
        · go_wp2
          go_roundg (n - (i + 1))
          case measure => omega
          case rel => exact ⟨i + 1, by omega, rfl, by go_num, allTo_next HX.out.1 (by rw [HR.out]; simp; omega), HX.out.2.trans HB1.out.2⟩
      | true =>
        go_wp2_with fail
        refine (HA1.out w2 HB1.out.2).mono ?_
        rintro r3 w3 ⟨v3, rfl, h3, hx3⟩
        have HG3 := Lib.hid (HG.out w3 v3 _ h3)
        have HX3 := Lib.hid hx3
        clear h3 hx3 HPut
        go_wp2_with fail
        refine HG3.out.mono ?_
        rintro r4 w4 ⟨rfl, hx4⟩
        have hx24 := HX3.out.trans hx4
        have hbr := (((HB.out.2.2.1.keep HX.out.2).keep HB1.out.2)).keep hx24
        obtain ⟨d0, d1, d2, d3, d4, d5⟩ := hbr.facts
        have hput := hbr.put (neg := false) (no_int none 0 0) (no_int none 0 0)
        have HPut := Lib.hid hput
        have HX4 := Lib.hid ((HX.out.2.trans HB1.out.2).trans hx24)
        clear hput hbr hx4 hx24 HX3 HG3
        by_cases hs : (atQ l i).num.sign < 0
        · have hq : atQ l i < 0 := HSg.out.1 hs
          have HQ1 := Lib.hid hq
          clear hq
          generalize (atQ l i).num.sign = sg at *
          go_wp2
          generalize (((w4.setCell ⟨pb + 1 + 1, 0, none⟩ (.bool false)).setCell ⟨pb + 1 + 1, 1, none⟩ (.slice none 0 0)).setCell ⟨pb + 1 + 1, 2, none⟩ (.slice none 0 0)) = w9 at *
          obtain ⟨g0, g1, g2, _⟩ := HPut.out.box.facts
          refine bodyPost_ret (v := .tuple #[.agg #[.bool false, .slice none 0 0, .slice none 0 0], .bool false]) (by simp [results, Tryz.results62, go_sem, g0, g1, g2]) rfl ⟨?_, ?_⟩
          · exact (HB.out.2.2.2.trans HX4.out).own HPut.out.ext (fun k e => by omega)
          · rw [HQ.out, if_neg (by rw [allTo_false (f := leaB p l) hin (by rw [HR.out]; simp [HQ1.out])]; simp)]
            exact ⟨_, rfl, IsRat.zero _⟩
        · have hq : ¬ atQ l i < 0 := fun h => hs (HSg.out.2 h)
          have HQ1 := Lib.hid hq
          clear hq
          generalize (atQ l i).num.sign = sg at *
          go_wp2
          go_roundg (n - (i + 1))
          case measure => omega
          case rel => exact ⟨i + 1, by omega, rfl, by go_num, allTo_next HX.out.1 (by rw [HR.out]; simp [HQ1.out]), HX4.out⟩
    · obtain rfl : i = n := by omega
      have a0 := cell_keep (cellq HB.out.1 0 rfl) HX.out.2
      go_wp2_with fail
      refine (HS.out wr HX.out.2).mono ?_
      rintro r2 w2 ⟨v2, rfl, h2, hx2⟩
      obtain ⟨ng, sa, sn, sc, ta, tn, tc, rfl⟩ := h2.shape
      have hr3 := (HB.out.2.2.1.keep HX.out.2).keep hx2
      obtain ⟨d0, d1, d2, d3, d4, d5⟩ := hr3.facts
      have hp := hr3.put (neg := ng) (no_int sa sn sc) (no_int ta tn tc)
      have HP := Lib.hid (And.intro hp (And.intro (hp.rat h2) ((HB.out.2.2.2.trans (HX.out.2.trans hx2)).own hp.ext (fun k e => by omega))))
      clear h2 hr3 hx2 hp
      go_wp2
      generalize (((w2.setCell ⟨pb + 1 + 1, 0, none⟩ (.bool ng)).setCell ⟨pb + 1 + 1, 1, none⟩ (.slice sa sn sc)).setCell ⟨pb + 1 + 1, 2, none⟩ (.slice ta tn tc)) = w9 at *
      obtain ⟨g0, g1, g2, _⟩ := HP.out.1.box.facts
      refine bodyPost_ret (v := .tuple #[.agg #[.bool ng, .slice sa sn sc, .slice ta tn tc], .bool true]) (by simp [results, Tryz.results62, go_sem, g0, g1, g2]) rfl ⟨HP.out.2.2, ?_⟩
      rw [HQ.out, if_pos HX.out.1]
      exact ⟨_, rfl, HP.out.2.1⟩
end Go.Proofs.YtbgienfcmdgaaaaGreat
/-
  Rows of fractions that a call owns: made, read, written; package duality: each. Conditions: the closure's contract at every index.
-/
namespace Go.Proofs.YtbgienfcmdgaaaaGreat
open Go.RowKit Go.MapKept
open Go.ChangeMaps (setBlock)

/-- a block whose elements are the fractions f 0, .., f (n - 1) -/
structure RArr (w : World) (b n : Nat) (f : Nat → Rat) : Prop where
  row : ∃ arr, blk w b = some (.cells arr 31 (0, 0)) ∧ arr.size = n * 3
  cells : ∀ i, i < n → ∃ neg a1 m1 c1 a2 m2 c2, w.cell? ⟨b, i * 3, none⟩ = some (.bool neg) ∧ w.cell? ⟨b, i * 3 + 1, none⟩ = some (.slice a1 m1 c1) ∧ w.cell? ⟨b, i * 3 + 2, none⟩ = some (.slice a2 m2 c2) ∧ IsRat w (.agg #[.bool neg, .slice a1 m1 c1, .slice a2 m2 c2]) (f i)
section
variable {w w' : World} {b n : Nat} {f g : Nat → Rat}
theorem RArr.lt (h : RArr w b n f) : b < w.heap.size := by
  obtain ⟨arr, h1, _⟩ := h.row
  exact blk_lt h1
theorem RArr.free (h : RArr w b n f) (i : Nat) : w.frozen? ⟨b, i, none⟩ = false := by
  obtain ⟨arr, h1, _⟩ := h.row
  exact free_of_cells h1 i
theorem RArr.keep (h : RArr w b n f) (hx : Ext (fun _ => False) w w') : RArr w' b n f := by
  obtain ⟨arr, h1, h2⟩ := h.row
  refine ⟨⟨arr, blk_keep h1 hx, h2⟩, fun i hi => ?_⟩
  obtain ⟨neg, a1, m1, c1, a2, m2, c2, e0, e1, e2, hq⟩ := h.cells i hi
  exact ⟨neg, a1, m1, c1, a2, m2, c2, cell_keep e0 hx, cell_keep e1 hx, cell_keep e2 hx, hq.keep hx⟩
theorem RArr.congr (h : RArr w b n f) (hg : ∀ i, i < n → f i = g i) : RArr w b n g :=
  ⟨h.row, fun i hi => by
    obtain ⟨neg, a1, m1, c1, a2, m2, c2, e0, e1, e2, hq⟩ := h.cells i hi
    exact ⟨neg, a1, m1, c1, a2, m2, c2, e0, e1, e2, by rw [← hg i hi]; exact hq⟩⟩
theorem RArr.noDig (h : RArr w b n f) : NoDig w b := fun i d hc => by
  obtain ⟨arr, h1, h2⟩ := h.row
  have hi : i < n * 3 := by
    rw [cell_of_cells h1] at hc
    have := (Array.getElem?_eq_some_iff.1 hc).1
    omega
  obtain ⟨neg, a1, m1, c1, a2, m2, c2, e0, e1, e2, _⟩ := h.cells (i / 3) (by omega)
  have h3 : i = i / 3 * 3 ∨ i = i / 3 * 3 + 1 ∨ i = i / 3 * 3 + 2 := by omega
  rcases h3 with h3 | h3 | h3 <;> rw [h3] at hc
  · rw [e0] at hc; cases hc
  · rw [e1] at hc; cases hc
  · rw [e2] at hc; cases hc
/-- a fraction is stored at an index -/
theorem RArr.put (h : RArr w b n f) {j : Nat} (hj : j < n) {neg : Bool} {a1 a2 : Option Addr} {m1 c1 m2 c2 : Nat} {q : Rat} (hq : IsRat w (.agg #[.bool neg, .slice a1 m1 c1, .slice a2 m2 c2]) q) :
    RArr (((w.setCell ⟨b, j * 3, none⟩ (.bool neg)).setCell ⟨b, j * 3 + 1, none⟩ (.slice a1 m1 c1)).setCell ⟨b, j * 3 + 2, none⟩ (.slice a2 m2 c2)) b n (fun k => if k = j then q else f k) ∧
    Ext (fun k => k = b) w (((w.setCell ⟨b, j * 3, none⟩ (.bool neg)).setCell ⟨b, j * 3 + 1, none⟩ (.slice a1 m1 c1)).setCell ⟨b, j * 3 + 2, none⟩ (.slice a2 m2 c2)) ∧
    ∀ v l, Rds w v l → Rds (((w.setCell ⟨b, j * 3, none⟩ (.bool neg)).setCell ⟨b, j * 3 + 1, none⟩ (.slice a1 m1 c1)).setCell ⟨b, j * 3 + 2, none⟩ (.slice a2 m2 c2)) v l := by
  have hx : Ext (fun k => k = b) w (((w.setCell ⟨b, j * 3, none⟩ (.bool neg)).setCell ⟨b, j * 3 + 1, none⟩ (.slice a1 m1 c1)).setCell ⟨b, j * 3 + 2, none⟩ (.slice a2 m2 c2)) := (((Ext.refl (fun k => k = b) w).setCell (p := ⟨b, j * 3, none⟩) _ (fun _ => rfl)).setCell (p := ⟨b, j * 3 + 1, none⟩) _ (fun _ => rfl)).setCell (p := ⟨b, j * 3 + 2, none⟩) _ (fun _ => rfl)
  have hr : ∀ v l, Rds w v l → Rds (((w.setCell ⟨b, j * 3, none⟩ (.bool neg)).setCell ⟨b, j * 3 + 1, none⟩ (.slice a1 m1 c1)).setCell ⟨b, j * 3 + 2, none⟩ (.slice a2 m2 c2)) v l := fun v l hv => hv.past hx (fun k _ e => by subst e; exact h.noDig)
  refine ⟨⟨?_, fun i hi => ?_⟩, hx, hr⟩
  · obtain ⟨arr, h1, h2⟩ := h.row
    have k1 := blk_setCell_same h1 (j * 3) (.bool neg)
    have k2 := blk_setCell_same k1 (j * 3 + 1) (.slice a1 m1 c1)
    have k3 := blk_setCell_same k2 (j * 3 + 2) (.slice a2 m2 c2)
    exact ⟨_, k3, by simpa using h2⟩
  · obtain ⟨n0, b1, l1, d1, b2, l2, d2, e0, e1, e2, hf⟩ := h.cells i hi
    by_cases hij : i = j
    · subst hij
      rw [if_pos rfl]
      refine ⟨neg, a1, m1, c1, a2, m2, c2, ?_, ?_, ?_, ?_⟩
      · simp only [cell?_setCell_if]
        rw [if_neg (by omega), if_neg (by omega), if_pos (by simp), e0]; rfl
      · simp only [cell?_setCell_if]
        rw [if_neg (by omega), if_pos (by simp), if_neg (by omega), e1]; rfl
      · simp only [cell?_setCell_if]
        rw [if_pos (by simp), if_neg (by omega), if_neg (by omega), e2]; rfl
      · obtain ⟨mag, dv', g1, g2, g3⟩ := hq
        exact ⟨mag, dv', g1, hr _ _ g2, hr _ _ g3⟩
    · rw [if_neg hij]
      refine ⟨n0, b1, l1, d1, b2, l2, d2, ?_, ?_, ?_, ?_⟩
      · simp only [cell?_setCell_if]
        rw [if_neg (by omega), if_neg (by omega), if_neg (by omega), e0]
      · simp only [cell?_setCell_if]
        rw [if_neg (by omega), if_neg (by omega), if_neg (by omega), e1]
      · simp only [cell?_setCell_if]
        rw [if_neg (by omega), if_neg (by omega), if_neg (by omega), e2]
      · obtain ⟨mag, dv', g1, g2, g3⟩ := hf
        exact ⟨mag, dv', g1, hr _ _ g2, hr _ _ g3⟩
/-- it reads as a list -/
theorem RArr.rats (h : RArr w b n f) {L : Nat} (hs : ∀ i, i < n → Sz (f i) L) {c : Nat} (hc : n ≤ c) (hm : c ≤ maxLen) : Rats w (.slice (some ⟨b, 0, none⟩) n c) (listTo n f) L := by
  have hex : ∃ cs : List (List Value), cs.length = n ∧ ∀ i, i < n → ∃ neg a1 m1 c1 a2 m2 c2, cs[i]? = some [.bool neg, .slice a1 m1 c1, .slice a2 m2 c2] ∧ w.cell? ⟨b, i * 3, none⟩ = some (.bool neg) ∧ w.cell? ⟨b, i * 3 + 1, none⟩ = some (.slice a1 m1 c1) ∧ w.cell? ⟨b, i * 3 + 2, none⟩ = some (.slice a2 m2 c2) ∧ IsRat w (.agg #[.bool neg, .slice a1 m1 c1, .slice a2 m2 c2]) (f i) := by
    have hg : ∀ i : Fin n, ∃ r : List Value, ∃ neg a1 m1 c1 a2 m2 c2, r = [.bool neg, .slice a1 m1 c1, .slice a2 m2 c2] ∧ w.cell? ⟨b, i * 3, none⟩ = some (.bool neg) ∧ w.cell? ⟨b, i * 3 + 1, none⟩ = some (.slice a1 m1 c1) ∧ w.cell? ⟨b, i * 3 + 2, none⟩ = some (.slice a2 m2 c2) ∧ IsRat w (.agg #[.bool neg, .slice a1 m1 c1, .slice a2 m2 c2]) (f i) := fun i => by
      obtain ⟨neg, a1, m1, c1, a2, m2, c2, h1⟩ := h.cells i i.2
      exact ⟨_, neg, a1, m1, c1, a2, m2, c2, rfl, h1⟩
    refine ⟨List.ofFn fun i : Fin n => Classical.choose (hg i), by simp, fun i hi => ?_⟩
    obtain ⟨neg, a1, m1, c1, a2, m2, c2, h1, h2⟩ := Classical.choose_spec (hg ⟨i, hi⟩)
    exact ⟨neg, a1, m1, c1, a2, m2, c2, by rw [List.getElem?_ofFn, dif_pos hi, h1], h2⟩
  obtain ⟨cs, hl, hcs⟩ := hex
  refine ⟨cs, by rw [hl, listTo_length], ⟨some ⟨b, 0, none⟩, c, by rw [hl], by omega, hm, (fun e => by cases e), fun hp => ⟨b, 0, rfl, h.lt, fun i r hi j u hu => ?_⟩⟩, fun i c' q hc' hq => ?_⟩
  · have hin : i < n := by rw [← hl]; exact (List.getElem?_eq_some_iff.1 hi).1
    obtain ⟨neg, a1, m1, c1, a2, m2, c2, h1, e0, e1, e2, _⟩ := hcs i hin
    rw [h1] at hi; cases hi
    rw [Nat.zero_add]
    match j, hu with
    | 0, hu => cases hu; exact e0
    | 1, hu => cases hu; exact e1
    | 2, hu => cases hu; exact e2
    | j + 3, hu => simp at hu
  · have hin : i < n := by rw [← hl]; exact (List.getElem?_eq_some_iff.1 hc').1
    obtain ⟨neg, a1, m1, c1, a2, m2, c2, h1, e0, e1, e2, h3⟩ := hcs i hin
    rw [h1] at hc'; cases hc'
    have : f i = q := by
      simp [listTo, hin] at hq; exact hq
    rw [← this]
    exact h3.reads (hs i hin)
end
theorem Tryz.infoRat : (Tryz.prog.info? 31).map (fun i => (i.zero, i.size, i.bytes)) = some (some (.agg #[.bool false, .slice none 0 0, .slice none 0 0]), 3, 56) := by kernel_rfl
theorem madeCells_at (z : Array Value) (n i : Nat) (h : i < n) : (madeCells z n)[i]? = some z[i % z.size]! := by
  unfold madeCells
  rw [Array.getElem?_map, Array.getElem?_range, if_pos h]; rfl
theorem run_make_rats (w : World) (n : Nat) (hn : n ≤ 1000000) : ∃ w', (Instr.makeSlice 32 (.int .i64 n) (.int .i64 n)).run Tryz.prog w = .ok (.slice (some ⟨w.heap.size, 0, none⟩) n n) w' ∧ RArr w' w.heap.size n (fun _ => 0) ∧ Ext (fun _ => False) w w' := by
  obtain ⟨i0, hi, hz0, hz1, hz2⟩ := info_parts Tryz.infoRat
  have h := run_make (P := Tryz.prog) w 32 31 i0 _ Tryz.underlying32 hi hz0 .i64 .i64 n n (by omega) (Int.le_refl _) (by rw [hz2]; omega) (by omega)
  rw [Int.toNat_natCast, hz1, show (Value.agg #[.bool false, .slice none 0 0, .slice none 0 0]).cells = #[.bool false, .slice none 0 0, .slice none 0 0] from rfl] at h
  refine ⟨_, h, ⟨⟨_, blk_alloc_at _ _, by rw [size_madeCells]⟩, fun i hi => ?_⟩, (Ext.refl _ w).alloc _⟩
  have hc := fun k => cell_of_cells (blk_alloc_at w (.cells (madeCells #[.bool false, .slice none 0 0, .slice none 0 0] (n * 3)) 31)) k
  refine ⟨false, none, 0, 0, none, 0, 0, ?_, ?_, ?_, IsRat.zero _⟩
  · rw [hc, madeCells_at _ _ _ (by omega), show i * 3 % (#[Value.bool false, .slice none 0 0, .slice none 0 0] : Array Value).size = 0 from (by show i * 3 % 3 = 0; omega)]; rfl
  · rw [hc, madeCells_at _ _ _ (by omega), show (i * 3 + 1) % (#[Value.bool false, .slice none 0 0, .slice none 0 0] : Array Value).size = 1 from (by show (i * 3 + 1) % 3 = 1; omega)]; rfl
  · rw [hc, madeCells_at _ _ _ (by omega), show (i * 3 + 2) % (#[Value.bool false, .slice none 0 0, .slice none 0 0] : Array Value).size = 2 from (by show (i * 3 + 2) % 3 = 2; omega)]; rfl
/-- a new row of fractions is returned -/
def RowPost (w : World) (n : Nat) (f : Nat → Rat) (r : Ending) (w' : World) : Prop := ∃ b, r = .returned (.slice (some ⟨b, 0, none⟩) n n) ∧ w.heap.size ≤ b ∧ RArr w' b n f ∧ Ext (fun _ => False) w w'
set_option maxRecDepth 100000 in
set_option maxHeartbeats 4000000 in
theorem each_any (w : World) (n : Nat) (F : Nat) (caps : Array Value) (f : Nat → Rat) (hn : n ≤ 1000000)
    (eg : ∀ args W, (callFunc F args).run Tryz.prog W = .ok (.enter F args) W)
    (H : ∀ W, Ext (fun _ => False) w W → ∀ i : Nat, i < n → Calls Tryz.prog F (#[.int .i64 i] ++ caps) W (RatPost W (f i))) :
    Calls Tryz.prog 63 #[.int .i64 n, .func (.func F) #[] caps] w (RowPost w n f) := by
  obtain ⟨w1, hmk, hA, hx1⟩ := run_make_rats w n hn
  obtain ⟨B, hB⟩ : ∃ B, w.heap.size = B := ⟨_, rfl⟩
  have hBw : w.heap.size ≤ B := Nat.le_of_eq hB
  rw [hB] at hmk hA
  have HA := Lib.hid (And.intro hA hx1)
  have HH := Lib.hid H
  clear hA hx1 H
  go_enter Tryz.func63, Tryz.ntmps63
  go_wp2_with fail
  go_loopg [11, 6] n (fun gg v11 v6 wr => ∃ i : Nat, i ≤ n ∧ gg = n - i ∧ v11 = .int .i64 i ∧ RArr wr B n (fun k => if k < i then f k else 0) ∧ Ext (fun _ => False) w wr)
  case atStart => exact ⟨0, Nat.zero_le _, rfl, rfl, HA.out.1.congr (fun i _ => (by simp)), HA.out.2⟩
  case round =>
    obtain ⟨i, hi, rfl, rfl, harr, hx⟩ := hrel
    by_cases hin : i < n
    · have i0 : (i : Int) < (n : Int) := by omega
      have HC := Lib.hid (HH.out wr hx i hin)
      have HX := Lib.hid (And.intro harr hx)
      clear harr hx
      go_wp2_with fail
      refine HC.out.mono ?_
      rintro r3 w3 ⟨v3, rfl, h3, hx3⟩
      obtain ⟨ng, sa, sn, sc, ta, tn, tc, rfl⟩ := h3.shape
      have harr3 := HX.out.1.keep hx3
      obtain ⟨n0, b1, l1, d1, b2, l2, d2, e0, e1, e2, -⟩ := harr3.cells i hin
      have f0 := harr3.free (i * 3)
      have f1 := harr3.free (i * 3 + 1)
      have f2 := harr3.free (i * 3 + 2)
      obtain ⟨p1, p2, p3⟩ := harr3.put hin h3
      have j0 : (0 : Int) ≤ (i : Int) := by omega
      have HP := Lib.hid (And.intro p1 ((HX.out.2.trans hx3).own p2 (fun k e => by omega)))
      clear p1 p2 p3 harr3 h3 hx3 HC HX HA
      go_wp2
      generalize ((w3.setCell ⟨B, i * 3, none⟩ (.bool ng)).setCell ⟨B, i * 3 + 1, none⟩ (.slice sa sn sc)).setCell ⟨B, i * 3 + 2, none⟩ (.slice ta tn tc) = w9 at *
      go_roundg (n - (i + 1))
      case measure => omega
      case rel => exact ⟨i + 1, by omega, rfl, by go_num, HP.out.1.congr (fun k _ => (by
        by_cases h1 : k = i
        · subst h1; simp
        · rw [if_neg h1]
          by_cases h2 : k < i
          · rw [if_pos h2, if_pos (by omega)]
          · rw [if_neg h2, if_neg (by omega)])), HP.out.2⟩
    · obtain rfl : i = n := by omega
      have HX := Lib.hid (And.intro harr hx)
      clear harr hx
      go_wp2
      go_ret
      exact ⟨B, rfl, hBw, HX.out.1.congr (fun k hk => by rw [if_pos hk]), HX.out.2⟩
end Go.Proofs.YtbgienfcmdgaaaaGreat
/-
  A drawn region walked by hand, whose last operation may write what the region reads: the held condition is asked only while an operation is left. Conditions: none beyond each lemma's own.
-/
namespace Go.Proofs.YtbgienfcmdgaaaaGreat
open Go.RowKit Go.MapKept

section
variable {P : Program} {md : Region.Mode} {ops : Array Oper} {Q : Exit → Act → World → Prop} {S : World → Prop} {k : Nat}
/-- every order of what is left ends well; S holds behind each operation but number k -/
def Ends (P : Program) (md : Region.Mode) (ops : Array Oper) (Q : Exit → Act → World → Prop) (S : World → Prop) (k : Nat) : Nat → Array Bool → Act → World → Prop
  | 0, ls, a, w => Region.ready md ops ls = [] ∧ Q .normal a w
  | n + 1, ls, a, w => (Region.ready md ops ls = [] → Q .normal a w) ∧ ∀ i ∈ Region.ready md ops ls, wpOp P ops Q i (fun a' w' => (i ≠ k → S w') ∧ Ends P md ops Q S k n (ls.setIfInBounds i true) a' w') a w
theorem Ends.any : ∀ (n : Nat) (ls : Array Bool) (a : Act) (w : World), Ends P md ops Q S k n ls a w → wpAny P md ops Q n ls a w
  | 0, _, _, _, h => h
  | n + 1, _, _, _, h => ⟨h.1, fun i hi => wpOp_mono (fun a w h => Ends.any n _ a w h.2) (h.2 i hi)⟩
theorem unlisted {i j : Nat} {oj : Oper} {ls : Array Bool} (hr : i ∈ Region.ready md ops ls) (hoj : ops[j]? = some oj) (hj : j ∈ Region.ready md ops ls) (e : Edge) (he : e ∈ oj.after) (hb : Region.binds md e = true) : e.on ≠ i := fun h => by
  obtain ⟨_, o, ho, hall⟩ := mem_ready.1 hj
  rw [hoj] at ho; cases ho
  have h1 := hall e he hb
  have h0 := (mem_ready.1 hr).1
  rw [h, Array.getD_eq_getD_getElem?] at h1
  rw [Array.getD_eq_getD_getElem?] at h0
  cases hq : ls[i]? with
  | none => rw [hq] at h1; simp at h1
  | some x => rw [hq] at h0 h1; simp at h0 h1; rw [h0] at h1; cases h1
/-- nobody who is left minds whether i has been done -/
def Apart (md : Region.Mode) (ops : Array Oper) (i : Nat) (oi : Oper) (ls : Array Bool) : Prop := ∀ j oj, ops[j]? = some oj → j ≠ i → ls.getD j true = false → (∀ e ∈ oj.after, Region.binds md e = true → e.on ≠ i) → oi.apart ops oj = true
theorem Apart.next {i j : Nat} {oi : Oper} {ls : Array Bool} (h : Apart md ops i oi ls) (hj : ls.getD j true = false) : Apart md ops i oi (ls.setIfInBounds j true) := fun k ok hk hki hun hno => by
  refine h k ok hk hki ?_ hno
  by_cases e : j = k
  · rw [← e]; exact hj
  · rw [getD_set_ne true e] at hun; exact hun
theorem Ends.take {i : Nat} {oi : Oper} {v : Value} (hi : ops[i]? = some oi) (hsel : ∀ (j : Nat) (o : Oper) cs b, ops[j]? = some o → o.op ≠ .select cs b) (hQ : ∀ c a w, Q (.panic c) (a.put oi.dst v) w → Q (.panic c) a w) :
    ∀ (n : Nat) (ls : Array Bool) (a : Act) (w : World), Apart md ops i oi ls → i ∈ Region.ready md ops ls → (∃ ok, ops[k]? = some ok ∧ ∃ e ∈ ok.after, Region.binds md e = true ∧ e.on = i) → YieldsIf P ops S oi v a → S w → Ends P md ops Q S k n (ls.setIfInBounds i true) (a.put oi.dst v) w → Ends P md ops Q S k (n + 1) ls a w := by
  have first : ∀ (n : Nat) (ls : Array Bool) (a : Act) (w : World), i ∈ Region.ready md ops ls → YieldsIf P ops S oi v a → S w → Ends P md ops Q S k n (ls.setIfInBounds i true) (a.put oi.dst v) w → wpOp P ops Q i (fun a' w' => (i ≠ k → S w') ∧ Ends P md ops Q S k n (ls.setIfInBounds i true) a' w') a w :=
    fun n ls a w _ hy hS H => hy.wpOp hi hS ⟨fun _ => hS, H⟩
  intro n
  induction n with
  | zero =>
    intro ls a w _ hr _ hy hS H
    refine ⟨fun h => (by rw [h] at hr; cases hr), fun j hj => ?_⟩
    rcases Decidable.em (j = i) with e | e
    · rw [e]; exact first 0 ls a w hr hy hS H
    · have := ready_mono hj e
      rw [H.1] at this; cases this
  | succ n ih =>
    intro ls a w hap hr hk hy hS H
    refine ⟨fun h => (by rw [h] at hr; cases hr), fun j hj => ?_⟩
    rcases Decidable.em (j = i) with e | e
    · rw [e]; exact first (n + 1) ls a w hr hy hS H
    · obtain ⟨hju, oj, hoj, _⟩ := mem_ready.1 hj
      have h2 := wpOp_putIf hoj (hap j oj hoj e hju (unlisted hr hoj hj)) (fun cs b => hsel i oi cs b hi) (fun cs b => hsel j oj cs b hoj) hQ hy (H.2 j (ready_mono hj e))
      refine wpOp_mono (fun a' w' h3 => ?_) h2
      have hr' : i ∈ Region.ready md ops (ls.setIfInBounds j true) := ready_mono hr (Ne.symm e)
      have hjk : j ≠ k := fun ejk => by
        obtain ⟨ok, ho, e', he, hb, hon⟩ := hk
        rw [← ejk, hoj] at ho; cases ho
        exact unlisted hr hoj hj e' he hb hon
      have hS' : S w' := h3.2.1 hjk
      exact ⟨fun _ => hS', ih _ a' w' (hap.next hju) hr' hk h3.1 hS' (by rw [Array.setIfInBounds_comm _ _ e]; exact h3.2.2)⟩
end
section
variable {P : Program} {md : Region.Mode} {l : List Oper} {Q : Exit → Act → World → Prop} {S : World → Prop} {k : Nat}
def waits (md : Region.Mode) (l : List Oper) (k i : Nat) : Bool := match l[k]? with | some o => o.after.any fun e => Region.binds md e && e.on == i | none => false
theorem waits_spec {i : Nat} (h : waits md l k i = true) : ∃ ok, l.toArray[k]? = some ok ∧ ∃ e ∈ ok.after, Region.binds md e = true ∧ e.on = i := by
  unfold waits at h
  split at h
  · rename_i o ho
    obtain ⟨e, he, hb⟩ := Array.any_eq_true'.1 h
    simp only [Bool.and_eq_true, beq_iff_eq] at hb
    exact ⟨o, by simpa using ho, e, he, hb⟩
  · cases h
theorem ends_take (i : Nat) {oi : Oper} {v : Value} {fuel : Nat} {listed : Array Bool} {a : Act} {w : World} (hi : l[i]? = some oi) (hs : Region.noSelect l.toArray = true) (hf : Region.free md l.toArray listed i = true)
    (hr : (Region.ready md l.toArray listed).contains i = true) (hk : waits md l k i = true) (hQ : ∀ c a w, Q (.panic c) (a.put oi.dst v) w → Q (.panic c) a w) (hw : Region.wanted oi (yielded l.toArray a.tmps) = true)
    (he : ∀ w, S w → (execOp a.eval oi).run P w = .ok (.value v) w) (hS : S w) (h : Ends P md l.toArray Q S k fuel (listed.setIfInBounds i true) (a.put oi.dst v) w) : Ends P md l.toArray Q S k (fuel + 1) listed a w :=
  have hi' : l.toArray[i]? = some oi := by simpa using hi
  Ends.take hi' (Region.noSelect_spec hs) hQ fuel listed a w (Region.free_spec hi' hf) (by simpa using hr) (waits_spec hk) (.inl ⟨hw, he⟩) hS h
theorem ends_skip (i : Nat) {oi : Oper} {fuel : Nat} {listed : Array Bool} {a : Act} {w : World} (hi : l[i]? = some oi) (hs : Region.noSelect l.toArray = true) (hf : Region.free md l.toArray listed i = true)
    (hr : (Region.ready md l.toArray listed).contains i = true) (hk : waits md l k i = true) (hQ : ∀ c a w, Q (.panic c) (a.put oi.dst undef) w → Q (.panic c) a w) (hw : Region.wanted oi (yielded l.toArray a.tmps) = false)
    (hS : S w) (h : Ends P md l.toArray Q S k fuel (listed.setIfInBounds i true) (a.put oi.dst undef) w) : Ends P md l.toArray Q S k (fuel + 1) listed a w :=
  have hi' : l.toArray[i]? = some oi := by simpa using hi
  Ends.take hi' (Region.noSelect_spec hs) hQ fuel listed a w (Region.free_spec hi' hf) (by simpa using hr) (waits_spec hk) (.inr ⟨hw, rfl⟩) hS h
theorem ends_op (i : Nat) {oi : Oper} {fuel : Nat} {listed : Array Bool} {a : Act} {w : World} (hi : l[i]? = some oi) (hr : Region.ready md l.toArray listed = [i])
    (h : ∀ K' : Act → World → Prop, Shut (∀ a w, (i ≠ k → S w) → ((i ≠ k → S w) → Ends P md l.toArray Q S k fuel (listed.setIfInBounds i true) a w) → K' a w) → if Region.wanted oi (yielded l.toArray a.tmps) = true then Oper.wp P oi a w K' Q else K' (a.put oi.dst undef) w) :
    Ends P md l.toArray Q S k (fuel + 1) listed a w := by
  refine ⟨fun h0 => (by rw [hr] at h0; cases h0), fun j hj => ?_⟩
  rw [hr] at hj
  obtain rfl := List.mem_singleton.1 hj
  exact wpOp_step (by simpa using hi) (fun K' hK => h K' (fun a w hS hW => hK a w ⟨hS, hW hS⟩))
theorem ends_step (i : Nat) {oi : Oper} {fuel : Nat} {listed : Array Bool} {a : Act} {w : World} (hi : l[i]? = some oi) (hr : Region.ready md l.toArray listed = [i])
    (h : ∀ K' : Act → World → Prop, Shut (∀ a w, S w → (S w → Ends P md l.toArray Q S k fuel (listed.setIfInBounds i true) a w) → K' a w) → if Region.wanted oi (yielded l.toArray a.tmps) = true then Oper.wp P oi a w K' Q else K' (a.put oi.dst undef) w) :
    Ends P md l.toArray Q S k (fuel + 1) listed a w :=
  ends_op i hi hr (fun K' hK => h K' (fun a w hS hW => hK.out a w (fun _ => hS) (fun _ => hW hS)))
/-- number k, behind which nothing is held -/
theorem ends_last {oi : Oper} {fuel : Nat} {listed : Array Bool} {a : Act} {w : World} (hi : l[k]? = some oi) (hr : Region.ready md l.toArray listed = [k])
    (h : ∀ K' : Act → World → Prop, Shut (∀ a w, Ends P md l.toArray Q S k fuel (listed.setIfInBounds k true) a w → K' a w) → if Region.wanted oi (yielded l.toArray a.tmps) = true then Oper.wp P oi a w K' Q else K' (a.put oi.dst undef) w) :
    Ends P md l.toArray Q S k (fuel + 1) listed a w :=
  ends_op k hi hr (fun K' hK => h K' (fun a w hW => hK.out a w (fun e => absurd rfl e) (fun _ => hW)))
theorem ends_done {listed : Array Bool} {a : Act} {w : World} (hr : Region.ready md l.toArray listed = []) (h : Q .normal a w) : ∀ fuel, Ends P md l.toArray Q S k fuel listed a w
  | 0 => ⟨hr, h⟩
  | _ + 1 => ⟨fun _ => h, by rw [hr]; simp⟩
theorem ends_begin {id : Nat} {a : Act} {w : World} (k : Nat) (S : World → Prop) (hm : P.follows .mixedOrders = true) (hS : S w.drew)
    (h : S w.drew → Ends P .any l.toArray Q S k l.toArray.size (Array.replicate l.toArray.size false) a w.drew) : (Code.region id l.toArray true).wp P Q a w :=
  wp_region_any hm (Ends.any _ _ _ _ (h hS))
end
end Go.Proofs.YtbgienfcmdgaaaaGreat
