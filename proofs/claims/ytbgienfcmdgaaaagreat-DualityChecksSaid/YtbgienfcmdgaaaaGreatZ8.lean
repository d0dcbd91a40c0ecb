/-
  Package linear: Combine; the closures of package duality. Conditions: the arguments read as programs, lists of fractions.
-/
import Derived.Test.YtbgienfcmdgaaaaGreatZ7
import Derived.Shelf.SlicesQ.IndexFunc
import Derived.Shelf.SlGeneric
import Derived.Ground.SlgfProg
import Derived.Shelf.Small.Bits
import Derived.Shelf.GgClosure.StringsIndexFunc
import Derived.Ground.GgwProg
import Derived.Shelf.GgClosure.StringsIndexFuncTop
import Derived.Shelf.Strings.FuncGrows
import Derived.Shelf.Slices.Turned
import Derived.Ground.Names2Prog
import Derived.Shelf.Slices.Clone
import Derived.Shelf.SlicesE.IndexFunc
import Derived.Test.YtbgienfcmdgaaaaGreatProg
import Derived.Laws.RangeAny
set_option linter.unusedVariables false
namespace Go.Proofs.YtbgienfcmdgaaaaGreat
open Go.RowKit Go.MapKept
open Go.ChangeMaps (setBlock)

/-- 9 cells -/
abbrev S9 (b0 b1 b2 b3 b4 b5 b6 b7 b8 o0 o1 o2 o3 o4 o5 o6 o7 o8 : Nat) (x0 x1 x2 x3 x4 x5 x6 x7 x8 : Value) (W : World) : Prop := W.cell? ⟨b0, o0, none⟩ = some x0 ∧ W.cell? ⟨b1, o1, none⟩ = some x1 ∧ W.cell? ⟨b2, o2, none⟩ = some x2 ∧ W.cell? ⟨b3, o3, none⟩ = some x3 ∧ W.cell? ⟨b4, o4, none⟩ = some x4 ∧ W.cell? ⟨b5, o5, none⟩ = some x5 ∧ W.cell? ⟨b6, o6, none⟩ = some x6 ∧ W.cell? ⟨b7, o7, none⟩ = some x7 ∧ W.cell? ⟨b8, o8, none⟩ = some x8
section
variable {b0 b1 b2 b3 b4 b5 b6 b7 b8 o0 o1 o2 o3 o4 o5 o6 o7 o8 : Nat} {x0 x1 x2 x3 x4 x5 x6 x7 x8 : Value} {W : World}
theorem S9.drew (h : S9 b0 b1 b2 b3 b4 b5 b6 b7 b8 o0 o1 o2 o3 o4 o5 o6 o7 o8 x0 x1 x2 x3 x4 x5 x6 x7 x8 W) : S9 b0 b1 b2 b3 b4 b5 b6 b7 b8 o0 o1 o2 o3 o4 o5 o6 o7 o8 x0 x1 x2 x3 x4 x5 x6 x7 x8 W.drew := h
theorem S9.keep {W' : World} (h : S9 b0 b1 b2 b3 b4 b5 b6 b7 b8 o0 o1 o2 o3 o4 o5 o6 o7 o8 x0 x1 x2 x3 x4 x5 x6 x7 x8 W) (hx : Ext (fun _ => False) W W') : S9 b0 b1 b2 b3 b4 b5 b6 b7 b8 o0 o1 o2 o3 o4 o5 o6 o7 o8 x0 x1 x2 x3 x4 x5 x6 x7 x8 W' := ⟨cell_keep h.1 hx, cell_keep h.2.1 hx, cell_keep h.2.2.1 hx, cell_keep h.2.2.2.1 hx, cell_keep h.2.2.2.2.1 hx, cell_keep h.2.2.2.2.2.1 hx, cell_keep h.2.2.2.2.2.2.1 hx, cell_keep h.2.2.2.2.2.2.2.1 hx, cell_keep h.2.2.2.2.2.2.2.2 hx⟩
theorem S9.alloc (h : S9 b0 b1 b2 b3 b4 b5 b6 b7 b8 o0 o1 o2 o3 o4 o5 o6 o7 o8 x0 x1 x2 x3 x4 x5 x6 x7 x8 W) (o : Obj) : S9 b0 b1 b2 b3 b4 b5 b6 b7 b8 o0 o1 o2 o3 o4 o5 o6 o7 o8 x0 x1 x2 x3 x4 x5 x6 x7 x8 (W.alloc o) := ⟨cell_new h.1 o, cell_new h.2.1 o, cell_new h.2.2.1 o, cell_new h.2.2.2.1 o, cell_new h.2.2.2.2.1 o, cell_new h.2.2.2.2.2.1 o, cell_new h.2.2.2.2.2.2.1 o, cell_new h.2.2.2.2.2.2.2.1 o, cell_new h.2.2.2.2.2.2.2.2 o⟩
theorem S9.set (h : S9 b0 b1 b2 b3 b4 b5 b6 b7 b8 o0 o1 o2 o3 o4 o5 o6 o7 o8 x0 x1 x2 x3 x4 x5 x6 x7 x8 W) (p : Addr) (u : Value) (k0 : ¬ b0 = p.block) (k1 : ¬ b1 = p.block) (k2 : ¬ b2 = p.block) (k3 : ¬ b3 = p.block) (k4 : ¬ b4 = p.block) (k5 : ¬ b5 = p.block) (k6 : ¬ b6 = p.block) (k7 : ¬ b7 = p.block) (k8 : ¬ b8 = p.block) : S9 b0 b1 b2 b3 b4 b5 b6 b7 b8 o0 o1 o2 o3 o4 o5 o6 o7 o8 x0 x1 x2 x3 x4 x5 x6 x7 x8 (W.setCell p u) := ⟨cell_other h.1 k0, cell_other h.2.1 k1, cell_other h.2.2.1 k2, cell_other h.2.2.2.1 k3, cell_other h.2.2.2.2.1 k4, cell_other h.2.2.2.2.2.1 k5, cell_other h.2.2.2.2.2.2.1 k6, cell_other h.2.2.2.2.2.2.2.1 k7, cell_other h.2.2.2.2.2.2.2.2 k8⟩
end

theorem sumTo_sz {g : Nat → Rat} {M : Nat} : ∀ {n : Nat}, (∀ i, i < n → Sz (g i) M) → Sz (sumTo n g) (1 + n * (M + 1))
  | 0, _ => Sz.zero.mono (by omega)
  | n + 1, h => by
    have e : 1 + n * (M + 1) + M + 1 = 1 + (n + 1) * (M + 1) := by rw [Nat.succ_mul]; omega
    exact ((sumTo_sz (n := n) (fun i hi => h i (by omega))).add (h n (by omega))).mono (Nat.le_of_eq e)
/-- what term k of a row adds to column j -/
def termA (r : RowV) (q : Rat) (j k : Nat) : Rat := if (r.t k).var = (j : Int) then ((r.t k).coef : Rat) * q else 0
def rowA (p : ProgV) (y : List Rat) (j i : Nat) : Rat := sumTo (p.r i).terms.length (termA (p.r i) (atQ y i) j)
theorem combA_eq (p : ProgV) (y : List Rat) (j : Nat) : combA p y j = sumTo p.rows.length (rowA p y j) := rfl
theorem termA_sz {r : RowV} {q : Rat} {L : Nat} (hq : Sz q L) {k : Nat} (hk : TermOk (r.t k)) (j : Nat) : Sz (termA r q j k) (L + 2) := by
  unfold termA
  split
  · exact ((Sz.int hk.coef).mul hq).mono (by omega)
  · exact Sz.zero.mono (by omega)
theorem termA_zero {r : RowV} {j k : Nat} : termA r 0 j k = 0 := by
  unfold termA
  split
  · exact Rat.mul_zero _
  · rfl
theorem rowA_zero {p : ProgV} {y : List Rat} {i : Nat} (h : atQ y i = 0) (j : Nat) : rowA p y j i = 0 := by
  unfold rowA
  rw [h]
  exact sumTo_zero' (fun k _ => termA_zero)
set_option maxRecDepth 100000 in
set_option maxHeartbeats 4000000 in
theorem inf1_any (w : World) (ab B n : Nat) (f : Nat → Rat) (L : Nat) (hb : blk w ab = some (.cells #[.slice (some ⟨B, 0, none⟩) n n] 32 (0, 0))) (hn : n ≤ 1000000) (ha : RArr w B n f) (h1 : 1 ≤ L) (hL : L ≤ 4194304) (hs : ∀ i, i < n → Sz (f i) L) (i : Nat) (hi : i < n) :
    Calls Tryz.prog 68 #[.int .i64 i, .pointer (some ⟨ab, 0, none⟩)] w (RatPost w (-f i)) := by
  obtain ⟨n0, b1, l1, d1, b2, l2, d2, e0, e1, e2, hq⟩ := ha.cells i hi
  have hx := (Ext.refl (fun _ => False) w).alloc (.cells #[.bool false, .slice none 0 0, .slice none 0 0] 31)
  have hr := boxR_new (W := w) rfl false none 0 0 none 0 0
  have HN := Lib.hid (rneg_any _ _ (f i) L ((hq.keep hx).reads (hs i hi)) h1 hL)
  have z0 := cell_keep (cellq hb 0 rfl) hx
  have c0 := cell_keep e0 hx
  have c1 := cell_keep e1 hx
  have c2 := cell_keep e2 hx
  have HB := Lib.hid (And.intro hr hx)
  have j0 : (0 : Int) ≤ (i : Int) := by omega
  have j1 : (i : Int) < (n : Int) := by omega
  clear e0 e1 e2 hq hr hx hb ha hs
  go_enter Tryz.func68, Tryz.ntmps68
  go_upto_region 1 with fail
  obtain ⟨r, hr⟩ : ∃ r, w.heap.size = r := ⟨_, rfl⟩
  have hrw : w.heap.size ≤ r := Nat.le_of_eq hr
  rw [hr] at HB ⊢
  generalize w.alloc (.cells #[.bool false, .slice none 0 0, .slice none 0 0] 31) = w1 at *
  go_wp2_with fail
  refine HN.out.mono ?_
  rintro r2 w2 ⟨v2, rfl, h2, hx2⟩
  obtain ⟨ng, sa, sn, sc, ta, tn, tc, rfl⟩ := h2.shape
  have hr3 := HB.out.1.keep hx2
  obtain ⟨d0, d1', d2', d3, d4, d5⟩ := hr3.facts
  have HP := Lib.hid (rat_put (w := w) hr3 hrw (HB.out.2.trans hx2) h2)
  clear h2 hr3 hx2 z0 c0 c1 c2 HN
  go_wp2
  generalize ((w2.setCell ⟨r, 0, none⟩ (.bool ng)).setCell ⟨r, 1, none⟩ (.slice sa sn sc)).setCell ⟨r, 2, none⟩ (.slice ta tn tc) = w9 at *
  obtain ⟨g0, g1, g2, _⟩ := HP.out.1.facts
  exact bodyPost_ret (v := .agg #[.bool ng, .slice sa sn sc, .slice ta tn tc]) (by simp [results, Tryz.results68, go_sem, g0, g1, g2]) rfl HP.out.2
set_option maxRecDepth 100000 in
set_option maxHeartbeats 4000000 in
theorem bound1_any (w : World) (pb ab B n : Nat) (vv rv : Value) (p : ProgV) (f : Nat → Rat) (L : Nat) (hp : blk w pb = some (.cells #[vv, rv] 25 (0, 0))) (hv : Vrs w vv p.vars) (hb : blk w ab = some (.cells #[.slice (some ⟨B, 0, none⟩) n n] 32 (0, 0))) (hn : n ≤ 1000000) (hnv : n = p.vars.length) (ha : RArr w B n f) (h1 : 2 ≤ L) (hL : L ≤ 4194304) (hs : ∀ i, i < n → Sz (f i) L) (i : Nat) (hi : i < n) :
    Calls Tryz.prog 64 #[.int .i64 i, .pointer (some ⟨pb, 0, none⟩), .pointer (some ⟨ab, 0, none⟩)] w (RatPost w (((p.v i).co : Rat) - f i)) := by
  obtain ⟨n0, b1, l1, d1, b2, l2, d2, e0, e1, e2, hq⟩ := ha.cells i hi
  have hBlt := ha.lt
  obtain ⟨vo, vc, rfl, -, hvn, -⟩ := hv.shape
  have hco := (hv.ok i (by omega)).co
  obtain ⟨b, off, rfl, hlt, -, -, -, -, e4, -⟩ := hv.atp i (by omega)
  have hx := (Ext.refl (fun _ => False) w).alloc (.cells #[.bool false, .slice none 0 0, .slice none 0 0] 31)
  have hr := boxR_new (W := w) rfl false none 0 0 none 0 0
  rw [← hnv] at hp hvn
  have hS : S6 pb ab b B B B 0 0 (off + i * 5 + 4) (i * 3) (i * 3 + 1) (i * 3 + 2) (.slice (some ⟨b, off, none⟩) n vc) (.slice (some ⟨B, 0, none⟩) n n) (.int .i64 (p.v i).co) (.bool n0) (.slice b1 l1 d1) (.slice b2 l2 d2) (w.alloc (.cells #[.bool false, .slice none 0 0, .slice none 0 0] 31)) := S6.keep ⟨cellq hp 0 rfl, cellq hb 0 rfl, e4, e0, e1, e2⟩ hx
  have HF := Lib.hid (fun W => rfrom_any W (p.v i).co hco.1 hco.2)
  have HSub := Lib.hid (fun W u (hW : Ext (fun _ => False) (w.alloc (.cells #[.bool false, .slice none 0 0, .slice none 0 0] 31)) W) (hu : IsRat W u ((p.v i).co : Rat)) => rsub_any W u _ _ (f i) L (hu.reads ((Sz.int hco).mono h1)) ((hq.keep (hx.trans hW)).reads (hs i hi)) (by omega) hL)
  have HB := Lib.hid (And.intro hr hx)
  have n0' := blk_lt hp
  have n1' := blk_lt hb
  have j0 : (0 : Int) ≤ (i : Int) := by omega
  have j1 : (i : Int) < (n : Int) := by omega
  clear e0 e1 e2 e4 hq hr hx hb ha hs hv hp hnv hco
  go_enter Tryz.func64, Tryz.ntmps64
  go_upto_region 1 with fail
  obtain ⟨r, hr⟩ : ∃ r, w.heap.size = r := ⟨_, rfl⟩
  have hrw : w.heap.size ≤ r := Nat.le_of_eq hr
  rw [hr] at HB n0' n1' hlt hBlt ⊢
  generalize w.alloc (.cells #[.bool false, .slice none 0 0, .slice none 0 0] 31) = w1 at *
  generalize ((p.v i).co : Rat) - f i = q at *
  generalize ((p.v i).co : Rat) = cq at *
  generalize (p.v i).co = co at *
  go_region_held3 (S6 pb ab b B B B 0 0 (off + i * 5 + 4) (i * 3) (i * 3 + 1) (i * 3 + 2) (.slice (some ⟨b, off, none⟩) n vc) (.slice (some ⟨B, 0, none⟩) n n) (.int .i64 co) (.bool n0) (.slice b1 l1 d1) (.slice b2 l2 d2))
    (repeat (first | (with_reducible assumption) | (with_reducible refine S6.drew ?_) | (with_reducible refine S6.set ?_ _ _ ?_ ?_ ?_ ?_ ?_ ?_) | (dsimp only; omega)))
    (first
      | (go_at_call 66; (with_reducible refine (HF.out _).mono ?_); rintro q1 w11 ⟨v11, rfl, h11, hx11⟩; have hX1 := (Ext.refl (fun _ => False) w1).drew.trans hx11; have hK1 := hS.keep hX1; have hC1 := HSub.out w11 _ hX1 h11; obtain ⟨n11, a11, l11, c11, a12, l12, c12, rfl⟩ := h11.shape)
      | (go_at_call 65; (with_reducible refine hC1.mono ?_); rintro q2 w12 ⟨v12, rfl, h12, hx12⟩; have hX2 := hX1.trans hx12; have hK2 := hS.keep hX2; have hr3 := HB.out.1.keep hX2; obtain ⟨d0, d1', d2', d3, d4, d5⟩ := hr3.facts; obtain ⟨ng, sa, sn, sc, ta, tn, tc, rfl⟩ := h12.shape))
  have HP := Lib.hid (rat_put (w := w) hr3 hrw (HB.out.2.trans hX2) h12)
  clear hX1 hX2 hK1 hK2 h11 h12 hx11 hx12 hC1 hS hr3 d0 d1' d2' d3 d4 d5 HSub HF
  go_wp2
  generalize ((w12.setCell ⟨r, 0, none⟩ (.bool ng)).setCell ⟨r, 1, none⟩ (.slice sa sn sc)).setCell ⟨r, 2, none⟩ (.slice ta tn tc) = w9 at *
  obtain ⟨g0, g1, g2, _⟩ := HP.out.1.facts
  exact bodyPost_ret (v := .agg #[.bool ng, .slice sa sn sc, .slice ta tn tc]) (by simp [results, Tryz.results64, go_sem, g0, g1, g2]) rfl HP.out.2
theorem RArr.past {w w' : World} {b n : Nat} {f : Nat → Rat} {S : Nat → Prop} (h : RArr w b n f) (hx : Ext S w w') (hb : ¬ S b) (hr : ∀ v l, Rds w v l → Rds w' v l) : RArr w' b n f := by
  obtain ⟨arr, h1, h2⟩ := h.row
  refine ⟨⟨arr, (hx.blk (blk_lt h1) hb).trans h1, h2⟩, fun i hi => ?_⟩
  obtain ⟨neg, a1, m1, c1, a2, m2, c2, e0, e1, e2, mag, dv', g1, g2, g3⟩ := h.cells i hi
  exact ⟨neg, a1, m1, c1, a2, m2, c2, (hx.cell (p := ⟨b, i * 3, none⟩) h.lt hb).trans e0, (hx.cell (p := ⟨b, i * 3 + 1, none⟩) h.lt hb).trans e1, (hx.cell (p := ⟨b, i * 3 + 2, none⟩) h.lt hb).trans e2, mag, dv', g1, hr _ _ g2, hr _ _ g3⟩
/-- a new row of fractions and a fraction are returned -/
def CombPost (w : World) (n : Nat) (f : Nat → Rat) (q : Rat) (r : Ending) (w' : World) : Prop := ∃ B v, r = .returned (.tuple #[.slice (some ⟨B, 0, none⟩) n n, v]) ∧ w.heap.size ≤ B ∧ RArr w' B n f ∧ IsRat w' v q ∧ Ext (fun _ => False) w w'
set_option maxRecDepth 100000 in
set_option maxHeartbeats 8000000 in
theorem Combine_any (w : World) (pv yv : Value) (p : ProgV) (y : List Rat) (L T : Nat) (hp : IsPrg w pv p) (hy : Rats w yv y L) (h1 : 1 ≤ L) (hT : ∀ i, i < p.rows.length → (p.r i).terms.length ≤ T)
    (hL : 1 + p.rows.length * (T * (L + 3) + 2) + (1 + T * (L + 3)) + (L + 3) ≤ 4000000) (hL2 : 1 + p.rows.length * (L + 3) + (L + 3) ≤ 4000000) (hvn : p.vars.length ≤ 1000000) :
    Calls Tryz.prog 61 #[pv, yv] w (CombPost w p.vars.length (combA p y) (combB p y)) := by
  obtain ⟨vv, rv, rfl, hv, hr⟩ := hp
  obtain ⟨vo, vc, rfl, -, -, -⟩ := hv.shape
  obtain ⟨ro, rc, rfl, -, hn, -⟩ := hr.shape
  obtain ⟨yo, yc, rfl, -, hyn, -⟩ := hy.shape
  obtain ⟨b0, b1, b2, hx⟩ := box3 w (.cells #[.slice vo p.vars.length vc, .slice ro p.rows.length rc] 25) (.cells #[.slice yo y.length yc] 32) (.cells #[.bool false, .slice none 0 0, .slice none 0 0] 31)
  have HS := Lib.hid (fun W0 (hW0 : Ext (fun _ => False) (((w.alloc (.cells #[.slice vo p.vars.length vc, .slice ro p.rows.length rc] 25)).alloc (.cells #[.slice yo y.length yc] 32)).alloc (.cells #[.bool false, .slice none 0 0, .slice none 0 0] 31)) W0) =>
    lsum_any W0 p.rows.length 113 #[.pointer (some ⟨w.heap.size, 0, none⟩), .pointer (some ⟨w.heap.size + 1, 0, none⟩)] (fun i => (p.r i).bound) (fun i => atQ y i) L h1 hL2
      (fun i hi => (hr.ok i hi).bound) (fun i _ => hy.sz h1 i) (enters_of Tryz.func113 (by kernel_rfl) rfl)
      (fun W hW i hi => comb1_any W w.heap.size (w.heap.size + 1) _ _ _ p y L (blk_keep b0 (hW0.trans hW)) (blk_keep b1 (hW0.trans hW)) (hr.keep ((hx.trans hW0).trans hW)) (hy.keep ((hx.trans hW0).trans hW)) i hi))
  have HV := Lib.hid (And.intro hr hy)
  have HA := Lib.hid (fun W (hW : Ext (fun _ => False) w W) (i : Nat) => lat_any W _ y L (hy.keep hW) i)
  have HG := Lib.hid (fun W u q (hu : Rrat W u q L) => rsign_any W u q L hu (by omega))
  have hsz : ∀ i j k, i < p.rows.length → k < (p.r i).terms.length → Sz (sumTo i (rowA p y j) + sumTo k (termA (p.r i) (atQ y i) j)) (1 + p.rows.length * (T * (L + 3) + 2) + (1 + T * (L + 3)) + 1) := fun i j k hi hk => by
    have hok : ∀ i, i < p.rows.length → ∀ k, k < (p.r i).terms.length → TermOk ((p.r i).t k) := fun i hi k hk => by
      obtain ⟨_, _, _, _, rfl, _, _, _, _, _, _, _, ht⟩ := hr.atp i hi
      exact ht.ok k hk
    have g1 : ∀ i, i < p.rows.length → ∀ k, k ≤ (p.r i).terms.length → Sz (sumTo k (termA (p.r i) (atQ y i) j)) (1 + T * (L + 3)) := fun i hi k hk =>
      (sumTo_sz (M := L + 2) (fun k' hk' => termA_sz (hy.sz h1 i) (hok i hi k' (by omega)) j)).mono (by
        have := Nat.mul_le_mul_right (L + 3) (Nat.le_trans hk (hT i hi))
        show 1 + k * (L + 3) ≤ _
        omega)
    have g2 : Sz (sumTo i (rowA p y j)) (1 + p.rows.length * (T * (L + 3) + 2)) :=
      (sumTo_sz (M := 1 + T * (L + 3)) (fun i' hi' => g1 i' (by omega) _ (Nat.le_refl _))).mono (by
        have := Nat.mul_le_mul_right (T * (L + 3) + 2) (Nat.le_of_lt hi)
        rw [show 1 + T * (L + 3) + 1 = T * (L + 3) + 2 from by omega]
        omega)
    exact g2.add (g1 i hi k (by omega))
  have Hsz := Lib.hid hsz
  have Hq := Lib.hid (fun i => hy.sz h1 i)
  generalize hM : 1 + p.rows.length * (T * (L + 3) + 2) + (1 + T * (L + 3)) + 1 = M at *
  have hML : M + (L + 2) ≤ 4000000 := by omega
  have HB := Lib.hid (And.intro b0 (And.intro b1 (And.intro (boxR_of b2) hx)))
  obtain ⟨w2, hmk, hA, hx2⟩ := run_make_rats (((w.alloc (.cells #[.slice vo p.vars.length vc, .slice ro p.rows.length rc] 25)).alloc (.cells #[.slice yo y.length yc] 32)).alloc (.cells #[.bool false, .slice none 0 0, .slice none 0 0] 31)) p.vars.length hvn
  clear hv hr hy b0 b1 b2 hx hsz hL hL2 hM hT
  obtain ⟨m, hm'⟩ : ∃ m, p.rows.length = m := ⟨_, rfl⟩
  have HN := Lib.hid hm'
  obtain ⟨qb, hqb⟩ : ∃ qb, combB p y = qb := ⟨_, rfl⟩
  unfold combB at hqb
  rw [hqb] at HS
  unfold combB
  rw [hqb]
  clear hqb
  rw [hm'] at hn ⊢ HV HB HS Hsz hmk hA hx2
  obtain ⟨yn, hyn'⟩ : ∃ yn, y.length = yn := ⟨_, rfl⟩
  have HYN := Lib.hid hyn'
  rw [hyn'] at hyn ⊢ HV HB HS HA hmk hA hx2
  clear hyn'
  clear hm'
  generalize p.vars.length = n at *
  go_enter Tryz.func61, Tryz.ntmps61
  go_upto_region 1 with fail
  generalize (((w.alloc (.cells #[.slice vo n vc, .slice ro m rc] 25)).alloc (.cells #[.slice yo yn yc] 32)).alloc (.cells #[.bool false, .slice none 0 0, .slice none 0 0] 31)) = w1 at *
  obtain ⟨pb, hpb⟩ : ∃ pb, w.heap.size = pb := ⟨_, rfl⟩
  have hpw : w.heap.size ≤ pb := Nat.le_of_eq hpb
  rw [hpb] at HB HS ⊢
  clear hpb
  obtain ⟨B, hB⟩ : ∃ B, w1.heap.size = B := ⟨_, rfl⟩
  have hBw : w1.heap.size ≤ B := Nat.le_of_eq hB
  have hB3 : pb + 1 + 1 < B := by have := HB.out.2.2.1.lt; omega
  rw [hB] at hmk hA
  clear hB
  have HA2 := Lib.hid (And.intro hA hx2)
  clear hA
  have z0 := cellq HB.out.1 0 rfl
  have z1 := cellq HB.out.1 1 rfl
  have z1' := cell_keep z1 hx2
  clear hx2
  go_wp2_with fail
  clear hmk z0 z1 z1'
  go_loopg [18] m (fun gg v18 wr => ∃ i : Nat, i ≤ m ∧ gg = m - i ∧ v18 = .int .i64 i ∧ RArr wr B n (fun j => sumTo i (rowA p y j)) ∧ Ext (fun _ => False) w1 wr)
  case atStart => exact ⟨0, Nat.zero_le _, rfl, rfl, HA2.out.1.congr (fun _ _ => rfl), HA2.out.2⟩
  case round =>
    obtain ⟨i, hi, rfl, rfl, harr, hx⟩ := hrel
    by_cases hin : i < m
    · have i0 : (i : Int) < (m : Int) := by omega
      have hX0 := HB.out.2.2.2.trans hx
      have HX := Lib.hid (And.intro harr hx)
      clear harr hx
      obtain ⟨b, off, ta, tc, rfl, hlt, e0, e1, e2, e3, e4, -, htm⟩ := HV.out.1.atp i (by rw [HN.out]; exact hin)
      replace e0 := cell_keep e0 hX0
      replace e1 := cell_keep e1 hX0
      replace e2 := cell_keep e2 hX0
      replace e3 := cell_keep e3 hX0
      replace e4 := cell_keep e4 hX0
      have Htm := Lib.hid htm
      obtain ⟨-, -, -, -, htn, -⟩ := htm.shape
      clear htm
      have HA1 := Lib.hid (fun W (hW : Ext (fun _ => False) wr W) => HA.out W (hX0.trans hW) i)
      have HszI := Lib.hid (fun j k hk => Hsz.out i j k hin hk)
      obtain ⟨tl, htl⟩ : ∃ tl, (p.r i).terms.length = tl := ⟨_, rfl⟩
      rw [htl] at e3 Htm HszI htn
      have HTL := Lib.hid htl
      have hx3 := (Ext.refl (fun _ => False) wr).alloc (.cells #[.string (p.r i).name, .int .i64 (p.r i).group, .int .i64 (p.r i).kind, .slice ta tl tc, .int .i64 (p.r i).bound] 58)
      have hb3 := blk_alloc_at wr (.cells #[.string (p.r i).name, .int .i64 (p.r i).group, .int .i64 (p.r i).kind, .slice ta tl tc, .int .i64 (p.r i).bound] 58)
      have HB3 := Lib.hid (And.intro hb3 hx3)
      clear hb3 hx3 htl hX0
      have y0 := cell_keep (cell_keep (cellq HB.out.2.1 0 rfl) HX.out.2) HB3.out.2
      go_upto_region 5 with fail
      obtain ⟨rb, hrb⟩ : ∃ rb, wr.heap.size = rb := ⟨_, rfl⟩
      rw [hrb] at HB3 ⊢
      generalize wr.alloc (.cells #[.string (p.r i).name, .int .i64 (p.r i).group, .int .i64 (p.r i).kind, .slice ta tl tc, .int .i64 (p.r i).bound] 58) = w3 at *
      clear e0 e1 e2 e3 e4 hrb
      go_wp2_with fail
      refine (HA1.out w3 HB3.out.2).mono ?_
      rintro r4 w4 ⟨v4, rfl, h4, hx4⟩
      have HG4 := Lib.hid (HG.out w4 v4 _ h4)
      have HX4 := Lib.hid hx4
      clear h4 hx4 HA1 y0
      go_wp2_with fail
      refine HG4.out.mono ?_
      rintro r5 w5 ⟨rfl, hx5⟩
      have hx35 := HX4.out.trans hx5
      have HX5 := Lib.hid (HB3.out.2.trans hx35)
      have e3 := cell_keep (cellq HB3.out.1 3 rfl) hx35
      clear hx5 hx35 HX4 HG4
      by_cases hs : (atQ y i).num.sign = 0
      · have hs' : ((atQ y i).num.sign == 0) = true := by simpa using hs
        have hz := (sign_zero _).1 hs
        have HZ := Lib.hid hz
        clear hz
        rw [hs]
        clear hs hs'
        go_wp2
        go_roundg (m - (i + 1))
        case measure => omega
        case rel => exact ⟨i + 1, by omega, rfl, by go_num, (HX.out.1.keep HX5.out).congr (fun j _ => (by show _ = sumTo i (rowA p y j) + rowA p y j i; rw [rowA_zero HZ.out, Rat.add_zero])), HX.out.2.trans HX5.out⟩
      · have hs1 : ((atQ y i).num.sign == 0) = false := by simpa using hs
        have hin2 : i < y.length := by
          refine Nat.lt_of_not_le (fun hle => hs ?_)
          rw [atQ_out y (by omega)]; rfl
        have HI2 := Lib.hid hin2
        clear hin2
        generalize (atQ y i).num.sign = sg at *
        go_wp2_with fail
        go_loopg [31] tl (fun gg v31 wq => ∃ k : Nat, k ≤ tl ∧ gg = tl - k ∧ v31 = .int .i64 k ∧ RArr wq B n (fun j => sumTo i (rowA p y j) + sumTo k (termA (p.r i) (atQ y i) j)) ∧ Ext (fun _ => False) w1 wq)
        case atStart => exact ⟨0, Nat.zero_le _, rfl, rfl, (HX.out.1.keep HX5.out).congr (fun j _ => (by show _ = _ + (0 : Rat); rw [Rat.add_zero])), HX.out.2.trans HX5.out⟩
        case round =>
          obtain ⟨k, hk, rfl, rfl, harr, hx⟩ := hrel
          clear e3
          by_cases hkn : k < tl
          · have k0 : (k : Int) < (tl : Int) := by omega
            have HW := Lib.hid (And.intro harr hx)
            clear harr hx
            have hX0 := HB.out.2.2.2.trans HW.out.2
            obtain ⟨bt, offt, rfl, -, f0, f1, hok⟩ := (Htm.out.keep hX0).atr k (by rw [HTL.out]; exact hkn)
            have Hsz2 := Lib.hid (fun j => HszI.out j k hkn)
            have HTA := Lib.hid (show ∀ j, termA (p.r i) (atQ y i) j k = if ((p.r i).t k).var = (j : Int) then (((p.r i).t k).coef : Rat) * atQ y i else 0 from fun _ => rfl)
            have HOk := Lib.hid hok
            clear hok
            obtain ⟨tv, htv⟩ : ∃ tv, ((p.r i).t k).var = tv := ⟨_, rfl⟩
            obtain ⟨co, hco⟩ : ∃ co, ((p.r i).t k).coef = co := ⟨_, rfl⟩
            have HOk' := Lib.hid (And.intro HOk.out.var HOk.out.coef)
            rw [htv] at f0 HTA
            rw [hco] at f1 HTA
            rw [htv, hco] at HOk'
            clear HOk htv hco
            have hx6 := (Ext.refl (fun _ => False) wr).alloc (.cells #[.int .i64 tv, .int .i64 co] 76)
            have hb6 := blk_alloc_at wr (.cells #[.int .i64 tv, .int .i64 co] 76)
            have HB6 := Lib.hid (And.intro hb6 hx6)
            have hBq := HW.out.1.lt
            clear hb6 hx6 hX0
            go_upto_region 9 with fail
            obtain ⟨tb, htb⟩ : ∃ tb, wr.heap.size = tb := ⟨_, rfl⟩
            rw [htb] at HB6 hBq ⊢
            generalize wr.alloc (.cells #[.int .i64 tv, .int .i64 co] 76) = w6 at *
            clear f0 f1 htb
            obtain ⟨x0, x1⟩ : w6.cell? ⟨tb, 0, none⟩ = some (.int .i64 tv) ∧ w6.cell? ⟨tb, 1, none⟩ = some (.int .i64 co) := ⟨cellq HB6.out.1 0 rfl, cellq HB6.out.1 1 rfl⟩
            by_cases hin3 : 0 ≤ tv ∧ tv < (n : Int)
            · obtain ⟨v, rfl⟩ : ∃ v : Nat, tv = v := ⟨tv.toNat, by omega⟩
              have hvn : v < n := by omega
              have v0 : (0 : Int) ≤ (v : Int) := by omega
              have v1 : (v : Int) < (n : Int) := by omega
              clear hin3
              have hX6 := (HB.out.2.2.2.trans HW.out.2).trans HB6.out.2
              obtain ⟨yb, yoff, yn0, ya, yl, yc1, ya2, yl2, yc2, hyo, -, y0, y1, y2, hyq⟩ := HV.out.2.at i (by exact HI2.out)
              have hyq6 := hyq.keep hX6
              have harr6 := HW.out.1.keep HB6.out.2
              obtain ⟨on, oa, ol, oc, oa2, ol2, oc2, o0, o1, o2, hoq⟩ := harr6.cells v hvn
              have hyb := cell_keep (cell_keep (cellq HB.out.2.1 0 rfl) HW.out.2) HB6.out.2
              rw [hyo] at hyb
              have i1 : (i : Int) < (yn : Int) := by have := HI2.out; rw [HYN.out] at this; omega
              have i00 : (0 : Int) ≤ (i : Int) := by omega
              have hS : S9 tb tb B B B (pb + 1) yb yb yb 0 1 (v * 3) (v * 3 + 1) (v * 3 + 2) 0 (yoff + i * 3) (yoff + i * 3 + 1) (yoff + i * 3 + 2) (.int .i64 v) (.int .i64 co) (.bool on) (.slice oa ol oc) (.slice oa2 ol2 oc2) (.slice (some ⟨yb, yoff, none⟩) yn yc) (.bool yn0) (.slice ya yl yc1) (.slice ya2 yl2 yc2) w6 :=
                ⟨x0, x1, o0, o1, o2, hyb, cell_keep y0 hX6, cell_keep y1 hX6, cell_keep y2 hX6⟩
              have HF := Lib.hid (fun W => rfrom_any W co HOk'.out.2.1 HOk'.out.2.2)
              have HM := Lib.hid (fun W (hW : Ext (fun _ => False) w6 W) u (hu : IsRat W u ((co : Int) : Rat)) => rmul_any W u _ _ (atQ y i) (L + 2) (hu.reads ((Sz.int HOk'.out.2).mono (by omega))) ((hyq6.keep hW).mono (by omega)) (by omega) (by omega))
              have hpr := (Sz.int HOk'.out.2).mul (Hq.out i)
              have HAd := Lib.hid (fun W (hW : Ext (fun _ => False) w6 W) u (hu : IsRat W u ((co : Rat) * atQ y i)) => radd_any W _ u _ _ (M + (L + 2)) ((hoq.keep hW).reads ((Hsz2.out v).mono (by omega))) (hu.reads (hpr.mono (by omega))) (by omega) (by omega))
              have HArr := Lib.hid (And.intro harr6 ((HW.out.2.trans HB6.out.2)))
              have HTv := Lib.hid (show (fun j => if j = v then (sumTo i (rowA p y v) + sumTo k (termA (p.r i) (atQ y i) v)) + (co : Rat) * atQ y i else sumTo i (rowA p y j) + sumTo k (termA (p.r i) (atQ y i) j)) = fun j => sumTo i (rowA p y j) + sumTo (k + 1) (termA (p.r i) (atQ y i) j) from funext fun j => (by
                show _ = sumTo i (rowA p y j) + (sumTo k (termA (p.r i) (atQ y i) j) + termA (p.r i) (atQ y i) j k)
                rw [HTA.out]
                by_cases e : j = v
                · rw [if_pos e, e, if_pos rfl]; grind
                · rw [if_neg e, if_neg (by omega)]; grind))
              clear x0 x1 o0 o1 o2 hyb y0 y1 y2 hyq hyq6 harr6 hoq hpr hX6 hyo Hsz2 HszI Hq Hsz HTA HA HG HS
              go_upto_region 10 with fail
              have Hv := Lib.hid hvn
              clear hvn
              refine ends_begin 18 (S9 tb tb B B B (pb + 1) yb yb yb 0 1 (v * 3) (v * 3 + 1) (v * 3 + 2) 0 (yoff + i * 3) (yoff + i * 3 + 1) (yoff + i * 3 + 2) (.int .i64 v) (.int .i64 co) (.bool on) (.slice oa ol oc) (.slice oa2 ol2 oc2) (.slice (some ⟨yb, yoff, none⟩) yn yc) (.bool yn0) (.slice ya yl yc1) (.slice ya2 yl2 yc2)) (by kernel_rfl) (hS.drew) (fun hHeld => ?_)
              refine ends_take 0 (v := ?_) rfl (by kernel_rfl) (by kernel_rfl) (by kernel_rfl) (by kernel_rfl) (fun _ _ _ h => h) (by rfl) ?_ (by assumption) ?_
              rotate_left
              · ((intro w hSw; (try dsimp only at hSw); go_simp) <;> with_reducible rfl)
              (try simp only [Act.put, List.setIfInBounds_toArray, List.set_cons_zero, List.set_cons_succ])
              refine ends_take 1 (v := ?_) rfl (by kernel_rfl) (by kernel_rfl) (by kernel_rfl) (by kernel_rfl) (fun _ _ _ h => h) (by rfl) ?_ (by assumption) ?_
              rotate_left
              · ((intro w hSw; (try dsimp only at hSw); go_simp) <;> with_reducible rfl)
              (try simp only [Act.put, List.setIfInBounds_toArray, List.set_cons_zero, List.set_cons_succ])
              refine ends_take 2 (v := ?_) rfl (by kernel_rfl) (by kernel_rfl) (by kernel_rfl) (by kernel_rfl) (fun _ _ _ h => h) (by rfl) ?_ (by assumption) ?_
              rotate_left
              · ((intro w hSw; (try dsimp only at hSw); go_simp) <;> with_reducible rfl)
              (try simp only [Act.put, List.setIfInBounds_toArray, List.set_cons_zero, List.set_cons_succ])
              refine ends_take 3 (v := ?_) rfl (by kernel_rfl) (by kernel_rfl) (by kernel_rfl) (by kernel_rfl) (fun _ _ _ h => h) (by rfl) ?_ (by assumption) ?_
              rotate_left
              · ((intro w hSw; (try dsimp only at hSw); go_simp) <;> with_reducible rfl)
              (try simp only [Act.put, List.setIfInBounds_toArray, List.set_cons_zero, List.set_cons_succ])
              refine ends_take 4 (v := ?_) rfl (by kernel_rfl) (by kernel_rfl) (by kernel_rfl) (by kernel_rfl) (fun _ _ _ h => h) (by rfl) ?_ (by assumption) ?_
              rotate_left
              · ((intro w hSw; (try dsimp only at hSw); go_simp) <;> with_reducible rfl)
              (try simp only [Act.put, List.setIfInBounds_toArray, List.set_cons_zero, List.set_cons_succ])
              refine ends_take 5 (v := ?_) rfl (by kernel_rfl) (by kernel_rfl) (by kernel_rfl) (by kernel_rfl) (fun _ _ _ h => h) (by rfl) ?_ (by assumption) ?_
              rotate_left
              · ((intro w hSw; (try dsimp only at hSw); go_simp) <;> with_reducible rfl)
              (try simp only [Act.put, List.setIfInBounds_toArray, List.set_cons_zero, List.set_cons_succ])
              refine ends_take 6 (v := ?_) rfl (by kernel_rfl) (by kernel_rfl) (by kernel_rfl) (by kernel_rfl) (fun _ _ _ h => h) (by rfl) ?_ (by assumption) ?_
              rotate_left
              · ((intro w hSw; (try dsimp only at hSw); go_simp) <;> with_reducible rfl)
              (try simp only [Act.put, List.setIfInBounds_toArray, List.set_cons_zero, List.set_cons_succ])
              refine ends_take 7 (v := ?_) rfl (by kernel_rfl) (by kernel_rfl) (by kernel_rfl) (by kernel_rfl) (fun _ _ _ h => h) (by rfl) ?_ (by assumption) ?_
              rotate_left
              · ((intro w hSw; (try dsimp only at hSw); go_simp) <;> with_reducible rfl)
              (try simp only [Act.put, List.setIfInBounds_toArray, List.set_cons_zero, List.set_cons_succ])
              refine ends_take 8 (v := ?_) rfl (by kernel_rfl) (by kernel_rfl) (by kernel_rfl) (by kernel_rfl) (fun _ _ _ h => h) (by rfl) ?_ (by assumption) ?_
              rotate_left
              · ((intro w hSw; (try dsimp only at hSw); go_simp) <;> with_reducible rfl)
              (try simp only [Act.put, List.setIfInBounds_toArray, List.set_cons_zero, List.set_cons_succ])
              refine ends_take 9 (v := ?_) rfl (by kernel_rfl) (by kernel_rfl) (by kernel_rfl) (by kernel_rfl) (fun _ _ _ h => h) (by rfl) ?_ (by assumption) ?_
              rotate_left
              · ((intro w hSw; (try dsimp only at hSw); go_simp) <;> with_reducible rfl)
              (try simp only [Act.put, List.setIfInBounds_toArray, List.set_cons_zero, List.set_cons_succ])
              refine ends_take 11 (v := ?_) rfl (by kernel_rfl) (by kernel_rfl) (by kernel_rfl) (by kernel_rfl) (fun _ _ _ h => h) (by rfl) ?_ (by assumption) ?_
              rotate_left
              · ((intro w hSw; (try dsimp only at hSw); go_simp) <;> with_reducible rfl)
              (try simp only [Act.put, List.setIfInBounds_toArray, List.set_cons_zero, List.set_cons_succ])
              refine ends_take 12 (v := ?_) rfl (by kernel_rfl) (by kernel_rfl) (by kernel_rfl) (by kernel_rfl) (fun _ _ _ h => h) (by rfl) ?_ (by assumption) ?_
              rotate_left
              · ((intro w hSw; (try dsimp only at hSw); go_simp) <;> with_reducible rfl)
              (try simp only [Act.put, List.setIfInBounds_toArray, List.set_cons_zero, List.set_cons_succ])
              refine ends_take 13 (v := ?_) rfl (by kernel_rfl) (by kernel_rfl) (by kernel_rfl) (by kernel_rfl) (fun _ _ _ h => h) (by rfl) ?_ (by assumption) ?_
              rotate_left
              · ((intro w hSw; (try dsimp only at hSw); go_simp) <;> with_reducible rfl)
              (try simp only [Act.put, List.setIfInBounds_toArray, List.set_cons_zero, List.set_cons_succ])
              refine ends_take 14 (v := ?_) rfl (by kernel_rfl) (by kernel_rfl) (by kernel_rfl) (by kernel_rfl) (fun _ _ _ h => h) (by rfl) ?_ (by assumption) ?_
              rotate_left
              · ((intro w hSw; (try dsimp only at hSw); go_simp) <;> with_reducible rfl)
              (try simp only [Act.put, List.setIfInBounds_toArray, List.set_cons_zero, List.set_cons_succ])
              refine ends_step 10 rfl (by kernel_rfl) (fun K hK => ?_)
              (go_simp; go_at_call 66; (with_reducible refine (HF.out _).mono ?_); rintro q1 w11 ⟨v11, rfl, h11, hx11⟩; have hX1 := (Ext.refl (fun _ => False) w6).drew.trans hx11; have hK1 := hS.keep hX1; have hM := HM.out w11 hX1 _ h11; obtain ⟨n11, a11, l11, c11, a11', l11', c11', rfl⟩ := h11.shape)
              refine hK.out _ _ (hK1) (fun hHeld => ?_)
              clear hK K
              (try simp only [Act.put, List.setIfInBounds_toArray, List.set_cons_zero, List.set_cons_succ])
              refine ends_step 15 rfl (by kernel_rfl) (fun K hK => ?_)
              (go_simp; go_at_call 112; (with_reducible refine hM.mono ?_); rintro q2 w12 ⟨v12, rfl, h12, hx12⟩; have hX2 := hX1.trans hx12; have hK2 := hS.keep hX2; have hA3 := HAd.out w12 hX2 _ h12; obtain ⟨n12, a12, l12, c12, a12', l12', c12', rfl⟩ := h12.shape)
              refine hK.out _ _ (hK2) (fun hHeld => ?_)
              clear hK K
              (try simp only [Act.put, List.setIfInBounds_toArray, List.set_cons_zero, List.set_cons_succ])
              refine ends_step 16 rfl (by kernel_rfl) (fun K hK => ?_)
              (go_simp; go_at_call 67; (with_reducible refine hA3.mono ?_); rintro q3 w13 ⟨v13, rfl, h13, hx13⟩; have hX3 := hX2.trans hx13; have hK3 := hS.keep hX3; obtain ⟨n13, a13, l13, c13, a13', l13', c13', rfl⟩ := h13.shape)
              refine hK.out _ _ (hK3) (fun hHeld => ?_)
              clear hK K
              (try simp only [Act.put, List.setIfInBounds_toArray, List.set_cons_zero, List.set_cons_succ])
              refine ends_take 17 (v := ?_) rfl (by kernel_rfl) (by kernel_rfl) (by kernel_rfl) (by kernel_rfl) (fun _ _ _ h => h) (by rfl) ?_ (by assumption) ?_
              rotate_left
              · ((intro w hSw; (try dsimp only at hSw); go_simp) <;> with_reducible rfl)
              (try simp only [Act.put, List.setIfInBounds_toArray, List.set_cons_zero, List.set_cons_succ])
              have harr13 := HArr.out.1.keep hX3
              have fz0 := harr13.free (v * 3)
              have fz1 := harr13.free (v * 3 + 1)
              have fz2 := harr13.free (v * 3 + 2)
              obtain ⟨-, -, t0, t1, t2, -⟩ := hHeld
              refine ends_last rfl (by kernel_rfl) (fun K hK => ?_)
              go_simp
              refine hK.out _ _ ?_
              clear hK K
              (try simp only [Act.put, List.setIfInBounds_toArray, List.set_cons_zero, List.set_cons_succ])
              refine ends_done (by kernel_rfl) ?_ _
              have HX13 := Lib.hid (HArr.out.2.trans hX3)
              obtain ⟨p1, p2, -⟩ := harr13.put Hv.out h13
              have HP := Lib.hid (And.intro p1 (HX13.out.own p2 (fun q e => by omega)))
              clear p1 p2 harr13 h11 h12 h13 hx11 hx12 hx13 hX1 hX2 hX3 hK1 hK2 hK3 hS hM hA3 t0 t1 t2 fz0 fz1 fz2
              generalize ((w13.setCell ⟨B, v * 3, none⟩ (.bool n13)).setCell ⟨B, v * 3 + 1, none⟩ (.slice a13 l13 c13)).setCell ⟨B, v * 3 + 2, none⟩ (.slice a13' l13' c13') = w9 at *
              go_wp2
              go_roundg (tl - (k + 1))
              case measure => omega
              case rel => exact ⟨k + 1, by omega, rfl, by go_num, (by have h0 := HP.out.1; rw [HTv.out] at h0; exact h0), HP.out.2⟩
            · have hz : ∀ j, j < n → termA (p.r i) (atQ y i) j k = 0 := fun j hj => by
                rw [HTA.out, if_neg (by omega)]
              have HZ := Lib.hid hz
              have HE := Lib.hid (And.intro (HW.out.1.keep HB6.out.2) (HW.out.2.trans HB6.out.2))
              clear hz
              by_cases hin4 : 0 ≤ tv
              · have hin5 : ¬ tv < (n : Int) := by omega
                go_wp2
                go_roundg (tl - (k + 1))
                case measure => omega
                case rel => exact ⟨k + 1, by omega, rfl, by go_num, HE.out.1.congr (fun j hj => (by show _ = sumTo i (rowA p y j) + (sumTo k (termA (p.r i) (atQ y i) j) + termA (p.r i) (atQ y i) j k); rw [HZ.out j hj, Rat.add_zero])), HE.out.2⟩
              · go_wp2
                go_roundg (tl - (k + 1))
                case measure => omega
                case rel => exact ⟨k + 1, by omega, rfl, by go_num, HE.out.1.congr (fun j hj => (by show _ = sumTo i (rowA p y j) + (sumTo k (termA (p.r i) (atQ y i) j) + termA (p.r i) (atQ y i) j k); rw [HZ.out j hj, Rat.add_zero])), HE.out.2⟩
          · obtain rfl : k = tl := by omega
            have HW := Lib.hid (And.intro harr hx)
            clear harr hx
            go_wp2
            go_roundg (m - (i + 1))
            case measure => omega
            case rel => exact ⟨i + 1, by omega, rfl, by go_num, HW.out.1.congr (fun j hj => (by show _ = sumTo i (rowA p y j) + rowA p y j i; unfold rowA; rw [HTL.out])), HW.out.2⟩
    · obtain rfl : i = m := by omega
      have HX := Lib.hid (And.intro harr hx)
      clear harr hx
      have z1 := cell_keep (cellq HB.out.1 1 rfl) HX.out.2
      go_wp2_with fail
      refine (HS.out wr HX.out.2).mono ?_
      rintro r2 w2' ⟨v2, rfl, h2, hx2⟩
      obtain ⟨ng, sa, sn, sc, ta, tn, tc, rfl⟩ := h2.shape
      have hr3 := (HB.out.2.2.1.keep HX.out.2).keep hx2
      obtain ⟨d0, d1, d2, d3, d4, d5⟩ := hr3.facts
      have hp := hr3.put (neg := ng) (no_int sa sn sc) (no_int ta tn tc)
      have harr9 := (HX.out.1.keep hx2)
      have hne : ¬ B = pb + 1 + 1 := by omega
      have HP := Lib.hid (And.intro hp (And.intro (hp.rat h2) (And.intro ((HB.out.2.2.2.trans (HX.out.2.trans hx2)).own hp.ext (fun k e => by omega)) (harr9.past hp.ext hne hp.rds))))
      clear h2 hr3 hx2 hp harr9 HS
      go_wp2
      generalize (((w2'.setCell ⟨pb + 1 + 1, 0, none⟩ (.bool ng)).setCell ⟨pb + 1 + 1, 1, none⟩ (.slice sa sn sc)).setCell ⟨pb + 1 + 1, 2, none⟩ (.slice ta tn tc)) = w9 at *
      obtain ⟨g0, g1, g2, _⟩ := HP.out.1.box.facts
      refine bodyPost_ret (v := .tuple #[.slice (some ⟨B, 0, none⟩) n n, .agg #[.bool ng, .slice sa sn sc, .slice ta tn tc]]) (by simp [results, Tryz.results61, go_sem, g0, g1, g2]) rfl ⟨B, _, rfl, by omega, HP.out.2.2.2.congr (fun j hj => (combA_eq p y j).symm ▸ HN.out ▸ rfl), HP.out.2.1, HP.out.2.2.1⟩
end Go.Proofs.YtbgienfcmdgaaaaGreat
/-
  Package linear: clip, Violated. Conditions: the arguments read as programs, points.
-/
namespace Go.Proofs.YtbgienfcmdgaaaaGreat
open Go.RowKit Go.MapKept
open Go.ChangeMaps (setBlock)

def nv (k : Nat) : Value := .int .i64 (k : Int)
theorem nv_one (k : Nat) : ∀ u ∈ [Value.int .i64 (k : Int)], u.oneCell' = true := fun u hu => by
  rw [List.mem_singleton.1 hu]; rfl
/-- a row of the call's own whose elements are the numbers l -/
def NOwn (w : World) (base : Nat) (v : Value) (l : List Nat) : Prop := w.ownsRow base 3 1 v l.length (l.map nv)
theorem nown_app {w : World} {base j k : Nat} {v : Value} {o : List Nat} (hlen : o.length = j) (h : w.ownsRow base 3 1 v (j + 1) (o.map nv ++ [.int .i64 (k : Int)])) : NOwn w base v (o ++ [k]) := by
  unfold NOwn
  rw [List.length_append, hlen, List.map_append]
  exact h
theorem NOwn.nil (w : World) (base : Nat) : NOwn w base (.slice none 0 0) [] := World.ownsRow_nil w base _ 1
theorem NOwn.keep {w w' : World} {base : Nat} {v : Value} {l : List Nat} (h : NOwn w base v l) (hx : Ext (fun _ => False) w w') : NOwn w' base v l := ownsRow_ext h hx (fun _ _ h => h)
theorem NOwn.shape {w : World} {base : Nat} {v : Value} {l : List Nat} (h : NOwn w base v l) : ∃ ao cap, v = .slice ao l.length cap := ownsRow_shape h
def NumsPost (w : World) (l : List Nat) (r : Ending) (w' : World) : Prop := ∃ v, r = .returned v ∧ NOwn w' w.heap.size v l ∧ Ext (fun _ => False) w w'
theorem Tryz.infoInt : (Tryz.prog.info? 3).map (fun i => (i.zero, i.size, i.bytes)) = some (some (.int .i64 0), 1, 8) := by kernel_rfl
theorem Rats.take {w : World} {ao : Option Addr} {n c : Nat} {l : List Rat} {L : Nat} (h : Rats w (.slice ao n c) l L) (k : Nat) (hk : k ≤ n) : Rats w (.slice ao k c) (l.take k) L := by
  obtain ⟨cs, h0, ⟨ao', c', e, h1, h2, h3, h4⟩, h5⟩ := h
  cases e
  refine ⟨cs.take k, by simp [h0], ⟨ao, c, by rw [List.length_take, Nat.min_eq_left hk], by rw [List.length_take]; omega, h2, h3, fun hp => ?_⟩, fun i c' q hc hq => ?_⟩
  · rw [List.length_take] at hp
    obtain ⟨b, off, e, hb, hc⟩ := h4 (by omega)
    refine ⟨b, off, e, hb, fun i r hi j u hu => hc i r ?_ j u hu⟩
    rw [List.getElem?_take] at hi
    split at hi
    · exact hi
    · cases hi
  · rw [List.getElem?_take] at hc hq
    split at hc
    · rename_i hik
      rw [if_pos hik] at hq
      exact h5 i c' q hc hq
    · cases hc
set_option maxRecDepth 100000 in
set_option maxHeartbeats 4000000 in
theorem clip_any (w w0 : World) (pv xv : Value) (p : ProgV) (x : List Rat) (L : Nat) (hp : IsPrg w pv p) (hl : Rats w0 xv x L) :
    Calls Tryz.prog 167 #[pv, xv] w fun r w' => (∃ v, r = .returned v ∧ Rats w0 v (clipQ p x) L) ∧ Ext (fun _ => False) w w' := by
  obtain ⟨vv, rv, rfl, hv, -⟩ := hp
  obtain ⟨vo, vc, rfl, -, hn, -⟩ := hv.shape
  obtain ⟨xo, xc, rfl, hxo, hxn, hxc⟩ := hl.shape
  have HT := Lib.hid (fun k hk => hl.take k hk)
  have hxc63 : xc ≤ 9223372036854775807 := by
    obtain ⟨_, _, ⟨_, _, e, _, h, _⟩, _⟩ := hl
    have e3 := (Value.slice.inj e).2.2
    unfold maxLen at h; omega
  unfold clipQ
  clear hv hl
  have HX := Lib.hid ((Ext.refl (fun _ => False) w).alloc (.cells #[.slice vo p.vars.length vc, rv] 25))
  generalize p.vars.length = n at *
  generalize hxl : x.length = xn at *
  have HE : Hid (n ≤ xn ∨ x.take n = x.take xn) := Lib.hid (by
    by_cases h : n ≤ xn
    · exact .inl h
    · exact .inr (by rw [List.take_of_length_le (by omega), List.take_of_length_le (by omega)]))
  clear hxl
  cases xo with
  | none =>
    have hc0 : xc = 0 := hxo rfl
    subst hc0
    obtain rfl : xn = 0 := by omega
    clear hxo
    go_enter Tryz.func167, Tryz.ntmps167
    go_wp2
    go_ret
    refine ⟨⟨_, rfl, ?_⟩, HX.out⟩
    rcases HE.out with h | h
    · obtain rfl : n = 0 := by omega
      exact HT.out 0 (Nat.le_refl _)
    · rw [h]; exact HT.out 0 (Nat.le_refl _)
  | some a =>
    clear hxo
    by_cases h : n ≤ xn
    · have h' : (n : Int) ≤ (xn : Int) := by omega
      have hm : min (xn : Int) (n : Int) = (n : Int) := by omega
      go_enter Tryz.func167, Tryz.ntmps167
      go_wp2
      all_goals
        go_ret
        exact ⟨⟨_, rfl, HT.out n h⟩, HX.out⟩
    · have h' : (xn : Int) < (n : Int) := by omega
      have hm : min (xn : Int) (n : Int) = (xn : Int) := by omega
      have HE' := Lib.hid (HE.out.resolve_left h)
      go_enter Tryz.func167, Tryz.ntmps167
      go_wp2
      all_goals
        go_ret
        exact ⟨⟨_, rfl, by rw [HE'.out]; exact HT.out xn (Nat.le_refl _)⟩, HX.out⟩
theorem dot_sz {ts : List TermV} {x : List Rat} {L T : Nat} (ht : ∀ k, k < ts.length → TermOk (ts.getD k term0)) (hx : ∀ i : Int, Sz (atQ x i) L) (hT : ts.length ≤ T) : Sz (dotQ ts x) (1 + T * (L + 3)) :=
  (sumTo_sz (M := L + 2) (fun k hk => ((Sz.int (ht k hk).coef).mul (hx _)).mono (by omega))).mono (by
    have := Nat.mul_le_mul_right (L + 3) hT
    show 1 + ts.length * (L + 3) ≤ _
    omega)
theorem Rws.term_ok {p : ProgV} {w : World} {v : Value} (h : Rws w v p.rows) {i : Nat} (hi : i < p.rows.length) : ∀ k, k < (p.r i).terms.length → TermOk ((p.r i).t k) := fun k hk => by
  obtain ⟨ao, c, rfl, _⟩ := h.shape
  obtain ⟨_, _, _, _, _, _, _, _, _, _, _, _, ht⟩ := h.atp i hi
  exact ht.ok k hk
theorem kind_sign {k : Int} {d b : Rat} : kindB k d b = if k = 0 then !decide (0 < (d - b).num.sign) else if k = 1 then !decide ((d - b).num.sign < 0) else decide ((d - b).num.sign = 0) := by
  have h1 := sign_lt (d - b)
  have h2 := sign_gt (d - b)
  have h3 := sign_zero (d - b)
  unfold kindB
  split
  · rw [← decide_not]; exact decide_eq_decide.2 ⟨fun h h' => by have := h2.1 h'; grind, fun h => Rat.not_lt.1 (fun h' => h (h2.2 (by grind)))⟩
  · split
    · rw [← decide_not]; exact decide_eq_decide.2 ⟨fun h h' => by have := h1.1 h'; grind, fun h => Rat.not_lt.1 (fun h' => h (h1.2 (by grind)))⟩
    · exact decide_eq_decide.2 ⟨fun h => h3.2 (by grind), fun h => by have := h3.1 h; grind⟩
set_option maxRecDepth 100000 in
set_option maxHeartbeats 8000000 in
theorem Violated_any (w : World) (pv xv : Value) (p : ProgV) (x : List Rat) (L T : Nat) (hp : IsPrg w pv p) (hy : Rats w xv x L) (h1 : 1 ≤ L) (hT : ∀ i, i < p.rows.length → (p.r i).terms.length ≤ T) (hL : 1 + T * (L + 3) + (L + 3) ≤ 4000000) (hm : p.rows.length ≤ 1000000) :
    Calls Tryz.prog 123 #[pv, xv] w (NumsPost w (violQ p x)) := by
  obtain ⟨ti, hi0⟩ := info_parts Tryz.infoInt
  have Hi := Lib.hid hi0
  clear hi0
  obtain ⟨vv, rv, rfl, hvv, hr⟩ := hp
  obtain ⟨ro, rc, rfl, -, hn, -⟩ := hr.shape
  have HCl := Lib.hid (fun W (hW : Ext (fun _ => False) w W) => clip_any W w _ xv p x L ⟨vv, _, rfl, hvv.keep hW, hr.keep hW⟩ hy)
  have Hsz := Lib.hid (fun i hi => dot_sz (x := clipQ p x) (L := L) (hr.term_ok hi) (fun j => (by
    unfold clipQ
    obtain ⟨yo, yc, e, _⟩ := hy.shape
    rw [e] at hy
    by_cases h : p.vars.length ≤ x.length
    · exact (hy.take p.vars.length h).sz h1 j
    · rw [List.take_of_length_le (by omega)]; exact hy.sz h1 j)) (hT i hi))
  have HV := Lib.hid hr
  have HT := Lib.hid hT
  clear hvv hy hT
  obtain ⟨n, hn'⟩ : ∃ n, p.rows.length = n := ⟨_, rfl⟩
  have HN := Lib.hid hn'
  have hb1 := blk_alloc_at w (.cells #[vv, .slice ro p.rows.length rc] 25)
  have hx1 := (Ext.refl (fun _ => False) w).alloc (.cells #[vv, .slice ro p.rows.length rc] 25)
  have HB := Lib.hid (And.intro hb1 hx1)
  clear hr hb1 hx1
  rw [hn'] at hn hm HV HB HCl
  unfold violQ
  rw [hn']
  have hvl : ∀ i, (violN (fun i => holdsB (p.r i) (clipQ p x)) i).length ≤ i := fun i => by
    induction i with
    | zero => exact Nat.le_refl _
    | succ i ih =>
      unfold violN
      split
      · omega
      · rw [List.length_append]; simp; exact ih
  have HVL := Lib.hid hvl
  clear hn' hvl
  go_enter Tryz.func123, Tryz.ntmps123
  go_upto_region 1 with fail
  generalize w.alloc (.cells #[vv, .slice ro n rc] 25) = w1 at *
  obtain ⟨pb, hpb⟩ : ∃ pb, w.heap.size = pb := ⟨_, rfl⟩
  have hpw : w.heap.size ≤ pb := Nat.le_of_eq hpb
  rw [hpb] at HB ⊢
  rw [← hpb]
  rw [hpb]
  clear hpb
  have z0 := cellq HB.out.1 0 rfl
  have z1 := cellq HB.out.1 1 rfl
  go_wp2_with fail
  refine (HCl.out w1 HB.out.2).mono ?_
  rintro r2 w2 ⟨⟨xv2, rfl, hx2v⟩, hx2⟩
  have HX2 := Lib.hid (And.intro hx2v (HB.out.2.trans hx2))
  obtain ⟨zo, zc, rfl, -, -, -⟩ := hx2v.shape
  have z1 := cell_keep z1 hx2
  clear hx2v hx2 HCl z0
  generalize (clipQ p x).length = zn at *
  go_wp2_with fail
  go_loopg [15, 5] n (fun gg v15 v5 wr => ∃ (i : Nat) (ov : Value), i ≤ n ∧ gg = n - i ∧ v15 = .int .i64 i ∧ v5 = ov ∧ NOwn wr w.heap.size ov (violN (fun i => holdsB (p.r i) (clipQ p x)) i) ∧ Ext (fun _ => False) w wr)
  case atStart => exact ⟨0, _, Nat.zero_le _, rfl, rfl, rfl, NOwn.nil _ _, HX2.out.2⟩
  case round =>
    clear z1
    obtain ⟨i, ov, hi, rfl, rfl, rfl, ho, hx⟩ := hrel
    have HX := Lib.hid hx
    obtain ⟨ao, cap, rfl⟩ := ho.shape
    have HO := Lib.hid ho
    obtain ⟨ln, hln⟩ : ∃ ln, (violN (fun i => holdsB (p.r i) (clipQ p x)) i).length = ln := ⟨_, rfl⟩
    have hlni : ln ≤ i := by have := HVL.out i; omega
    have Hlen := Lib.hid hln
    rw [hln] at HO ⊢
    clear hln ho hx
    by_cases hin : i < n
    · have i0 : (i : Int) < (n : Int) := by omega
      obtain ⟨b, off, ta, tc, rfl, -, e0, e1, e2, e3, e4, hrok, htm⟩ := HV.out.atp i (by rw [HN.out]; exact hin)
      replace e0 := cell_keep e0 HX.out
      replace e1 := cell_keep e1 HX.out
      replace e2 := cell_keep e2 HX.out
      replace e3 := cell_keep e3 HX.out
      replace e4 := cell_keep e4 HX.out
      have HD0 := Lib.hid (fun W (hW : Ext (fun _ => False) wr W) => Dot_any W _ _ _ (clipQ p x) L (htm.keep (HX.out.trans hW)) (HX2.out.1.keep (HX.out.trans hW)) h1 (by
        have h := HT.out i (by rw [HN.out]; exact hin)
        have := Nat.mul_le_mul_right (L + 3) h
        omega))
      have HszI := Lib.hid (Hsz.out i (by rw [HN.out]; exact hin))
      have HBd := Lib.hid hrok.bound
      have HR0 := Lib.hid (show holdsB (p.r i) (clipQ p x) = _ from kind_sign)
      clear htm hrok
      obtain ⟨tl, htl⟩ : ∃ tl, (p.r i).terms.length = tl := ⟨_, rfl⟩
      rw [htl] at e3 HD0
      clear htl
      obtain ⟨D, hD⟩ : ∃ D, dotQ (p.r i).terms (clipQ p x) = D := ⟨_, rfl⟩
      rw [hD] at HD0 HszI HR0
      clear hD
      obtain ⟨bd, hbd⟩ : ∃ bd, (p.r i).bound = bd := ⟨_, rfl⟩
      rw [hbd] at e4 HBd HR0
      clear hbd
      obtain ⟨k, hk⟩ : ∃ k, (p.r i).kind = k := ⟨_, rfl⟩
      rw [hk] at e2 HR0
      clear hk
      generalize (p.r i).name = nm at *
      generalize (p.r i).group = gr at *
      have hx3 := (Ext.refl (fun _ => False) wr).alloc (.cells #[.string nm, .int .i64 gr, .int .i64 k, .slice ta tl tc, .int .i64 bd] 58)
      have hb3 := blk_alloc_at wr (.cells #[.string nm, .int .i64 gr, .int .i64 k, .slice ta tl tc, .int .i64 bd] 58)
      have HB3 := Lib.hid (And.intro hb3 hx3)
      clear hb3 hx3
      go_upto_region 6 with fail
      obtain ⟨rb, hrb⟩ : ∃ rb, wr.heap.size = rb := ⟨_, rfl⟩
      rw [hrb] at HB3 ⊢
      generalize wr.alloc (.cells #[.string nm, .int .i64 gr, .int .i64 k, .slice ta tl tc, .int .i64 bd] 58) = w3 at *
      clear e0 e1 e2 e3 e4 hrb
      have hx3 := HB3.out.2
      have HD := Lib.hid (fun W (hW : Ext (fun _ => False) wr W) => HD0.out W hW)
      have HF := Lib.hid (fun W => rfrom_any W bd HBd.out.1 HBd.out.2)
      have HC := Lib.hid (fun W u u' (hu : IsRat W u D) (hu' : IsRat W u' ((bd : Int) : Rat)) => rcmp_any W u u' D _ (1 + T * (L + 3) + 2) (hu.reads (HszI.out.mono (by omega))) (hu'.reads ((Sz.int HBd.out).mono (by omega))) (by omega) (by omega))
      have hS : S2 rb rb 3 4 (.slice ta tl tc) (.int .i64 bd) w3 := ⟨cellq HB3.out.1 3 rfl, cellq HB3.out.1 4 rfl⟩
      obtain ⟨sg, hsg⟩ : ∃ sg, (D - (bd : Rat)).num.sign = sg := ⟨_, rfl⟩
      have HR := Lib.hid (HR0.out.trans (by rw [hsg]))
      rw [hsg] at HC
      generalize (bd : Rat) = bq at *
      clear hsg HR0 HD0
      refine wp_region_held_drew (S := (S2 rb rb 3 4 (.slice ta tl tc) (.int .i64 bd))) (by kernel_rfl) (hS.drew) (fun hHeld => ?_)
      refine held_take 0 (v := ?_) rfl (by kernel_rfl) (by kernel_rfl) (by kernel_rfl) (fun _ _ _ h => h) (by rfl) ?_ (by assumption) ?_
      rotate_left
      · ((intro w hSw; (try dsimp only at hSw); go_simp) <;> with_reducible rfl)
      (try simp only [Act.put, List.setIfInBounds_toArray, List.set_cons_zero, List.set_cons_succ])
      refine held_take 1 (v := ?_) rfl (by kernel_rfl) (by kernel_rfl) (by kernel_rfl) (fun _ _ _ h => h) (by rfl) ?_ (by assumption) ?_
      rotate_left
      · ((intro w hSw; (try dsimp only at hSw); go_simp) <;> with_reducible rfl)
      (try simp only [Act.put, List.setIfInBounds_toArray, List.set_cons_zero, List.set_cons_succ])
      refine held_take 2 (v := ?_) rfl (by kernel_rfl) (by kernel_rfl) (by kernel_rfl) (fun _ _ _ h => h) (by rfl) ?_ (by assumption) ?_
      rotate_left
      · ((intro w hSw; (try dsimp only at hSw); go_simp) <;> with_reducible rfl)
      (try simp only [Act.put, List.setIfInBounds_toArray, List.set_cons_zero, List.set_cons_succ])
      refine held_take 4 (v := ?_) rfl (by kernel_rfl) (by kernel_rfl) (by kernel_rfl) (fun _ _ _ h => h) (by rfl) ?_ (by assumption) ?_
      rotate_left
      · ((intro w hSw; (try dsimp only at hSw); go_simp) <;> with_reducible rfl)
      (try simp only [Act.put, List.setIfInBounds_toArray, List.set_cons_zero, List.set_cons_succ])
      refine held_take 5 (v := ?_) rfl (by kernel_rfl) (by kernel_rfl) (by kernel_rfl) (fun _ _ _ h => h) (by rfl) ?_ (by assumption) ?_
      rotate_left
      · ((intro w hSw; (try dsimp only at hSw); go_simp) <;> with_reducible rfl)
      (try simp only [Act.put, List.setIfInBounds_toArray, List.set_cons_zero, List.set_cons_succ])
      refine held_step 3 rfl (by kernel_rfl) (fun K hK => ?_)
      (go_simp; go_at_call 74; (with_reducible refine (HD.out _ (hx3.drew)).mono ?_); rintro q1 w11 ⟨v11, rfl, h11, hx11⟩; have hX1 := (Ext.refl (fun _ => False) w3).drew.trans hx11; have hK1 := hS.keep hX1; have hC1 := HC.out w11; obtain ⟨n11, a11, l11, c11, a11', l11', c11', rfl⟩ := h11.shape)
      refine hK.out _ _ (hK1) (fun hHeld => ?_)
      clear hK K
      (try simp only [Act.put, List.setIfInBounds_toArray, List.set_cons_zero, List.set_cons_succ])
      refine held_step 6 rfl (by kernel_rfl) (fun K hK => ?_)
      (go_simp; go_at_call 66; (with_reducible refine (HF.out _).mono ?_); rintro q2 w12 ⟨v12, rfl, h12, hx12⟩; have hX2 := hX1.trans hx12; have hK2 := hS.keep hX2; have hC2 := HC.out w12 _ _ (h11.keep hx12) h12; obtain ⟨n12, a12, l12, c12, a12', l12', c12', rfl⟩ := h12.shape)
      refine hK.out _ _ (hK2) (fun hHeld => ?_)
      clear hK K
      (try simp only [Act.put, List.setIfInBounds_toArray, List.set_cons_zero, List.set_cons_succ])
      refine held_step 7 rfl (by kernel_rfl) (fun K hK => ?_)
      (go_simp; go_at_call 53; (with_reducible refine hC2.mono ?_); rintro q3 w13 ⟨rfl, hx13⟩; have hX3 := hX2.trans hx13; have hK3 := hS.keep hX3)
      refine hK.out _ _ (hK3) (fun hHeld => ?_)
      clear hK K
      (try simp only [Act.put, List.setIfInBounds_toArray, List.set_cons_zero, List.set_cons_succ])
      refine held_take 8 (v := ?_) rfl (by kernel_rfl) (by kernel_rfl) (by kernel_rfl) (fun _ _ _ h => h) (by rfl) ?_ (by assumption) ?_
      rotate_left
      · ((intro w hSw; (try dsimp only at hSw); go_simp) <;> with_reducible rfl)
      (try simp only [Act.put, List.setIfInBounds_toArray, List.set_cons_zero, List.set_cons_succ])
      refine wpAnyH_done (by kernel_rfl) ?_ _
      have HXa := Lib.hid (HX.out.trans (hx3.trans hX3))
      have e2 := cell_keep (cellq HB3.out.1 2 rfl) hX3
      have hok13 : NOwn w13 w.heap.size (.slice ao ln cap) (violN (fun i => holdsB (p.r i) (clipQ p x)) i) := HO.out.keep (hx3.trans hX3)
      have hxa := (Ext.refl (fun _ => False) w13).alloc (.cells #[.int .i64 (i : Int)] 3)
      have HO1 : Hid ((w13.alloc (.cells #[.int .i64 (i : Int)] 3)).ownsRow w.heap.size 3 1 (.slice ao ln cap) ln ((violN (fun i => holdsB (p.r i) (clipQ p x)) i).map nv)) := Lib.hid (by have := hok13.keep hxa; unfold NOwn at this; rw [Hlen.out] at this; exact this)
      have HGe := Lib.hid (row_ge HO1.out)
      have HOk := Lib.hid hok13
      clear hX1 hX2 hX3 hK1 hK2 hK3 hS h11 h12 hx11 hx12 hx13 hC1 hC2 hx3 HB3 HD HF HC hok13 hxa
      have hcase : (k = 0 ∧ 0 < sg) ∨ (k = 0 ∧ ¬ 0 < sg) ∨ (k = 1 ∧ sg < 0) ∨ (k = 1 ∧ ¬ sg < 0) ∨ (¬ k = 0 ∧ ¬ k = 1 ∧ ¬ sg = 0) ∨ (¬ k = 0 ∧ ¬ k = 1 ∧ sg = 0) := by omega
      rcases hcase with ⟨rfl, hs⟩ | ⟨rfl, hs⟩ | ⟨rfl, hs⟩ | ⟨rfl, hs⟩ | ⟨hk0, hk1, hs⟩ | ⟨hk0, hk1, hs⟩
      · skip
        go_wp2_with (at_builtin; refine wpList_append_any rfl (.tmp 58) (.tmp 60) 42 rfl w.heap.size 3 ti _ 1 8 Tryz.underlying42 Hi.out.1 Hi.out.2.1 Hi.out.2.2.1 Hi.out.2.2.2 rfl (by decide) _ _ _ rfl HO1.out _ 1 1 (fun e => by cases e) [.int .i64 (i : Int)] rfl rfl (.inr ⟨_, rfl, cells_new [.int .i64 (i : Int)] _ rfl⟩) (nv_one _) (by simp only [maxLen]; omega) (by omega) (Nat.le_trans HXa.out.size (by simp)) ?_; intro v5 w5 hown5 hgrow5 hat5; have HO : Hid (NOwn w5 w.heap.size v5 (violN (fun i => holdsB (p.r i) (clipQ p x)) i ++ [i])) := Lib.hid (nown_app Hlen.out hown5); have HX5 : Hid (Ext (fun _ => False) w w5) := Lib.hid ((HXa.out.alloc (.cells #[.int .i64 (i : Int)] 3)).grown hgrow5 (fun k e h => absurd (HGe.out k e) (by omega))); clear hown5 hgrow5 hat5)
        go_roundg (n - (i + 1))
        case measure => omega
        case rel => exact ⟨i + 1, v5, by omega, rfl, by go_num, rfl, (by show NOwn w5 w.heap.size v5 (if holdsB (p.r i) (clipQ p x) then _ else _); rw [if_neg (by rw [HR.out]; simp [hs])]; exact HO.out), HX5.out⟩
      · skip
        go_wp2
        go_roundg (n - (i + 1))
        case measure => omega
        case rel => exact ⟨i + 1, .slice ao ln cap, by omega, rfl, by go_num, rfl, (by show NOwn w13 w.heap.size _ (if holdsB (p.r i) (clipQ p x) then _ else _); rw [if_pos (by rw [HR.out]; simp [hs])]; exact HOk.out), HXa.out⟩
      · skip
        go_wp2_with (at_builtin; refine wpList_append_any rfl (.tmp 58) (.tmp 60) 42 rfl w.heap.size 3 ti _ 1 8 Tryz.underlying42 Hi.out.1 Hi.out.2.1 Hi.out.2.2.1 Hi.out.2.2.2 rfl (by decide) _ _ _ rfl HO1.out _ 1 1 (fun e => by cases e) [.int .i64 (i : Int)] rfl rfl (.inr ⟨_, rfl, cells_new [.int .i64 (i : Int)] _ rfl⟩) (nv_one _) (by simp only [maxLen]; omega) (by omega) (Nat.le_trans HXa.out.size (by simp)) ?_; intro v5 w5 hown5 hgrow5 hat5; have HO : Hid (NOwn w5 w.heap.size v5 (violN (fun i => holdsB (p.r i) (clipQ p x)) i ++ [i])) := Lib.hid (nown_app Hlen.out hown5); have HX5 : Hid (Ext (fun _ => False) w w5) := Lib.hid ((HXa.out.alloc (.cells #[.int .i64 (i : Int)] 3)).grown hgrow5 (fun k e h => absurd (HGe.out k e) (by omega))); clear hown5 hgrow5 hat5)
        go_roundg (n - (i + 1))
        case measure => omega
        case rel => exact ⟨i + 1, v5, by omega, rfl, by go_num, rfl, (by show NOwn w5 w.heap.size v5 (if holdsB (p.r i) (clipQ p x) then _ else _); rw [if_neg (by rw [HR.out]; simp [hs])]; exact HO.out), HX5.out⟩
      · skip
        go_wp2
        go_roundg (n - (i + 1))
        case measure => omega
        case rel => exact ⟨i + 1, .slice ao ln cap, by omega, rfl, by go_num, rfl, (by show NOwn w13 w.heap.size _ (if holdsB (p.r i) (clipQ p x) then _ else _); rw [if_pos (by rw [HR.out]; simp [hs])]; exact HOk.out), HXa.out⟩
      · have k1 : (k == 1) = false := by simpa using hk1
        have k0 : (k == 0) = false := by simpa using hk0
        have k2 : (k != 1) = true := by simpa using hk1
        have k3 : (k != 0) = true := by simpa using hk0
        have s1 : (sg != 0) = true := by simpa using hs
        have s2 : decide (sg = 0) = false := by simpa using hs
        go_wp2_with (at_builtin; refine wpList_append_any rfl (.tmp 58) (.tmp 60) 42 rfl w.heap.size 3 ti _ 1 8 Tryz.underlying42 Hi.out.1 Hi.out.2.1 Hi.out.2.2.1 Hi.out.2.2.2 rfl (by decide) _ _ _ rfl HO1.out _ 1 1 (fun e => by cases e) [.int .i64 (i : Int)] rfl rfl (.inr ⟨_, rfl, cells_new [.int .i64 (i : Int)] _ rfl⟩) (nv_one _) (by simp only [maxLen]; omega) (by omega) (Nat.le_trans HXa.out.size (by simp)) ?_; intro v5 w5 hown5 hgrow5 hat5; have HO : Hid (NOwn w5 w.heap.size v5 (violN (fun i => holdsB (p.r i) (clipQ p x)) i ++ [i])) := Lib.hid (nown_app Hlen.out hown5); have HX5 : Hid (Ext (fun _ => False) w w5) := Lib.hid ((HXa.out.alloc (.cells #[.int .i64 (i : Int)] 3)).grown hgrow5 (fun k e h => absurd (HGe.out k e) (by omega))); clear hown5 hgrow5 hat5)
        go_roundg (n - (i + 1))
        case measure => omega
        case rel => exact ⟨i + 1, v5, by omega, rfl, by go_num, rfl, (by show NOwn w5 w.heap.size v5 (if holdsB (p.r i) (clipQ p x) then _ else _); rw [if_neg (by rw [HR.out]; simp [hk0, hk1, hs])]; exact HO.out), HX5.out⟩
      · have k1 : (k == 1) = false := by simpa using hk1
        have k0 : (k == 0) = false := by simpa using hk0
        have k2 : (k != 1) = true := by simpa using hk1
        have k3 : (k != 0) = true := by simpa using hk0
        subst hs
        go_wp2
        go_roundg (n - (i + 1))
        case measure => omega
        case rel => exact ⟨i + 1, .slice ao ln cap, by omega, rfl, by go_num, rfl, (by show NOwn w13 w.heap.size _ (if holdsB (p.r i) (clipQ p x) then _ else _); rw [if_pos (by rw [HR.out]; simp [hk0, hk1])]; exact HOk.out), HXa.out⟩
    · obtain rfl : i = n := by omega
      go_wp2
      go_ret
      exact ⟨_, rfl, by have := HO.out; exact this, HX.out⟩
end Go.Proofs.YtbgienfcmdgaaaaGreat
/-
  DERIVED: THE SHELF's CONTRACTS AT THIS DUMP, IN PLAIN WORDS (tools/lay-plain.mjs out of 'TryzShelf.lean', which tools/lay-shelf.mjs wrote): THE SAME DECLARATIONS UNDER THE SAME NAMES: 'import', 'namespace', 'open', 'def', 'theorem' AND NOTHING ELSE: no command of the shelf's: FOR A HAND-IN. Each laying: the table of numbers ('.._ren') and one theorem, a field a fact of the dump's own or the kernel's comparison; each contract: ONE APPLICATION.
-/
namespace Go.Proofs
open Go.Shelf
def Tryz.lays315_ren : Go.Shelf.Ren := ⟨fun | 315 => 204 | n => n, fun | 9 => 9 | 40 => 158 | 4 => 4 | 3 => 3 | 0 => 0 | 21 => 21 | n => n, fun | n => n⟩
theorem Tryz.lays315 : Go.Proofs.Lays.n315 Tryz.prog Tryz.lays315_ren := {
  mixed := by kernel_rfl
  f315 := Tryz.func204.trans (congrArg some (by kernel_rfl))
  t0 := Tryz.underlying0
  a0 := Tryz.isAgg0
  z0 := Tryz.sizeOf0
  v0 := Tryz.zeroValue0
  t3 := Tryz.underlying3
  a3 := Tryz.isAgg3
  z3 := Tryz.sizeOf3
  v3 := Tryz.zeroValue3
  t4 := Tryz.underlying4
  a4 := Tryz.isAgg4
  z4 := Tryz.sizeOf4
  v4 := Tryz.zeroValue4
  t9 := Tryz.underlying9
  a9 := Tryz.isAgg9
  z9 := Tryz.sizeOf9
  v9 := Tryz.zeroValue9
  t21 := Tryz.underlying21
  a21 := Tryz.isAgg21
  z21 := Tryz.sizeOf21
  v21 := Tryz.zeroValue21
  t40 := Tryz.underlying158
  a40 := Tryz.isAgg158
  z40 := Tryz.sizeOf158
  v40 := Tryz.zeroValue158 }
open Go.RowKit Go.Lib in
theorem Tryz.strings_indexFunc (g : Nat) (lb : Array Value) (eg : ∀ args w, (callFunc g args).run Tryz.prog w = .ok (.enter g args) w) (p : Nat → Bool) (truth : Bool) (s : ByteArray) (w : World) (hp : PredAt Tryz.prog g lb encR p w) :
    Calls Tryz.prog 204 #[.string s, .func (.func g) #[] lb, .bool truth] w fun e w' => e = .returned (.int .i64 (Lib.idxFunc p truth s)) ∧ Below w.heap.size w w' := Any.strings_indexFunc Tryz.lays315 g lb eg p truth s w hp
def Tryz.laysGw15_ren : Go.Shelf.Ren := ⟨fun | 15 => 188 | 20 => 204 | n => n, fun | 9 => 9 | 23 => 158 | 3 => 3 | 4 => 4 | 0 => 0 | 21 => 21 | n => n, fun | n => n⟩
theorem Tryz.laysGw15 : Go.Proofs.LaysGw.n15 Tryz.prog Tryz.laysGw15_ren := {
  mixed := by kernel_rfl
  f15 := Tryz.func188.trans (congrArg some (by kernel_rfl))
  f20 := Tryz.func204.trans (congrArg some (by kernel_rfl))
  t0 := Tryz.underlying0
  a0 := Tryz.isAgg0
  z0 := Tryz.sizeOf0
  v0 := Tryz.zeroValue0
  i0 := by kernel_rfl
  t3 := Tryz.underlying3
  a3 := Tryz.isAgg3
  z3 := Tryz.sizeOf3
  v3 := Tryz.zeroValue3
  i3 := by kernel_rfl
  t4 := Tryz.underlying4
  a4 := Tryz.isAgg4
  z4 := Tryz.sizeOf4
  v4 := Tryz.zeroValue4
  i4 := by kernel_rfl
  t9 := Tryz.underlying9
  a9 := Tryz.isAgg9
  z9 := Tryz.sizeOf9
  v9 := Tryz.zeroValue9
  i9 := by kernel_rfl
  t21 := Tryz.underlying21
  a21 := Tryz.isAgg21
  z21 := Tryz.sizeOf21
  v21 := Tryz.zeroValue21
  i21 := by kernel_rfl
  t23 := Tryz.underlying158
  a23 := Tryz.isAgg158
  z23 := Tryz.sizeOf158
  v23 := Tryz.zeroValue158
  i23 := by kernel_rfl }
open Go.RowKit Go.Lib in
theorem Tryz.strings_IndexFunc (g : Nat) (lb : Array Value) (eg : ∀ args w, (callFunc g args).run Tryz.prog w = .ok (.enter g args) w) (p : Nat → Bool) (s : ByteArray) (w : World) (hp : PredAt Tryz.prog g lb encR p w) :
    Calls Tryz.prog 188 #[.string s, .func (.func g) #[] lb] w fun e w' => e = .returned (.int .i64 (Lib.idxFunc p true s)) ∧ Below w.heap.size w w' := Any.strings_IndexFunc Tryz.laysGw15 g lb eg p s w hp
def Tryz.laysGw17_ren : Go.Shelf.Ren := ⟨fun | 17 => 157 | 15 => 188 | 20 => 204 | n => n, fun | 9 => 9 | 23 => 158 | 4 => 4 | 3 => 3 | 0 => 0 | 21 => 21 | n => n, fun | n => n⟩
theorem Tryz.laysGw17 : Go.Proofs.LaysGw.n17 Tryz.prog Tryz.laysGw17_ren := {
  mixed := by kernel_rfl
  f15 := Tryz.func188.trans (congrArg some (by kernel_rfl))
  f17 := Tryz.func157.trans (congrArg some (by kernel_rfl))
  f20 := Tryz.func204.trans (congrArg some (by kernel_rfl))
  t0 := Tryz.underlying0
  a0 := Tryz.isAgg0
  z0 := Tryz.sizeOf0
  v0 := Tryz.zeroValue0
  i0 := by kernel_rfl
  t3 := Tryz.underlying3
  a3 := Tryz.isAgg3
  z3 := Tryz.sizeOf3
  v3 := Tryz.zeroValue3
  i3 := by kernel_rfl
  t4 := Tryz.underlying4
  a4 := Tryz.isAgg4
  z4 := Tryz.sizeOf4
  v4 := Tryz.zeroValue4
  i4 := by kernel_rfl
  t9 := Tryz.underlying9
  a9 := Tryz.isAgg9
  z9 := Tryz.sizeOf9
  v9 := Tryz.zeroValue9
  i9 := by kernel_rfl
  t21 := Tryz.underlying21
  a21 := Tryz.isAgg21
  z21 := Tryz.sizeOf21
  v21 := Tryz.zeroValue21
  i21 := by kernel_rfl
  t23 := Tryz.underlying158
  a23 := Tryz.isAgg158
  z23 := Tryz.sizeOf158
  v23 := Tryz.zeroValue158
  i23 := by kernel_rfl }
open Go.RowKit Go.Lib in
theorem Tryz.strings_ContainsFunc (g : Nat) (lb : Array Value) (eg : ∀ args w, (callFunc g args).run Tryz.prog w = .ok (.enter g args) w) (p : Nat → Bool) (s : ByteArray) (w : World) (hp : PredAt Tryz.prog g lb encR p w) :
    Calls Tryz.prog 157 #[.string s, .func (.func g) #[] lb] w fun e w' => e = .returned (.bool (decide (0 ≤ Lib.idxFunc p true s))) ∧ Below w.heap.size w w' := Any.strings_ContainsFunc Tryz.laysGw17 g lb eg p s w hp
open Go.RowKit Go.Lib in
theorem Tryz.strings_indexFunc_grows (g : Nat) (lb : Array Value) (eg : ∀ args w, (callFunc g args).run Tryz.prog w = .ok (.enter g args) w) (p : Nat → Bool) (truth : Bool) (s : ByteArray) (w : World) (hp : PredGrows Tryz.prog g lb p w) :
    Calls Tryz.prog 204 #[.string s, .func (.func g) #[] lb, .bool truth] w fun e w' => e = .returned (.int .i64 (Lib.idxFunc p truth s)) ∧ Below w.heap.size w w' := Any.strings_indexFunc_grows Tryz.lays315 g lb eg p truth s w hp
open Go.RowKit Go.Lib in
theorem Tryz.strings_IndexFunc_grows (g : Nat) (lb : Array Value) (eg : ∀ args w, (callFunc g args).run Tryz.prog w = .ok (.enter g args) w) (p : Nat → Bool) (s : ByteArray) (w : World) (hp : PredGrows Tryz.prog g lb p w) :
    Calls Tryz.prog 188 #[.string s, .func (.func g) #[] lb] w fun e w' => e = .returned (.int .i64 (Lib.idxFunc p true s)) ∧ Below w.heap.size w w' := Any.strings_IndexFunc_grows Tryz.laysGw15 g lb eg p s w hp
open Go.RowKit Go.Lib in
theorem Tryz.strings_ContainsFunc_grows (g : Nat) (lb : Array Value) (eg : ∀ args w, (callFunc g args).run Tryz.prog w = .ok (.enter g args) w) (p : Nat → Bool) (s : ByteArray) (w : World) (hp : PredGrows Tryz.prog g lb p w) :
    Calls Tryz.prog 157 #[.string s, .func (.func g) #[] lb] w fun e w' => e = .returned (.bool (decide (0 ≤ Lib.idxFunc p true s))) ∧ Below w.heap.size w w' := Any.strings_ContainsFunc_grows Tryz.laysGw17 g lb eg p s w hp
def Tryz.lays108_ren : Go.Shelf.Ren := ⟨fun | 108 => 202 | n => n, fun | 28 => 42 | 3 => 3 | 0 => 0 | 4 => 4 | n => n, fun | n => n⟩
theorem Tryz.lays108 : Go.Proofs.Lays.n108 Tryz.prog Tryz.lays108_ren := {
  mixed := by kernel_rfl
  f108 := Tryz.func202.trans (congrArg some (by kernel_rfl))
  t0 := Tryz.underlying0
  a0 := Tryz.isAgg0
  z0 := Tryz.sizeOf0
  v0 := Tryz.zeroValue0
  t3 := Tryz.underlying3
  a3 := Tryz.isAgg3
  z3 := Tryz.sizeOf3
  v3 := Tryz.zeroValue3
  t4 := Tryz.underlying4
  a4 := Tryz.isAgg4
  z4 := Tryz.sizeOf4
  v4 := Tryz.zeroValue4
  t28 := Tryz.underlying42
  a28 := Tryz.isAgg42
  z28 := Tryz.sizeOf42
  v28 := Tryz.zeroValue42 }
open Go.Lib in
/-- slices.Index at []int: "Index returns the index of the first occurrence of v in s, or -1 if not present.": IT RETURNS 'Lib.idxOf (the elements) v'; the world is as it was. 'zs': what the cells behind the slice's address hold (its spare capacity too, if you have it); 'zs.take n': its elements. (LAID: no walk: one application.) -/
theorem Tryz.slices_Index_int (b off n c : Nat) (zs : List Int) (x : Int) (w : World) (hz : n ≤ zs.length) (hbig : n ≤ 9223372036854775807) (hc : ∀ j, j < zs.length → w.cell? ⟨b, off + j, none⟩ = some (.int .i64 (zs.getD j 0))) :
    Calls Tryz.prog 202 #[.slice (some ⟨b, off, none⟩) n c, .int .i64 x] w fun e w' => e = .returned (.int .i64 (Lib.idxOf (zs.take n) x)) ∧ w' = w := Any.slices_Index_int Tryz.lays108 b off n c zs x w hz hbig hc
open Go.Lib in
/-- The same at a slice of length 0, a nil one too: no cell is known, none is asked for. (LAID: no walk: one application.) -/
theorem Tryz.slices_Index_int_empty (a : Option Addr) (c : Nat) (x : Int) (w : World) :
    Calls Tryz.prog 202 #[.slice a 0 c, .int .i64 x] w fun e w' => e = .returned (.int .i64 (Lib.idxOf [] x)) ∧ w' = w := Any.slices_Index_int_empty Tryz.lays108 a c x w
def Tryz.laysNm215_ren : Go.Shelf.Ren := ⟨fun | 15 => 138 | n => n, fun | 22 => 42 | 3 => 3 | 4 => 4 | n => n, fun | n => n⟩
theorem Tryz.laysNm215 : Go.Proofs.Lays2.n15 Tryz.prog Tryz.laysNm215_ren := {
  mixed := by kernel_rfl
  f15 := Tryz.func138.trans (congrArg some (by kernel_rfl))
  t3 := Tryz.underlying3
  a3 := Tryz.isAgg3
  z3 := Tryz.sizeOf3
  v3 := Tryz.zeroValue3
  t4 := Tryz.underlying4
  a4 := Tryz.isAgg4
  z4 := Tryz.sizeOf4
  v4 := Tryz.zeroValue4
  t22 := Tryz.underlying42
  a22 := Tryz.isAgg42
  z22 := Tryz.sizeOf42
  v22 := Tryz.zeroValue42
  i3 := by kernel_rfl }
open Go.RowKit Go.Lib in
/-- slices.Clone at []int: "Clone returns a copy of the slice. The elements are copied using assignment, so this is a shallow clone. The result may have additional unused capacity. The result preserves the nilness of s.": OF A SLICE THAT IS NOT nil IT RETURNS A SLICE THAT IS NOT nil, OF THE SAME ELEMENTS, IN MEMORY OF THE CALL's OWN: in the how-to's words (6f): 'w'.ownsRow B e 1 v' n cells': v' begins at the head of a row among the blocks from B on (B: the heap's size at the call), not frozen, whose first cells are the elements · 'Below B w w'': below B all is as it was. The capacity is whatever the run-time gives. 'zs': what the cells behind the slice's address hold; 'zs.take n': its elements. (LAID: no walk: one application.) -/
theorem Tryz.slices_Clone_int (b off n c : Nat) (zs : List Int) (w : World) (hz : n ≤ zs.length) (hbig : n * 8 ≤ 140737488355328) (hc : ∀ j, j < zs.length → w.cell? ⟨b, off + j, none⟩ = some (.int .i64 (zs.getD j 0))) :
    Calls Tryz.prog 138 #[.slice (some ⟨b, off, none⟩) n c] w fun e w' => ∃ v', e = .returned v' ∧ w'.ownsRow w.heap.size 3 1 v' n ((zs.take n).map (Value.int .i64)) ∧ v' ≠ .slice none 0 0 ∧ Below w.heap.size w w' := Any.slices_Clone_int Tryz.laysNm215 b off n c zs w hz hbig hc
open Go.RowKit Go.Lib in
/-- The same at nil: nil comes back; the world is as it was. (LAID: no walk: one application.) -/
theorem Tryz.slices_Clone_int_nil (n c : Nat) (w : World) :
    Calls Tryz.prog 138 #[.slice none n c] w fun e w' => e = .returned (.slice none 0 0) ∧ w' = w := Any.slices_Clone_int_nil Tryz.laysNm215 n c w
open Go.RowKit Go.Lib in
/-- The same at a slice of length 0 that is not nil, WHATEVER ITS ADDRESS (no cell is asked for): a slice that is not nil and owns nothing comes back. (LAID: no walk: one application.) -/
theorem Tryz.slices_Clone_int_zero (a : Addr) (c : Nat) (w : World) :
    Calls Tryz.prog 138 #[.slice (some a) 0 c] w fun e w' => ∃ v', e = .returned v' ∧ w'.ownsRow w.heap.size 3 1 v' 0 [] ∧ v' ≠ .slice none 0 0 ∧ Below w.heap.size w w' := Any.slices_Clone_int_zero Tryz.laysNm215 a c w
def Tryz.laysSlH6_f187_ren : Go.Shelf.Ren := ⟨fun | 6 => 187 | n => n, fun | 22 => 82 | 23 => 2 | 25 => 98 | 3 => 3 | 0 => 0 | 4 => 4 | n => n, fun | n => n⟩
theorem Tryz.laysSlH6_f187 : Go.Proofs.SlLaysH.n6 Tryz.prog Tryz.laysSlH6_f187_ren := {
  mixed := by kernel_rfl
  f6 := ⟨Tryz.f187.name, by decide, Tryz.func187.trans (congrArg some (by kernel_rfl))⟩
  t0 := Tryz.underlying0
  a0 := Tryz.isAgg0
  z0 := Tryz.sizeOf0
  v0 := Tryz.zeroValue0
  t3 := Tryz.underlying3
  a3 := Tryz.isAgg3
  z3 := Tryz.sizeOf3
  v3 := Tryz.zeroValue3
  t4 := Tryz.underlying4
  a4 := Tryz.isAgg4
  z4 := Tryz.sizeOf4
  v4 := Tryz.zeroValue4
  t22 := Tryz.underlying82
  a22 := Tryz.isAgg82
  z22 := Tryz.sizeOf82
  v22 := Tryz.zeroValue82
  a23 := Tryz.isAgg2
  z23 := Tryz.sizeOf2
  t25 := Tryz.underlying98
  a25 := Tryz.isAgg98
  z25 := Tryz.sizeOf98
  v25 := Tryz.zeroValue98 }
open Go.RowKit Go.Lib in
/-- slices.IndexFunc: "IndexFunc returns the first index i satisfying f(s[i]), or -1 if none do." (LAID AT THE INSTANCE 'slices.IndexFunc[[]int64,int64]': no walk: one application.) -/
theorem Tryz.slices_IndexFunc {α : Type} [Inhabited α] (enc : α → Value) (p : α → Bool) (g : Nat) (lb : Array Value) (eg : ∀ args w, (callFunc g args).run Tryz.prog w = .ok (.enter g args) w) (b off n c : Nat) (zs : List α) (w : World) (hp : PredAt Tryz.prog g lb enc p w) (hz : n ≤ zs.length) (hbig : n ≤ 9223372036854775807) (hc : ∀ j, j < zs.length → w.cell? ⟨b, off + j, none⟩ = some (enc zs[j]!)) :
    Calls Tryz.prog 187 #[.slice (some ⟨b, off, none⟩) n c, .func (.func g) #[] lb] w fun e w' => e = .returned (.int .i64 (Lib.idxBy (fun _ y => p y) (zs.take n) default)) ∧ ∃ q, w' = w.drewN q := AnyE.slices_IndexFunc Tryz.laysSlH6_f187 enc p g lb eg b off n c zs w hp hz hbig hc
open Go.RowKit Go.Lib in
/-- The same at a slice of length 0, a nil one too: the predicate is not called: nothing is asked of it. (LAID AT THE INSTANCE 'slices.IndexFunc[[]int64,int64]': no walk: one application.) -/
theorem Tryz.slices_IndexFunc_empty {α : Type} [Inhabited α] (a : Option Addr) (c : Nat) (fv : Value) (w : World) :
    Calls Tryz.prog 187 #[.slice a 0 c, fv] w fun e w' => e = .returned (.int .i64 (-1)) ∧ w' = w := AnyE.slices_IndexFunc_empty Tryz.laysSlH6_f187 a c fv w
def Tryz.laysSlH8_f154_ren : Go.Shelf.Ren := ⟨fun | 8 => 154 | 6 => 187 | n => n, fun | 22 => 82 | 23 => 2 | 25 => 98 | 4 => 4 | 3 => 3 | 0 => 0 | n => n, fun | n => n⟩
theorem Tryz.laysSlH8_f154 : Go.Proofs.SlLaysH.n8 Tryz.prog Tryz.laysSlH8_f154_ren := {
  mixed := by kernel_rfl
  f6 := ⟨Tryz.f187.name, by decide, Tryz.func187.trans (congrArg some (by kernel_rfl))⟩
  f8 := ⟨Tryz.f154.name, by decide, Tryz.func154.trans (congrArg some (by kernel_rfl))⟩
  t0 := Tryz.underlying0
  a0 := Tryz.isAgg0
  z0 := Tryz.sizeOf0
  v0 := Tryz.zeroValue0
  t3 := Tryz.underlying3
  a3 := Tryz.isAgg3
  z3 := Tryz.sizeOf3
  v3 := Tryz.zeroValue3
  t4 := Tryz.underlying4
  a4 := Tryz.isAgg4
  z4 := Tryz.sizeOf4
  v4 := Tryz.zeroValue4
  t22 := Tryz.underlying82
  a22 := Tryz.isAgg82
  z22 := Tryz.sizeOf82
  v22 := Tryz.zeroValue82
  a23 := Tryz.isAgg2
  z23 := Tryz.sizeOf2
  t25 := Tryz.underlying98
  a25 := Tryz.isAgg98
  z25 := Tryz.sizeOf98
  v25 := Tryz.zeroValue98 }
open Go.RowKit Go.Lib in
/-- slices.ContainsFunc: "ContainsFunc reports whether at least one element e of s satisfies f(e).": ITS CALLEE slices.IndexFunc IS MET BY ITS OWN CONTRACT. (LAID AT THE INSTANCE 'slices.ContainsFunc[[]int64,int64]': no walk: one application.) -/
theorem Tryz.slices_ContainsFunc {α : Type} [Inhabited α] (enc : α → Value) (p : α → Bool) (g : Nat) (lb : Array Value) (eg : ∀ args w, (callFunc g args).run Tryz.prog w = .ok (.enter g args) w) (b off n c : Nat) (zs : List α) (w : World) (hp : PredAt Tryz.prog g lb enc p w) (hz : n ≤ zs.length) (hbig : n ≤ 9223372036854775807) (hc : ∀ j, j < zs.length → w.cell? ⟨b, off + j, none⟩ = some (enc zs[j]!)) :
    Calls Tryz.prog 154 #[.slice (some ⟨b, off, none⟩) n c, .func (.func g) #[] lb] w fun e w' => e = .returned (.bool ((zs.take n).any p)) ∧ ∃ q, w' = w.drewN q := AnyE.slices_ContainsFunc Tryz.laysSlH8_f154 enc p g lb eg b off n c zs w hp hz hbig hc
open Go.RowKit Go.Lib in
/-- The same at a slice of length 0, a nil one too. (LAID AT THE INSTANCE 'slices.ContainsFunc[[]int64,int64]': no walk: one application.) -/
theorem Tryz.slices_ContainsFunc_empty {α : Type} [Inhabited α] (a : Option Addr) (c : Nat) (fv : Value) (w : World) :
    Calls Tryz.prog 154 #[.slice a 0 c, fv] w fun e w' => e = .returned (.bool false) ∧ w' = w := AnyE.slices_ContainsFunc_empty Tryz.laysSlH8_f154 a c fv w
def Tryz.laysRow6_ren : Go.Shelf.Ren := ⟨fun | 6 => 156 | n => n, fun | 22 => 23 | 23 => 58 | 25 => 119 | 3 => 3 | 0 => 0 | 4 => 4 | n => n, fun | n => n⟩
theorem Tryz.laysRow6 : Go.Proofs.SlLaysH0.n6 Tryz.prog Tryz.laysRow6_ren := {
  mixed := by kernel_rfl
  f6 := ⟨Tryz.f156.name, by decide, Tryz.func156.trans (congrArg some (by kernel_rfl))⟩
  t0 := Tryz.underlying0
  a0 := Tryz.isAgg0
  z0 := Tryz.sizeOf0
  v0 := Tryz.zeroValue0
  t3 := Tryz.underlying3
  a3 := Tryz.isAgg3
  z3 := Tryz.sizeOf3
  v3 := Tryz.zeroValue3
  t4 := Tryz.underlying4
  a4 := Tryz.isAgg4
  z4 := Tryz.sizeOf4
  v4 := Tryz.zeroValue4
  t22 := Tryz.underlying23
  a22 := Tryz.isAgg23
  z22 := Tryz.sizeOf23
  v22 := Tryz.zeroValue23
  t25 := Tryz.underlying119
  a25 := Tryz.isAgg119
  z25 := Tryz.sizeOf119
  v25 := Tryz.zeroValue119 }
def Tryz.laysRow8_ren : Go.Shelf.Ren := ⟨fun | 8 => 107 | 6 => 156 | n => n, fun | 22 => 23 | 23 => 58 | 25 => 119 | 4 => 4 | 3 => 3 | 0 => 0 | n => n, fun | n => n⟩
theorem Tryz.laysRow8 : Go.Proofs.SlLaysH0.n8 Tryz.prog Tryz.laysRow8_ren := {
  mixed := by kernel_rfl
  f6 := ⟨Tryz.f156.name, by decide, Tryz.func156.trans (congrArg some (by kernel_rfl))⟩
  f8 := ⟨Tryz.f107.name, by decide, Tryz.func107.trans (congrArg some (by kernel_rfl))⟩
  t0 := Tryz.underlying0
  a0 := Tryz.isAgg0
  z0 := Tryz.sizeOf0
  v0 := Tryz.zeroValue0
  t3 := Tryz.underlying3
  a3 := Tryz.isAgg3
  z3 := Tryz.sizeOf3
  v3 := Tryz.zeroValue3
  t4 := Tryz.underlying4
  a4 := Tryz.isAgg4
  z4 := Tryz.sizeOf4
  v4 := Tryz.zeroValue4
  t22 := Tryz.underlying23
  a22 := Tryz.isAgg23
  z22 := Tryz.sizeOf23
  v22 := Tryz.zeroValue23
  t25 := Tryz.underlying119
  a25 := Tryz.isAgg119
  z25 := Tryz.sizeOf119
  v25 := Tryz.zeroValue119 }
def Tryz.laysVar6_ren : Go.Shelf.Ren := ⟨fun | 6 => 134 | n => n, fun | 22 => 22 | 23 => 63 | 25 => 101 | 3 => 3 | 0 => 0 | 4 => 4 | n => n, fun | n => n⟩
theorem Tryz.laysVar6 : Go.Proofs.SlLaysH0.n6 Tryz.prog Tryz.laysVar6_ren := {
  mixed := by kernel_rfl
  f6 := ⟨Tryz.f134.name, by decide, Tryz.func134.trans (congrArg some (by kernel_rfl))⟩
  t0 := Tryz.underlying0
  a0 := Tryz.isAgg0
  z0 := Tryz.sizeOf0
  v0 := Tryz.zeroValue0
  t3 := Tryz.underlying3
  a3 := Tryz.isAgg3
  z3 := Tryz.sizeOf3
  v3 := Tryz.zeroValue3
  t4 := Tryz.underlying4
  a4 := Tryz.isAgg4
  z4 := Tryz.sizeOf4
  v4 := Tryz.zeroValue4
  t22 := Tryz.underlying22
  a22 := Tryz.isAgg22
  z22 := Tryz.sizeOf22
  v22 := Tryz.zeroValue22
  t25 := Tryz.underlying101
  a25 := Tryz.isAgg101
  z25 := Tryz.sizeOf101
  v25 := Tryz.zeroValue101 }
def Tryz.laysVar8_ren : Go.Shelf.Ren := ⟨fun | 8 => 83 | 6 => 134 | n => n, fun | 22 => 22 | 23 => 63 | 25 => 101 | 4 => 4 | 3 => 3 | 0 => 0 | n => n, fun | n => n⟩
theorem Tryz.laysVar8 : Go.Proofs.SlLaysH0.n8 Tryz.prog Tryz.laysVar8_ren := {
  mixed := by kernel_rfl
  f6 := ⟨Tryz.f134.name, by decide, Tryz.func134.trans (congrArg some (by kernel_rfl))⟩
  f8 := ⟨Tryz.f83.name, by decide, Tryz.func83.trans (congrArg some (by kernel_rfl))⟩
  t0 := Tryz.underlying0
  a0 := Tryz.isAgg0
  z0 := Tryz.sizeOf0
  v0 := Tryz.zeroValue0
  t3 := Tryz.underlying3
  a3 := Tryz.isAgg3
  z3 := Tryz.sizeOf3
  v3 := Tryz.zeroValue3
  t4 := Tryz.underlying4
  a4 := Tryz.isAgg4
  z4 := Tryz.sizeOf4
  v4 := Tryz.zeroValue4
  t22 := Tryz.underlying22
  a22 := Tryz.isAgg22
  z22 := Tryz.sizeOf22
  v22 := Tryz.zeroValue22
  t25 := Tryz.underlying101
  a25 := Tryz.isAgg101
  z25 := Tryz.sizeOf101
  v25 := Tryz.zeroValue101 }
def Tryz.laysRat6_ren : Go.Shelf.Ren := ⟨fun | 6 => 198 | n => n, fun | 22 => 32 | 23 => 31 | 25 => 106 | 3 => 3 | 0 => 0 | 4 => 4 | n => n, fun | n => n⟩
theorem Tryz.laysRat6 : Go.Proofs.SlLaysH0.n6 Tryz.prog Tryz.laysRat6_ren := {
  mixed := by kernel_rfl
  f6 := ⟨Tryz.f198.name, by decide, Tryz.func198.trans (congrArg some (by kernel_rfl))⟩
  t0 := Tryz.underlying0
  a0 := Tryz.isAgg0
  z0 := Tryz.sizeOf0
  v0 := Tryz.zeroValue0
  t3 := Tryz.underlying3
  a3 := Tryz.isAgg3
  z3 := Tryz.sizeOf3
  v3 := Tryz.zeroValue3
  t4 := Tryz.underlying4
  a4 := Tryz.isAgg4
  z4 := Tryz.sizeOf4
  v4 := Tryz.zeroValue4
  t22 := Tryz.underlying32
  a22 := Tryz.isAgg32
  z22 := Tryz.sizeOf32
  v22 := Tryz.zeroValue32
  t25 := Tryz.underlying106
  a25 := Tryz.isAgg106
  z25 := Tryz.sizeOf106
  v25 := Tryz.zeroValue106 }
def Tryz.laysRat8_ren : Go.Shelf.Ren := ⟨fun | 8 => 170 | 6 => 198 | n => n, fun | 22 => 32 | 23 => 31 | 25 => 106 | 4 => 4 | 3 => 3 | 0 => 0 | n => n, fun | n => n⟩
theorem Tryz.laysRat8 : Go.Proofs.SlLaysH0.n8 Tryz.prog Tryz.laysRat8_ren := {
  mixed := by kernel_rfl
  f6 := ⟨Tryz.f198.name, by decide, Tryz.func198.trans (congrArg some (by kernel_rfl))⟩
  f8 := ⟨Tryz.f170.name, by decide, Tryz.func170.trans (congrArg some (by kernel_rfl))⟩
  t0 := Tryz.underlying0
  a0 := Tryz.isAgg0
  z0 := Tryz.sizeOf0
  v0 := Tryz.zeroValue0
  t3 := Tryz.underlying3
  a3 := Tryz.isAgg3
  z3 := Tryz.sizeOf3
  v3 := Tryz.zeroValue3
  t4 := Tryz.underlying4
  a4 := Tryz.isAgg4
  z4 := Tryz.sizeOf4
  v4 := Tryz.zeroValue4
  t22 := Tryz.underlying32
  a22 := Tryz.isAgg32
  z22 := Tryz.sizeOf32
  v22 := Tryz.zeroValue32
  t25 := Tryz.underlying106
  a25 := Tryz.isAgg106
  z25 := Tryz.sizeOf106
  v25 := Tryz.zeroValue106 }
end Go.Proofs
/-
  Package linear: limited, validRow. Conditions: the arguments read as rows.
-/
namespace Go.Proofs.YtbgienfcmdgaaaaGreat
open Go.RowKit Go.MapKept Go.Lib
open Go.ChangeMaps (setBlock)

theorem Below.ext {w w' : World} (h : Below w.heap.size w w') : Ext (fun _ => False) w w' := ⟨h.os, h.tape, h.output, h.size, fun k hk _ => h.block k hk⟩
theorem limited1_pred (w : World) : PredAt Tryz.prog 155 #[] (fun z : Int => Value.int .i64 z) (fun z => !limB z) w := fun W z _ => by
  unfold FnGives limB
  by_cases h1 : z < -1099511627776
  · go_enter Tryz.func155, Tryz.ntmps155
    go_wp2
    go_ret
    exact ⟨ret_bool (by first | rfl | (simp; done) | (simp; omega) | omega), 0, rfl⟩
  · by_cases h2 : 1099511627776 < z
    · go_enter Tryz.func155, Tryz.ntmps155
      go_wp2
      go_ret
      exact ⟨ret_bool (by first | rfl | (simp; done) | (simp; omega) | omega), 0, rfl⟩
    · go_enter Tryz.func155, Tryz.ntmps155
      go_wp2
      go_ret
      exact ⟨ret_bool (by first | rfl | (simp; done) | (simp; omega) | omega), 0, rfl⟩
theorem any_not_all {α : Type} (f : α → Bool) : ∀ l : List α, (!l.any fun z => !f z) = l.all f
  | [] => rfl
  | a :: l => by
    rw [List.any_cons, List.all_cons, ← any_not_all f l]
    cases f a <;> cases (l.any fun z => !f z) <;> rfl
set_option maxRecDepth 100000 in
theorem limited_any (w : World) (b off c : Nat) (l : List Int) (hl : l.length ≤ 9223372036854775807) (hc : ∀ j z, l[j]? = some z → w.cell? ⟨b, off + j, none⟩ = some (.int .i64 z)) :
    Calls Tryz.prog 106 #[.slice (some ⟨b, off, none⟩) l.length c] w (BoolPost w (l.all limB)) := by
  have hq := Tryz.slices_ContainsFunc (fun z : Int => Value.int .i64 z) (fun z => !limB z) 155 #[] (enters_of Tryz.func155 (by kernel_rfl) rfl) b off l.length c l w (limited1_pred w) (Nat.le_refl _) hl (fun j hj => (by
    rw [getElem!_pos l j hj]
    exact hc j _ (List.getElem?_eq_getElem hj)))
  rw [List.take_length] at hq
  have ha := any_not_all limB l
  generalize (l.any fun z => !limB z) = x at *
  have HQ := Lib.hid hq
  have HA := Lib.hid ha
  clear hq ha hc
  generalize l.all limB = y at *
  generalize l.length = n at *
  go_enter Tryz.func106, Tryz.ntmps106
  go_wp2_with (go_at_call 154; refine HQ.out.mono ?_; rintro e w' ⟨rfl, q, rfl⟩)
  go_ret
  exact ⟨ret_bool HA.out, (Ext.refl _ w).drewN q⟩
/-! ### the name -/
theorem name1_pred (w : World) : PredAt Tryz.prog 158 #[] encR (fun r => decide (r < 32) || decide (126 < r)) w := fun W z _ => by
  unfold FnGives
  show Calls Tryz.prog 158 #[.int .i32 (z : Int)] W _
  by_cases h1 : z < 32
  · have h1' : (z : Int) < 32 := by omega
    go_enter Tryz.func158, Tryz.ntmps158
    go_wp2
    go_ret
    exact ⟨ret_bool (by first | rfl | (simp; done) | (simp; omega) | omega), 0, rfl⟩
  · have h1' : ¬ (z : Int) < 32 := by omega
    by_cases h2 : 126 < z
    · have h2' : (126 : Int) < z := by omega
      go_enter Tryz.func158, Tryz.ntmps158
      go_wp2
      go_ret
      exact ⟨ret_bool (by first | rfl | (simp; done) | (simp; omega) | omega), 0, rfl⟩
    · have h2' : ¬ (126 : Int) < z := by omega
      go_enter Tryz.func158, Tryz.ntmps158
      go_wp2
      go_ret
      exact ⟨ret_bool (by first | rfl | (simp; done) | (simp; omega) | omega), 0, rfl⟩
def badR (r : Nat) : Bool := decide (r < 32) || decide (126 < r)
theorem idx_bad (s : ByteArray) : ∀ (f pos : Nat), s.size ≤ pos + f → (0 ≤ idxFuncFrom badR true s f pos ↔ ∃ i, pos ≤ i ∧ ∃ h : i < s.size, badR (s[i]'h).toNat = true)
  | 0, pos, h => by
    unfold idxFuncFrom
    constructor
    · intro h1; omega
    · rintro ⟨i, h1, h2, _⟩; omega
  | f + 1, pos, h => by
    unfold idxFuncFrom
    by_cases hp : pos < s.size
    · rw [if_pos hp]
      by_cases ha : (s[pos]'hp).toNat < 128
      · rw [decode_ascii s pos hp ha]
        by_cases hb : badR (s[pos]'hp).toNat = true
        · rw [if_pos hb]
          exact ⟨fun _ => ⟨pos, Nat.le_refl _, hp, hb⟩, fun _ => by omega⟩
        · rw [if_neg hb, idx_bad s f (pos + 1) (by omega)]
          constructor
          · rintro ⟨i, h1, h2⟩; exact ⟨i, by omega, h2⟩
          · rintro ⟨i, h1, h2, h3⟩
            refine ⟨i, ?_, h2, h3⟩
            rcases Nat.lt_or_ge pos i with h4 | h4
            · omega
            · obtain rfl : i = pos := by omega
              exact absurd h3 hb
      · have hd := (decode_high s pos hp (by omega)).1
        have hb : badR (Utf8.decode s pos).1 = true := by unfold badR; rw [decide_eq_true (p := (126 < _)) (by omega)]; simp
        rw [if_pos hb]
        refine ⟨fun _ => ⟨pos, Nat.le_refl _, hp, ?_⟩, fun _ => by omega⟩
        unfold badR
        rw [decide_eq_true (p := (126 < (s[pos]'hp).toNat)) (by omega)]; simp
    · rw [if_neg hp]
      constructor
      · intro h1; omega
      · rintro ⟨i, h1, h2, _⟩; omega
theorem name_idx (s : ByteArray) : (!decide (0 ≤ idxFunc badR true s)) = nameB s := by
  have h := idx_bad s s.size 0 (by omega)
  have hl : s.toList = s.data.toList := ByteArray.toList_eq s
  cases hq : nameB s with
  | true =>
    rw [decide_eq_false]; rfl
    intro h0
    obtain ⟨i, _, hi, hb⟩ := h.1 h0
    unfold nameB at hq
    rw [hl, List.all_eq_true] at hq
    have := hq (s[i]'hi) (by
      show s.data[i] ∈ s.data.toList
      simp)
    unfold badR at hb
    simp only [Bool.and_eq_true, Bool.or_eq_true, decide_eq_true_eq] at this hb
    omega
  | false =>
    rw [decide_eq_true]; rfl
    refine h.2 ?_
    unfold nameB at hq
    rw [hl, List.all_eq_false] at hq
    obtain ⟨x, hx, hb⟩ := hq
    obtain ⟨i, hi, rfl⟩ := List.getElem_of_mem hx
    have hi' : i < s.size := by rw [Array.length_toList] at hi; exact hi
    refine ⟨i, Nat.zero_le _, hi', ?_⟩
    unfold badR
    simp only [Bool.and_eq_true, decide_eq_true_eq, Bool.or_eq_true] at hb ⊢
    have e : s[i]'hi' = s.data.toList[i] := by
      show s.data[i] = _
      rw [Array.getElem_toList]
    rw [e]
    omega
end Go.Proofs.YtbgienfcmdgaaaaGreat
/-
  Package linear: validRow, Valid. Conditions: the arguments read as rows, programs.
-/
namespace Go.Proofs.YtbgienfcmdgaaaaGreat
open Go.RowKit Go.MapKept Go.Lib
open Go.ChangeMaps (setBlock)

theorem limited_one (w : World) (z : Int) (c : Nat) : Calls Tryz.prog 106 #[.slice (some ⟨w.heap.size, 0, none⟩) 1 c] (w.alloc (.cells #[.int .i64 z] 2)) (BoolPost (w.alloc (.cells #[.int .i64 z] 2)) (limB z)) := by
  have h := limited_any (w.alloc (.cells #[.int .i64 z] 2)) w.heap.size 0 c [z] (by simp) (fun j u hj => by
    have := cells_new (w := w) [Value.int .i64 z] 2 rfl j (.int .i64 u) (by
      match j, hj with
      | 0, hj => cases hj; rfl
      | j + 1, hj => simp at hj)
    simpa [Addr.add_lit] using this)
  simpa using h
theorem name_any (w : World) (s : ByteArray) : Calls Tryz.prog 157 #[.string s, .func (.func 158) #[] #[]] w fun r w' => r = .returned (.bool (!nameB s)) ∧ Ext (fun _ => False) w w' := by
  refine (Tryz.strings_ContainsFunc 158 #[] (enters_of Tryz.func158 (by kernel_rfl) rfl) _ s w (name1_pred w)).mono ?_
  rintro r w' ⟨rfl, hb⟩
  refine ⟨ret_bool ?_, Below.ext hb⟩
  have := name_idx s
  unfold badR at this
  rw [← this, Bool.not_not]
theorem termsB_cons (n last : Int) (t : TermV) (l : List TermV) : termsB n last (t :: l) = (decide (last < t.var) && decide (t.var < n) && !decide (t.coef = 0) && limB t.coef && termsB n t.var l) := rfl
set_option maxRecDepth 100000 in
set_option maxHeartbeats 8000000 in
theorem validRow_any (w : World) (vars : Nat) (hv : vars ≤ 9223372036854775807) (r : RowV) (ta : Option Addr) (tc : Nat) (hok : RowOk r) (ht : Tms w (.slice ta r.terms.length tc) r.terms) :
    Calls Tryz.prog 109 #[.int .i64 vars, .agg #[.string r.name, .int .i64 r.group, .int .i64 r.kind, .slice ta r.terms.length tc, .int .i64 r.bound]] w (BoolPost w (rowB vars r)) := by
  have hns : r.name.size ≤ 9223372036854775807 := by have := hok.name; unfold maxLen at this; omega
  have hg := hok.group
  have hk := hok.kind
  unfold InR at hg hk
  obtain ⟨-, -, -, -, htn, -⟩ := ht.shape
  have HT := Lib.hid ht
  have HR := Lib.hid (show rowB vars r = (decide (0 ≤ r.kind) && decide (r.kind ≤ 2) && decide (0 ≤ r.group) && decide (r.group ≤ 60) && decide (r.name.size ≤ 80) && limB r.bound && nameB r.name && termsB vars (-1) r.terms) from rfl)
  have hb1 := blk_alloc_at w (.cells #[.string r.name, .int .i64 r.group, .int .i64 r.kind, .slice ta r.terms.length tc, .int .i64 r.bound] 58)
  have hx1 := (Ext.refl (fun _ => False) w).alloc (.cells #[.string r.name, .int .i64 r.group, .int .i64 r.kind, .slice ta r.terms.length tc, .int .i64 r.bound] 58)
  have HB := Lib.hid (And.intro hb1 hx1)
  clear ht hok hb1 hx1
  obtain ⟨tl, htl⟩ : ∃ tl, r.terms.length = tl := ⟨_, rfl⟩
  have HTL := Lib.hid htl
  rw [htl] at htn HT HB ⊢
  clear htl
  obtain ⟨gr, hgr⟩ : ∃ gr, r.group = gr := ⟨_, rfl⟩
  rw [hgr] at hg HR HB ⊢
  clear hgr
  obtain ⟨kd, hkd⟩ : ∃ kd, r.kind = kd := ⟨_, rfl⟩
  rw [hkd] at hk HR HB ⊢
  clear hkd
  obtain ⟨bd, hbd⟩ : ∃ bd, r.bound = bd := ⟨_, rfl⟩
  rw [hbd] at HR HB ⊢
  clear hbd
  obtain ⟨nm, hnm⟩ : ∃ nm, r.name = nm := ⟨_, rfl⟩
  rw [hnm] at hns HR HB ⊢
  clear hnm
  go_enter Tryz.func109, Tryz.ntmps109
  go_upto_region 1 with fail
  generalize hw1 : w.alloc (.cells #[.string nm, .int .i64 gr, .int .i64 kd, .slice ta tl tc, .int .i64 bd] 58) = w1 at *
  clear hw1
  obtain ⟨rb, hrb⟩ : ∃ rb, w.heap.size = rb := ⟨_, rfl⟩
  rw [hrb] at HB ⊢
  clear hrb
  have e0 := cellq HB.out.1 0 rfl
  have e1 := cellq HB.out.1 1 rfl
  have e2 := cellq HB.out.1 2 rfl
  have e3 := cellq HB.out.1 3 rfl
  have e4 := cellq HB.out.1 4 rfl
  by_cases c1 : 80 < nm.size
  · have c1' : (80 : Int) < (nm.size : Int) := by omega
    go_wp2
    go_ret
    exact ⟨ret_bool (by rw [HR.out, decide_eq_false (p := (nm.size ≤ 80)) (by omega)]; simp), HB.out.2⟩
  have c1' : ¬ (80 : Int) < (nm.size : Int) := by omega
  by_cases c2 : gr < 0
  · go_wp2
    go_ret
    exact ⟨ret_bool (by rw [HR.out, decide_eq_false (p := (0 ≤ gr)) (by omega)]; simp), HB.out.2⟩
  by_cases c3 : 60 < gr
  · go_wp2
    go_ret
    exact ⟨ret_bool (by rw [HR.out, decide_eq_false (p := (gr ≤ 60)) (by omega)]; simp), HB.out.2⟩
  by_cases c4 : kd < 0
  · go_wp2
    go_ret
    exact ⟨ret_bool (by rw [HR.out, decide_eq_false (p := (0 ≤ kd)) (by omega)]; simp), HB.out.2⟩
  by_cases c5 : 2 < kd
  · go_wp2
    go_ret
    exact ⟨ret_bool (by rw [HR.out, decide_eq_false (p := (kd ≤ 2)) (by omega)]; simp), HB.out.2⟩
  have HL := Lib.hid (fun W (z : Int) c => limited_one W z c)
  have HN := Lib.hid (fun W => name_any W nm)
  have HR2 : Hid (rowB vars r = (limB bd && nameB nm && termsB vars (-1) r.terms)) := Lib.hid (by
    rw [HR.out, decide_eq_true (p := (0 ≤ kd)) (by omega), decide_eq_true (p := (kd ≤ 2)) (by omega), decide_eq_true (p := (0 ≤ gr)) (by omega), decide_eq_true (p := (gr ≤ 60)) (by omega), decide_eq_true (p := (nm.size ≤ 80)) (by omega)]
    simp)
  clear HR
  go_wp2_with fail
  refine (HL.out w1 bd _).mono ?_
  rintro r2 w2 ⟨rfl, hx2⟩
  have hx12 := ((Ext.refl (fun _ => False) w1).alloc (.cells #[.int .i64 bd] 2)).trans hx2
  have HB2 := Lib.hid (And.intro (blk_keep HB.out.1 hx12) (HB.out.2.trans hx12))
  clear hx2 hx12 HB e0 e1 e2 e3 e4
  cases hlb : limB bd with
  | false =>
    rw [hlb] at HR2
    clear hlb
    go_wp2
    go_ret
    exact ⟨ret_bool (by rw [HR2.out]; rfl), HB2.out.2⟩
  | true =>
    rw [hlb] at HR2
    clear hlb
    have e3 := cellq HB2.out.1 3 rfl
    go_wp2_with fail
    go_loopg [42, 5] tl (fun gg v42 v5 wr => ∃ (k : Nat) (la : Int), k ≤ tl ∧ gg = tl - k ∧ v42 = .int .i64 k ∧ v5 = .int .i64 la ∧ -9223372036854775808 ≤ la ∧ la ≤ 9223372036854775807 ∧ termsB vars (-1) r.terms = termsB vars la (r.terms.drop k) ∧ Ext (fun _ => False) w2 wr)
    case atStart => exact ⟨0, -1, Nat.zero_le _, rfl, rfl, rfl, by omega, by omega, rfl, Ext.refl _ _⟩
    case round =>
      clear e3
      obtain ⟨k, la, hk, rfl, rfl, rfl, hla0, hla1, heq, hx⟩ := hrel
      have HX := Lib.hid (And.intro heq hx)
      clear heq hx
      by_cases hin : k < tl
      · have i0 : (k : Int) < (tl : Int) := by omega
        have hkl : k < r.terms.length := by rw [HTL.out]; exact hin
        have hdr : r.terms.drop k = r.t k :: r.terms.drop (k + 1) := by
          rw [List.drop_eq_getElem_cons hkl, r.t_at hkl]
        have HD := Lib.hid (HX.out.1.trans (by rw [hdr, termsB_cons]))
        obtain ⟨b, off, rfl, -, e0, e1, htok⟩ := (HT.out.keep (HB2.out.2.trans HX.out.2)).atr k hkl
        have hva := htok.var
        have hco := htok.coef
        unfold InR at hva hco
        clear hdr hkl htok
        obtain ⟨tv, htv⟩ : ∃ tv, (r.t k).var = tv := ⟨_, rfl⟩
        obtain ⟨co, hco'⟩ : ∃ co, (r.t k).coef = co := ⟨_, rfl⟩
        rw [htv] at e0 HD hva
        rw [hco'] at e1 HD hco
        clear htv hco'
        have hb3 := blk_alloc_at wr (.cells #[.int .i64 tv, .int .i64 co] 76)
        have hx3 := (Ext.refl (fun _ => False) wr).alloc (.cells #[.int .i64 tv, .int .i64 co] 76)
        have HB3 := Lib.hid (And.intro hb3 hx3)
        clear hb3 hx3
        go_upto_region 7 with fail
        generalize hw3 : wr.alloc (.cells #[.int .i64 tv, .int .i64 co] 76) = w3 at *
        clear hw3
        obtain ⟨tb, htb⟩ : ∃ tb, wr.heap.size = tb := ⟨_, rfl⟩
        rw [htb] at HB3 ⊢
        clear htb e0 e1
        obtain ⟨x0, x1⟩ : w3.cell? ⟨tb, 0, none⟩ = some (.int .i64 tv) ∧ w3.cell? ⟨tb, 1, none⟩ = some (.int .i64 co) := ⟨cellq HB3.out.1 0 rfl, cellq HB3.out.1 1 rfl⟩
        have HE := Lib.hid ((HB2.out.2.trans HX.out.2).trans HB3.out.2)
        by_cases t1 : tv ≤ la
        · go_wp2
          go_ret
          exact ⟨ret_bool (by rw [HR2.out, HD.out, decide_eq_false (p := (la < tv)) (by omega)]; simp), HE.out⟩
        by_cases t2 : (vars : Int) ≤ tv
        · go_wp2
          go_ret
          exact ⟨ret_bool (by rw [HR2.out, HD.out, decide_eq_false (p := (tv < (vars : Int))) (by omega)]; simp), HE.out⟩
        by_cases t3 : co = 0
        · have t3' : (co == 0) = true := by simpa using t3
          subst t3
          go_wp2
          go_ret
          exact ⟨ret_bool (by rw [HR2.out, HD.out]; simp), HE.out⟩
        have t3' : (co == 0) = false := by simpa using t3
        have HD2 : Hid (termsB vars (-1) r.terms = (limB co && termsB vars tv (r.terms.drop (k + 1)))) := Lib.hid (by
          rw [HD.out, decide_eq_true (p := (la < tv)) (by omega), decide_eq_true (p := (tv < (vars : Int))) (by omega), decide_eq_false t3]; simp)
        clear HD
        go_wp2_with fail
        refine (HL.out w3 co _).mono ?_
        rintro r4 w4 ⟨rfl, hx4⟩
        have hx34 := ((Ext.refl (fun _ => False) w3).alloc (.cells #[.int .i64 co] 2)).trans hx4
        have HX4 := Lib.hid ((HX.out.2.trans HB3.out.2).trans hx34)
        have y0 := cell_keep x0 hx34
        clear hx4 hx34 x0 x1 HE
        cases hlc : limB co with
        | false =>
          rw [hlc] at HD2
          clear hlc
          go_wp2
          go_ret
          exact ⟨ret_bool (by rw [HR2.out, HD2.out]; simp), HB2.out.2.trans HX4.out⟩
        | true =>
          rw [hlc] at HD2
          clear hlc
          go_wp2
          go_roundg (tl - (k + 1))
          case measure => omega
          case rel => exact ⟨k + 1, tv, by omega, rfl, by go_num, rfl, by omega, by omega, by rw [HD2.out]; simp, HX4.out⟩
      · obtain rfl : k = tl := by omega
        have HF : Hid (termsB vars (-1) r.terms = true) := Lib.hid (by
          rw [HX.out.1, List.drop_of_length_le (by rw [HTL.out]; exact Nat.le_refl _)]; rfl)
        have e0 := cell_keep (cellq HB2.out.1 0 rfl) HX.out.2
        go_wp2_with fail
        refine (HN.out wr).mono ?_
        rintro r4 w4 ⟨rfl, hx4⟩
        have HX4 := Lib.hid ((HB2.out.2.trans HX.out.2).trans hx4)
        clear hx4 e0
        go_wp2
        go_ret
        exact ⟨ret_bool (by rw [HR2.out, HF.out]; simp), HX4.out⟩
end Go.Proofs.YtbgienfcmdgaaaaGreat
