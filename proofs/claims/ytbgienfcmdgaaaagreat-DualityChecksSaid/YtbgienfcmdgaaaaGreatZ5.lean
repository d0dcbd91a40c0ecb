/-
  Package exodusref01: Bit, DivMod. Conditions: the arguments read as digits, lengths bounded, the divisor is not 0.
-/
import Derived.Test.YtbgienfcmdgaaaaGreatZ4
import Derived.Laws.BitsAllLaws
set_option linter.unusedVariables false
namespace Go.Proofs.YtbgienfcmdgaaaaGreat
open Go.RowKit Go.MapKept
open Go.ChangeMaps (setBlock)

theorem and_one_u32 {x : Nat} (h : x < 4294967296) : bits BinOp.and .u32 (x : Int) 1 = ((x % 2 : Nat) : Int) := by
  have := u32_and_nat x 1 h (by decide)
  rw [Nat.and_one_is_mod] at this
  exact this
set_option maxRecDepth 100000 in
set_option maxHeartbeats 1000000 in
theorem Bit_any (w : World) (v : Value) (l : List Nat) (h : Rds w v l) (i : Nat) (hi : i < 32 * l.length) (hl : l.length ≤ 268435455) : Calls Tryz.prog 168 #[v, .int .i64 i] w fun r w' => r = .returned (.int .u32 (vl l / 2 ^ i % 2 : Nat)) ∧ w' = w := by
  obtain ⟨ao, c, rfl, _⟩ := id h.2
  obtain ⟨m, hm⟩ : ∃ m, l.length = m := ⟨_, rfl⟩
  obtain ⟨b, off, rfl, _⟩ := h.base (by omega)
  have ht : i / 32 < l.length := by omega
  have c0 := h.at.2 (i / 32) ht
  have hb := bit_at h.1 i
  have hdl := dgt_lt h.1 (i / 32)
  rw [← hb]
  rw [hm] at h ht hi hl ⊢
  have hs : i % 32 < 32 := Nat.mod_lt _ (by omega)
  have t1 : (i : Int).tdiv 32 = ((i / 32 : Nat) : Int) := rfl
  have t2 : (i : Int).tmod 32 = ((i % 32 : Nat) : Int) := rfl
  obtain ⟨t, hte⟩ : ∃ t, i / 32 = t := ⟨_, rfl⟩
  obtain ⟨s, hse⟩ : ∃ s, i % 32 = s := ⟨_, rfl⟩
  rw [hte] at t1 c0 ht hdl ⊢
  rw [hse] at t2 hs ⊢
  generalize dgt l t = d at *
  have w1 : IntKind.i64.wrap (t : Int) = t := IntWalk.i64_in _ (by omega)
  have e1 : (t : Int) < (m : Int) := by omega
  have e2 : (0 : Int) ≤ (t : Int) := by omega
  have e3 : (0 : Int) ≤ (s : Int) := by omega
  have hq : d / 2 ^ s < 4294967296 := Nat.lt_of_le_of_lt (Nat.div_le_self _ _) hdl
  have q1 : (d : Int) / 2 ^ s = ((d / 2 ^ s : Nat) : Int) := by rw [Int.natCast_ediv, Int.natCast_pow]; rfl
  obtain ⟨f, hf⟩ : ∃ f, d / 2 ^ s = f := ⟨_, rfl⟩
  rw [hf] at q1 hq ⊢
  have q2 := and_one_u32 hq
  obtain ⟨g, hg⟩ : ∃ g, f % 2 = g := ⟨_, rfl⟩
  rw [hg] at q2 ⊢
  have e4 : (s : Int) ≤ 64 := by omega
  clear hf hg
  clear h hb hte hse hq
  go_enter Tryz.func168, Tryz.ntmps168
  go_wp2
  go_ret
  exact ⟨rfl, rfl⟩
def RDivPost (w : World) (x y : Nat) (r : Ending) (w' : World) : Prop := ∃ v1 v2, r = .returned (.tuple #[v1, v2, .int .i64 0]) ∧ IsNat w' v1 (x / y) ∧ IsNat w' v2 (x % y) ∧ Ext (fun _ => False) w w'
theorem Rds.apart {S : Nat → Prop} {w w' : World} {v : Value} {l : List Nat} (h : Rds w v l) (hx : Ext S w w') (hn : ∀ g, v.ownBlock = some g → ¬ S g) : Rds w' v l := by
  obtain ⟨h0, ao, c, rfl, h1, h2, h3, h4⟩ := h
  refine ⟨h0, ao, c, rfl, h1, h2, h3, fun hp => ?_⟩
  obtain ⟨b, off, rfl, hbl, hc⟩ := h4 hp
  have hb := hn b rfl
  exact ⟨b, off, rfl, Nat.lt_of_lt_of_le hbl hx.size, fun i d hi => (hx.cell (p := ⟨b, off + i, none⟩) hbl hb).trans (hc i d hi)⟩
theorem Rds.old {w : World} {v : Value} {l : List Nat} (h : Rds w v l) : 0 < l.length → ∀ g, v.ownBlock = some g → g < w.heap.size := by
  obtain ⟨h0, ao, c, rfl, h1, h2, h3, h4⟩ := h
  intro hp g e
  obtain ⟨b, off, rfl, hbl, hc⟩ := h4 hp
  cases e; exact hbl
set_option maxRecDepth 100000 in
set_option maxHeartbeats 8000000 in
theorem Rdivmod_any (w : World) (va vb : Value) (a b : List Nat) (ha : Rds w va a) (hb : Rds w vb b) (hal : a.length ≤ 134217727) (hbl : b.length ≤ 134217727) (hy : ¬ vl b = 0) :
    Calls Tryz.prog 129 #[va, vb] w (RDivPost w (vl a) (vl b)) := by
  have HT := Lib.hid (Trim_any w vb b hb (by omega))
  have hyl := trimL_length b hb.1
  unfold trimL at hyl
  generalize vl b = y at *
  have hy0 : 0 < y := Nat.pos_of_ne_zero hy
  obtain ⟨m, hm⟩ : ∃ m, a.length = m := ⟨_, rfl⟩
  obtain ⟨k, hk⟩ : ∃ k, (dg y).length = k := ⟨_, rfl⟩
  have hN : vl a < 4294967296 ^ m := by have := vl_lt ha.1; rwa [hm] at this
  have hkl : k ≤ 134217727 := by omega
  have hk0 : ¬ (k : Int) = 0 := by
    intro h
    exact hy (dg_eq_nil.1 (List.eq_nil_of_length_eq_zero (by omega)))
  have hkb : ((k : Int) == 0) = false := by simpa using hk0
  obtain ⟨ao, ac, rfl, _⟩ := id ha.2
  rw [hm] at ha hal ⊢
  have Ha := Lib.hid ha
  have Hm := Lib.hid (And.intro hm hk)
  have HN := Lib.hid (BitSt.start (y := y) hN)
  have Hbit := Lib.hid (fun W (hW : Ext (fun _ => False) w W) i (hi : i < 32 * m) => Bit_any W _ a (ha.keep hW) i (by rw [hm]; exact hi) (by omega))
  clear ha hb hbl hyl hm hk hN
  generalize vl a = N at *
  go_enter Tryz.func129, Tryz.ntmps129
  go_wp2_with fail
  refine HT.out.mono ?_
  rintro r w1 ⟨v1, rfl, h1, hx1⟩
  have h1' := h1
  obtain ⟨bo, bc, rfl⟩ := h1'.shape
  rw [Hm.out.2] at h1 h1' ⊢
  obtain ⟨w2, hmk, hQ, hxq⟩ := run_make_nat w1 m (by omega)
  obtain ⟨Q, hQe⟩ : ∃ Q, w1.heap.size = Q := ⟨_, rfl⟩
  rw [hQe] at hmk hQ
  have hQl := hQ.lt
  have hx3 : Ext (fun _ => False) w2 (w2.alloc (.cells #[] 127)) := (Ext.refl _ w2).alloc _
  have hw1 := hx1.size
  have HI := Lib.hid (And.intro (hQ.ext hx3) (And.intro ((own_empty (blk_alloc_at w2 (.cells #[] 127)) 0 (Nat.zero_le _)).rds Dig.nil) (hxq.trans hx3)))
  have H1 := Lib.hid (And.intro h1 hx1)
  clear h1 h1' hx1 hQ hxq hx3 HT
  have hb32 : (32 : Int) * m - 1 = (32 * m : Nat) - 1 := by omega
  go_wp2_with fail
  go_loopg [8, 9] (32 * m) (fun g v8 v9 wr => ∃ (j : Nat) (q : List Nat) (R : Nat), j ≤ 32 * m ∧ g = j ∧ v9 = .int .i64 ((j : Int) - 1) ∧ BitSt N y m j q R ∧ Arr wr Q q ∧ IsNat wr v8 R ∧ (∀ g, v8.ownBlock = some g → Q < g) ∧ Ext (fun _ => False) w1 wr)
  case atStart =>
    refine ⟨32 * m, _, 0, Nat.le_refl _, rfl, by go_num, HN.out, HI.out.1, ?_, ?_, HI.out.2.2⟩
    · unfold IsNat; rw [dg_zero]; exact HI.out.2.1
    · intro g e; cases e; omega
  case round =>
    rename_i v8
    obtain ⟨j, q, R, hj, hg, rfl, hst, hAq, hR, hRo, hx⟩ := hrel
    obtain rfl := hg.symm
    clear HN HI hmk
    obtain ⟨aoR, capR, rfl⟩ := hR.shape
    by_cases h0 : j = 0
    · subst h0
      obtain ⟨hq, hr⟩ := hst.done
      have hqr := hAq.rds hst.dig (by rw [hst.len]; omega)
      rw [hst.len] at hqr
      have hT := Trim_any wr _ q hqr (by rw [hst.len]; omega)
      rw [hq] at hT
      rw [hr] at hR
      have HT := Lib.hid hT
      have HRr := Lib.hid hR
      have Hx := Lib.hid (H1.out.2.trans hx)
      have p0 : ((0 : Nat) : Int) - 1 = -1 := by omega
      rw [p0]
      rw [hr]
      clear hst hAq hR hRo hx hq hr hqr hT p0
      generalize (dg (N % y)).length = lr at *
      go_wp2_with fail
      refine HT.out.mono ?_
      rintro r6 w6 ⟨v6, rfl, h6, hx6⟩
      have HP : Hid (RDivPost w N y (.returned (.tuple #[v6, .slice aoR lr capR, .int .i64 0])) w6) := Lib.hid ⟨v6, _, rfl, h6, HRr.out.keep hx6, Hx.out.trans hx6⟩
      clear h6 hx6
      go_wp2
      go_ret3
      exact HP.out
    · obtain ⟨i, rfl⟩ : ∃ i, j = i + 1 := ⟨j - 1, by omega⟩
      have p1 : ((i + 1 : Nat) : Int) - 1 = i := by omega
      rw [p1]
      have hRy : R < y := by rw [hst.rest]; exact Nat.mod_lt _ hy0
      have hRl : (dg R).length ≤ k := by have := dg_mono (Nat.le_of_lt hRy); rw [Hm.out.2] at this; exact this
      have hA1 := Radd_new wr _ _ _ _ hR hR (by omega) (by omega)
      rw [vl_dg] at hA1
      obtain ⟨lR, hlR⟩ : ∃ lR, (dg R).length = lR := ⟨_, rfl⟩
      rw [hlR] at hA1 ⊢
      have hbl : N / 2 ^ i % 2 < 2 := Nat.mod_lt _ (by omega)
      have hkeep := fun h => hst.keep hy0 h
      have hturn := fun h => hst.turn hy0 (by omega) h
      have hBt := Hbit.out
      have hlen2 : (dg (R + R)).length ≤ k + 1 := by
        have h3 := Nat.lt_of_lt_of_le (dg_lt R) (pow_mono hRl)
        have := dg_len_add h3 h3
        omega
      generalize hbe : N / 2 ^ i % 2 = bt at *
      have HA1 := Lib.hid hA1
      have HS := Lib.hid (And.intro hAq (And.intro hx (And.intro hst.dig hst.len)))
      have HK := Lib.hid (And.intro hkeep hturn)
      have HL2 := Lib.hid hlen2
      have hRk := Lib.hid hRo
      clear hst hAq hR hRo hx hRl hA1 hkeep hturn hBt hlR hlen2
      go_wp2_with fail
      refine HA1.out.mono ?_
      rintro r3 w3 ⟨v3, rfl, h3, hx3, hg3⟩
      have hBt := Hbit.out w3 (H1.out.2.trans (HS.out.2.1.trans hx3)) i (by omega)
      rw [hbe] at hBt
      have HBt := Lib.hid hBt
      have H3 := Lib.hid (And.intro h3 hx3)
      obtain ⟨ao3, c3, rfl⟩ := h3.shape
      clear h3 hx3 hg3 hBt HA1 hbe
      go_wp2_with fail
      refine HBt.out.mono ?_
      rintro r4 w' ⟨rfl, hw⟩; obtain rfl := hw.symm
      clear hw HBt
      have hx4 : Ext (fun _ => False) w3 (w3.alloc (.cells #[.int .u32 (bt : Nat)] 127)) := (Ext.refl _ w3).alloc _
      have hr4 : Rds (w3.alloc (.cells #[.int .u32 (bt : Nat)] 127)) (.slice (some ⟨w3.heap.size, 0, none⟩) 1 1) [bt] := by
        refine ⟨Dig.cons (by omega) Dig.nil, _, 1, rfl, Nat.le_refl _, by unfold maxLen; omega, fun h => (by cases h), fun _ => ⟨_, 0, rfl, by simp, fun i d hi => ?_⟩⟩
        have := cells_new (w := w3) [.int .u32 (bt : Nat)] 127 rfl i (dv d) (by
          match i, hi with
          | 0, hi => simp at hi ⊢; subst hi; rfl
          | i + 1, hi => simp at hi)
        rwa [Addr.add_lit] at this
      have hA2 := Radd_new _ _ _ _ _ (H3.out.1.keep hx4) hr4 (by have := HL2.out; omega) (by simp)
      rw [vl_dg, show vl [bt] = bt by simp [vl]] at hA2
      have HA2 := Lib.hid hA2
      have HX4 := Lib.hid (H3.out.2.trans hx4)
      generalize (dg (R + R)).length = lRR at *
      clear hx4 hr4 hA2 H3
      go_wp2_with fail
      refine HA2.out.mono ?_
      rintro r5 w5 ⟨v5, rfl, h5, hx5, hg5⟩
      have HX5 := Lib.hid ((HS.out.2.1.trans HX4.out).trans hx5)
      have hA5 := HS.out.1.ext (HX4.out.trans hx5)
      have hQ5 : ∀ g, v5.ownBlock = some g → Q < g := fun g e => by
        have h1 := hg5 g e
        have h2 := HX4.out.size
        have h3 := HS.out.1.lt
        omega
      obtain ⟨ao5, c5, rfl⟩ := h5.shape
      obtain ⟨T, hT⟩ : ∃ T, R + R + bt = T := ⟨_, rfl⟩
      rw [hT] at h5 HK hQ5 ⊢
      have hTl : (dg T).length ≤ k + 1 := by
        have h1 := Nat.lt_of_lt_of_le (dg_lt y) (pow_mono (Nat.le_of_eq Hm.out.2))
        refine dg_length_le ?_
        rw [pow_next]
        omega
      have hC := Rcmp_any w5 _ _ _ _ h5 (H1.out.1.keep HX5.out) (by omega) (by have := Hm.out.2; omega)
      rw [vl_dg, vl_dg] at hC
      have hD := fun W (hW : Ext (fun _ => False) w5 W) (h : y ≤ T) => Rsub_any W _ _ _ _ (Rds.keep h5 hW) (Rds.keep H1.out.1 (HX5.out.trans hW)) (by omega) (by have := Hm.out.2; omega) (by rw [vl_dg, vl_dg]; exact h)
      rw [vl_dg, vl_dg] at hD
      obtain ⟨lT, hlT⟩ : ∃ lT, (dg T).length = lT := ⟨_, rfl⟩
      rw [hlT] at hC hD ⊢ h5 hQ5
      have HC := Lib.hid hC
      have HD := Lib.hid hD
      have H5 := Lib.hid (And.intro h5 (And.intro hQ5 hA5))
      clear hA5 h5 hx5 hg5 hC hD hT hlT HA2 HX4 hQ5
      by_cases hTy : T < y
      · have e : cmpN T y = -1 := by unfold cmpN; rw [if_pos hTy]
        rw [e] at HC
        have HKK := Lib.hid (HK.out.1 hTy)
        clear e HK HD hTy
        go_wp2_with fail
        refine HC.out.mono ?_
        rintro r6 w6 ⟨rfl, hx6⟩
        have HF : Hid (Arr w6 Q q ∧ IsNat w6 (.slice ao5 lT c5) T ∧ Ext (fun _ => False) w1 w6) := Lib.hid ⟨H5.out.2.2.ext hx6, H5.out.1.keep hx6, HX5.out.trans hx6⟩
        clear hx6
        go_wp2
        go_roundg i
        case measure => omega
        case rel => exact ⟨i, q, T, by omega, rfl, by go_num, HKK.out, HF.out.1, HF.out.2.1, H5.out.2.1, HF.out.2.2⟩
      · have e : ¬ cmpN T y < 0 := by unfold cmpN; rw [if_neg hTy]; split <;> omega
        have e' : 0 ≤ cmpN T y := by omega
        generalize cmpN T y = cq at *
        have HKK := Lib.hid (HK.out.2 (by omega))
        have HTy := Lib.hid hTy
        clear e HK hTy
        go_wp2_with fail
        refine HC.out.mono ?_
        rintro r6 w6 ⟨rfl, hx6⟩
        have HD6 := Lib.hid (HD.out w6 hx6 (by have := HTy.out; omega))
        have HF := Lib.hid (And.intro (H5.out.2.2.ext hx6) (HX5.out.trans hx6))
        have hsz := HX5.out.size
        have hsz6 := hx6.size
        have hQs := H5.out.2.2.lt
        clear hx6 HC HD
        go_wp2_with fail
        refine HD6.out.mono ?_
        rintro r7 w7 ⟨v7, rfl, h7, hx7, hg7⟩
        have hA7 := HF.out.1.ext hx7
        have hQ7 : ∀ g, v7.ownBlock = some g → Q < g := fun g e => by
          have h1 := hg7 g e
          omega
        obtain ⟨ao7, c7, rfl⟩ := h7.shape
        have hs32 : i % 32 < 32 := Nat.mod_lt _ (by omega)
        have htm : i / 32 < m := by omega
        have hlq := HS.out.2.2.2
        have cq0 := hA7.cell (i / 32) (by omega)
        have f0 := hA7.free (i / 32)
        have hdl := dgt_lt HS.out.2.2.1 (i / 32)
        have hor := HKK.out.1
        have t1 : (i : Int).tdiv 32 = ((i / 32 : Nat) : Int) := rfl
        have t2 : (i : Int).tmod 32 = ((i % 32 : Nat) : Int) := rfl
        have HSet := Lib.hid HKK.out.2
        obtain ⟨t, hte⟩ : ∃ t, i / 32 = t := ⟨_, rfl⟩
        obtain ⟨s, hse⟩ : ∃ s, i % 32 = s := ⟨_, rfl⟩
        rw [hte] at t1 cq0 f0 htm hdl hor HSet
        rw [hse] at t2 hs32 hor HSet
        obtain ⟨d, hde⟩ : ∃ d, dgt q t = d := ⟨_, rfl⟩
        rw [hde] at cq0 hdl hor HSet
        obtain ⟨P, hP⟩ : ∃ P, 2 ^ s = P := ⟨_, rfl⟩
        have hPl : P < 4294967296 := by rw [← hP]; exact Nat.pow_lt_pow_right (a := 2) (n := 32) (by omega) hs32
        obtain ⟨d2, hd2⟩ : ∃ d2, d ||| P = d2 := ⟨_, rfl⟩
        have horb : bits BinOp.or .u32 (d : Int) (P : Int) = (d2 : Int) := by rw [u32_or_nat d P hdl hPl, hd2]
        rw [hP, hd2] at HSet hor
        have hPi : (2 : Int) ^ s = (P : Int) := by rw [← hP, Int.natCast_pow]; rfl
        have w1' : IntKind.i64.wrap (t : Int) = t := IntWalk.i64_in _ (by omega)
        have w2' : IntKind.u32.wrap (P : Int) = P := IntWalk.u32_in _ (by omega)
        have w3' : IntKind.u32.wrap ((1 : Int) * P) = P := by rw [Int.one_mul]; exact w2'
        have e1 : (t : Int) < (m : Int) := by omega
        have e2 : (0 : Int) ≤ (t : Int) := by omega
        have e3 : (0 : Int) ≤ (s : Int) := by omega
        have e4 : (s : Int) ≤ 64 := by omega
        have HA7 := Lib.hid (And.intro hA7 (And.intro h7 (And.intro hQ7 (HF.out.2.trans hx7))))
        clear hA7 h7 hx7 hg7 hQ7 HKK hte hse hde hP hd2 HF HD6 hlq
        generalize (dg (T - y)).length = l7 at *
        go_upto_region 12 with fail
        go_region
        have hxs : Ext (fun z => z = Q) w7 (w7.setCell ⟨Q, t, none⟩ (.int .u32 (d2 : Nat))).drew := ((Ext.refl (fun z => z = Q) w7).setCell (p := ⟨Q, t, none⟩) (.int .u32 (d2 : Nat)) (fun _ => rfl)).drew
        have hA8 := (HA7.out.1.set t d2).ext ((Ext.refl (fun _ => False) _).drew)
        have hR8 := HA7.out.2.1.apart hxs (fun g e => by have := HA7.out.2.2.1 g e; omega)
        have hX8 := HA7.out.2.2.2.own hxs (fun z e => by omega)
        have HF8 := Lib.hid (And.intro hA8 (And.intro hR8 (And.intro HA7.out.2.2.1 hX8)))
        clear hxs hA8 hR8 hX8 HA7
        go_wp2
        go_roundg i
        case measure => omega
        case rel => exact ⟨i, _, _, by omega, rfl, by go_num, HSet.out, HF8.out.1, HF8.out.2.1, HF8.out.2.2.1, HF8.out.2.2.2⟩
end Go.Proofs.YtbgienfcmdgaaaaGreat
/-
  Package exodusref01: Gcd. Conditions: the arguments read as digits, lengths bounded.
-/
namespace Go.Proofs.YtbgienfcmdgaaaaGreat
open Go.RowKit Go.MapKept
open Go.ChangeMaps (setBlock)

set_option maxRecDepth 100000 in
set_option maxHeartbeats 2000000 in
theorem Rgcd_any (w : World) (va vb : Value) (a b : List Nat) (ha : Rds w va a) (hb : Rds w vb b) (hal : a.length ≤ 134217727) (hbl : b.length ≤ 134217727) :
    Calls Tryz.prog 128 #[va, vb] w (NatPost w (Nat.gcd (vl a) (vl b))) := by
  have Fa := Lib.hid (Trim_any w va a ha (by omega))
  have Fb := Lib.hid (fun W (hW : Ext (fun _ => False) w W) => Trim_any W vb b (hb.keep hW) (by omega))
  have la := trimL_length a ha.1
  have lb := trimL_length b hb.1
  unfold trimL at la lb
  have hla : (dg (vl a)).length ≤ 134217727 := by omega
  have hlb : (dg (vl b)).length ≤ 134217727 := by omega
  generalize vl a = x0 at *
  generalize vl b = y0 at *
  have HL := Lib.hid (And.intro hla hlb)
  clear ha hb hal hbl la lb hla hlb
  go_enter Tryz.func128, Tryz.ntmps128
  go_wp2_with fail
  refine Fa.out.mono ?_
  rintro r w1 ⟨v1, rfl, h1, hx1⟩
  have Fb1 := Lib.hid (Fb.out w1 hx1)
  have H1 := Lib.hid (And.intro h1 hx1)
  clear h1 hx1 Fa Fb
  go_wp2_with fail
  refine Fb1.out.mono ?_
  rintro r w2 ⟨v2, rfl, h2, hx2⟩
  have HI := Lib.hid (And.intro (H1.out.1.keep hx2) (And.intro h2 (H1.out.2.trans hx2)))
  clear h2 hx2 Fb1 H1
  go_wp2_with fail
  go_loopg [0, 1] y0 (fun g v0 v1 wr => ∃ x y : Nat, g = y ∧ IsNat wr v0 x ∧ IsNat wr v1 y ∧ (dg x).length ≤ 134217727 ∧ (dg y).length ≤ 134217727 ∧ Nat.gcd x y = Nat.gcd x0 y0 ∧ Ext (fun _ => False) w wr)
  case atStart => exact ⟨x0, y0, rfl, HI.out.1, HI.out.2.1, HL.out.1, HL.out.2, rfl, HI.out.2.2⟩
  case round =>
    rename_i v0 v1
    obtain ⟨x, y, hg, h0, h1, hlx, hly, hgc, hx⟩ := hrel
    obtain rfl := hg.symm
    clear HI HL
    have h0' := h0
    have h1' := h1
    obtain ⟨ao, ca, rfl, _⟩ := h0'.2
    obtain ⟨bo, cb, rfl, _⟩ := h1'.2
    by_cases hy : y = 0
    · subst hy
      rw [Nat.gcd_zero_right] at hgc
      rw [dg_zero]
      have HP : Hid (NatPost w (Nat.gcd x0 y0) (.returned (.slice ao (dg x).length ca)) wr) := Lib.hid ⟨_, rfl, by rw [← hgc]; exact h0, hx⟩
      clear h0 h1 h0' h1' hgc hx hlx hly
      generalize (dg x).length = lx at *
      simp only [List.length_nil]
      go_wp2
      go_ret
      exact HP.out
    · obtain ⟨m, hm⟩ : ∃ m, (dg x).length = m := ⟨_, rfl⟩
      obtain ⟨k, hk⟩ : ∃ k, (dg y).length = k := ⟨_, rfl⟩
      have hk0 : 0 < k := by
        rcases Nat.eq_zero_or_pos k with h | h
        · exact absurd (dg_eq_nil.1 (List.eq_nil_of_length_eq_zero (hk.trans h))) hy
        · exact h
      have hki : (0 : Int) < (k : Int) := by omega
      have HD := Rdivmod_any wr _ _ _ _ h0 h1 hlx hly (by rw [vl_dg]; exact hy)
      rw [vl_dg, vl_dg, hm, hk] at HD
      have H0 := Lib.hid (And.intro h0 (And.intro h1 (And.intro hx hgc)))
      have Hm := Lib.hid (And.intro hm (And.intro hk (And.intro hlx hly)))
      rw [hm, hk]
      have HD' := Lib.hid HD
      have hlt := Nat.mod_lt x (Nat.pos_of_ne_zero hy)
      have hmono := dg_mono (Nat.le_of_lt hlt)
      have hgn : Nat.gcd y (x % y) = Nat.gcd x0 y0 := by rw [← hgc, Nat.gcd_comm y, ← Nat.gcd_rec, Nat.gcd_comm]
      have HN := Lib.hid (And.intro hlt (And.intro hgn (Nat.le_trans hmono hly)))
      clear h0 h1 h0' h1' hgc hx hlx hly hm hk HD hy hlt hmono hgn
      go_wp2_with fail
      refine HD'.out.mono ?_
      rintro r w9 ⟨v8, v9, rfl, _, h9, hx9⟩
      have HF : Hid (IsNat w9 (.slice bo k cb) y ∧ IsNat w9 v9 (x % y) ∧ Ext (fun _ => False) w w9) := Lib.hid ⟨by have := H0.out.2.1.keep hx9; rw [Hm.out.2.1] at this; exact this, h9, H0.out.2.2.1.trans hx9⟩
      clear h9 hx9
      go_wp2
      go_roundg (x % y)
      case measure => exact HN.out.1
      case rel => exact ⟨y, x % y, rfl, HF.out.1, HF.out.2.1, Hm.out.2.2.2, HN.out.2.2, HN.out.2.1, HF.out.2.2⟩
end Go.Proofs.YtbgienfcmdgaaaaGreat
/-
  Package exodusref02: build, Fix, Same, From, Sign, Neg. Conditions: the arguments read as integers, lengths bounded.
-/
namespace Go.Proofs.YtbgienfcmdgaaaaGreat
open Go.RowKit Go.MapKept
open Go.ChangeMaps (setBlock)

theorem dg_pos_len (n : Nat) : decide (0 < (dg n).length) = decide (0 < n) := by
  by_cases h : n = 0
  · subst h; rw [dg_zero]; rfl
  · have h1 : ¬ (dg n).length = 0 := fun e => h (dg_eq_nil.1 (List.eq_nil_of_length_eq_zero e))
    rw [decide_eq_true (by omega : 0 < n), decide_eq_true (by omega : 0 < (dg n).length)]
set_option maxRecDepth 100000 in
set_option maxHeartbeats 2000000 in
theorem Rbuild_any (w : World) (neg : Bool) (v : Value) (l : List Nat) (h : Rds w v l) (hl : l.length ≤ 268435455) :
    Calls Tryz.prog 126 #[.bool neg, v] w (IntPost w (sg neg (vl l))) := by
  have HT := Lib.hid (fun W (hW : Ext (fun _ => False) w W) => Trim_any W v l (h.keep hW) (by omega))
  generalize vl l = n at *
  clear h hl
  go_enter Tryz.func126, Tryz.ntmps126
  go_wp2_with fail
  refine (HT.out _ ((Ext.refl _ w).alloc _)).mono ?_
  rintro r w1 ⟨v1, rfl, h1, hx1⟩
  have hb1 := (boxI_new (W := w) rfl false none 0 0).ext hx1 id
  have hX1 := ((Ext.refl (fun _ => False) w).alloc (.cells #[.bool false, .slice none 0 0] 29)).trans hx1
  have hi := IsInt.mk neg h1
  rw [← dg_pos_len] at hi
  obtain ⟨ao, c, rfl⟩ := h1.shape
  obtain ⟨f0, f1, f2, f3⟩ := hb1.facts
  obtain ⟨m, hm⟩ : ∃ m, (dg n).length = m := ⟨_, rfl⟩
  rw [hm] at hi h1 ⊢
  obtain ⟨s, hs⟩ : ∃ s, (neg && decide (0 < m)) = s := ⟨_, rfl⟩
  rw [hs] at hi
  have hp := hb1.put (neg := s) (no_int ao m c)
  have HR := Lib.hid (And.intro (hp.int hi) (And.intro (hX1.own hp.ext (fun k e => by omega)) hp.box))
  have Hs := Lib.hid hs
  clear hp hi h1 hx1 hX1 hb1 HT hm hs
  cases neg
  · have hs := Hs.out
    rw [Bool.false_and] at hs
    subst hs
    go_wp2
    generalize (w1.setCell ⟨w.heap.size, 0, none⟩ (.bool false)).setCell ⟨w.heap.size, 1, none⟩ (.slice ao m c) = w9 at *
    obtain ⟨g0, g1, _⟩ := HR.out.2.2.facts
    exact bodyPost_ret (v := .agg #[.bool false, .slice ao m c]) (by simp [results, Tryz.results126, go_sem, g0, g1]) rfl ⟨_, rfl, HR.out.1, HR.out.2.1⟩
  · have hs := Hs.out
    rw [Bool.true_and] at hs
    subst hs
    go_wp2
    generalize (w1.setCell ⟨w.heap.size, 0, none⟩ (.bool (decide (0 < m)))).setCell ⟨w.heap.size, 1, none⟩ (.slice ao m c) = w9 at *
    obtain ⟨g0, g1, _⟩ := HR.out.2.2.facts
    exact bodyPost_ret (v := .agg #[.bool (decide (0 < m)), .slice ao m c]) (by simp [results, Tryz.results126, go_sem, g0, g1]) rfl ⟨_, rfl, HR.out.1, HR.out.2.1⟩
set_option maxRecDepth 100000 in
set_option maxHeartbeats 2000000 in
theorem Rfix_any (w : World) (v : Value) (z : Int) (L : Nat) (h : Rint w v z L) (hL : L ≤ 268435455) :
    Calls Tryz.prog 125 #[v] w (IntPost w (z)) := by
  obtain ⟨neg, ao, m, c, l, rfl, hr, hl, rfl⟩ := h.open
  have HB := Lib.hid (fun W (hW : Ext (fun _ => False) w W) => Rbuild_any W neg _ l (hr.keep hW) (by omega))
  generalize vl l = n at *
  clear h hr hl
  go_enter Tryz.func125, Tryz.ntmps125
  go_wp2_with fail
  refine (HB.out _ (((Ext.refl _ w).alloc _).alloc _)).mono ?_
  rintro r w1 ⟨v1, rfl, h1, hx1⟩
  obtain ⟨rb, hrb⟩ : ∃ rb, w.heap.size + 1 = rb := ⟨_, rfl⟩
  have hb1 := (boxI_new (W := w.alloc (.cells #[.bool neg, .slice ao m c] 29)) (k := rb) (by simp; omega) false none 0 0).ext hx1 id
  have hX1 := (((Ext.refl (fun _ => False) w).alloc _).alloc _).trans hx1
  obtain ⟨neg1, so, sn, sc, rfl⟩ := h1.shape
  obtain ⟨f0, f1, f2, f3⟩ := hb1.facts
  have hp := hb1.put (neg := neg1) (no_int so sn sc)
  have HR := Lib.hid (And.intro (hp.int h1) (And.intro (hX1.own hp.ext (fun k e => by omega)) hp.box))
  clear hp h1 hx1 hX1 hb1 HB
  rw [hrb]
  go_wp2
  generalize (w1.setCell ⟨rb, 0, none⟩ (.bool neg1)).setCell ⟨rb, 1, none⟩ (.slice so sn sc) = w9 at *
  obtain ⟨g0, g1, _⟩ := HR.out.2.2.facts
  exact bodyPost_ret (v := .agg #[.bool neg1, .slice so sn sc]) (by simp [results, Tryz.results125, go_sem, g0, g1]) rfl ⟨_, rfl, HR.out.1, HR.out.2.1⟩
set_option maxRecDepth 100000 in
set_option maxHeartbeats 2000000 in
theorem Rneg_any (w : World) (v : Value) (z : Int) (L : Nat) (h : Rint w v z L) (hL : L ≤ 268435455) :
    Calls Tryz.prog 166 #[v] w (IntPost w (-z)) := by
  obtain ⟨neg, ao, m, c, l, rfl, hr, hl, rfl⟩ := h.open
  have HB := Lib.hid (fun W (hW : Ext (fun _ => False) w W) => Rbuild_any W (!neg) _ l (hr.keep hW) (by omega))
  rw [sg_not] at HB
  generalize vl l = n at *
  clear h hr hl
  go_enter Tryz.func166, Tryz.ntmps166
  go_wp2_with fail
  refine (HB.out _ (((Ext.refl _ w).alloc _).alloc _)).mono ?_
  rintro r w1 ⟨v1, rfl, h1, hx1⟩
  obtain ⟨rb, hrb⟩ : ∃ rb, w.heap.size + 1 = rb := ⟨_, rfl⟩
  have hb1 := (boxI_new (W := w.alloc (.cells #[.bool neg, .slice ao m c] 29)) (k := rb) (by simp; omega) false none 0 0).ext hx1 id
  have hX1 := (((Ext.refl (fun _ => False) w).alloc _).alloc _).trans hx1
  obtain ⟨neg1, so, sn, sc, rfl⟩ := h1.shape
  obtain ⟨f0, f1, f2, f3⟩ := hb1.facts
  have hp := hb1.put (neg := neg1) (no_int so sn sc)
  have HR := Lib.hid (And.intro (hp.int h1) (And.intro (hX1.own hp.ext (fun k e => by omega)) hp.box))
  clear hp h1 hx1 hX1 hb1 HB
  rw [hrb]
  go_wp2
  generalize (w1.setCell ⟨rb, 0, none⟩ (.bool neg1)).setCell ⟨rb, 1, none⟩ (.slice so sn sc) = w9 at *
  obtain ⟨g0, g1, _⟩ := HR.out.2.2.facts
  exact bodyPost_ret (v := .agg #[.bool neg1, .slice so sn sc]) (by simp [results, Tryz.results166, go_sem, g0, g1]) rfl ⟨_, rfl, HR.out.1, HR.out.2.1⟩
set_option maxRecDepth 100000 in
set_option maxHeartbeats 2000000 in
theorem Risame_any (w : World) (neg neg' : Bool) (ao ao' : Option Addr) (m c m' c' : Nat) (l l' : List Nat) (h : Rds w (.slice ao m c) l) (h' : Rds w (.slice ao' m' c') l') (hl : l.length ≤ 268435455) (hl' : l'.length ≤ 268435455) :
    Calls Tryz.prog 96 #[.agg #[.bool neg, .slice ao m c], .agg #[.bool neg', .slice ao' m' c']] w fun r w' => r = .returned (.bool (neg == neg' && decide (l = l'))) ∧ Ext (fun _ => False) w w' := by
  have HS := Lib.hid (fun W (hW : Ext (fun _ => False) w W) => Same_any W _ _ l l' (h.keep hW) (h'.keep hW) (by omega) (by omega))
  generalize decide (l = l') = D at *
  clear h h' hl hl'
  by_cases hn : neg = neg'
  · subst hn
    rw [beq_self_eq_true, Bool.true_and]
    go_enter Tryz.func96, Tryz.ntmps96
    go_wp2_with fail
    refine (HS.out _ (((Ext.refl _ w).alloc _).alloc _)).mono ?_
    rintro r w1 ⟨rfl, hx1⟩
    have HX := Lib.hid ((((Ext.refl (fun _ => False) w).alloc _).alloc _).trans hx1)
    clear hx1 HS
    go_wp2
    go_ret
    exact ⟨rfl, HX.out⟩
  · have hb : (neg == neg') = false := by simpa using hn
    rw [hb, Bool.false_and]
    clear hn HS
    go_enter Tryz.func96, Tryz.ntmps96
    go_wp2
    go_ret
    exact ⟨rfl, ((Ext.refl _ w).alloc _).alloc _⟩
set_option maxRecDepth 100000 in
set_option maxHeartbeats 2000000 in
theorem Risign_any (w : World) (v : Value) (z : Int) (L : Nat) (h : Rint w v z L) (hL : L ≤ 268435455) :
    Calls Tryz.prog 82 #[v] w fun r w' => r = .returned (.int .i64 z.sign) ∧ Ext (fun _ => False) w w' := by
  have HF := Lib.hid (fun W (hW : Ext (fun _ => False) w W) => Rfix_any W v z L (h.keep hW) hL)
  obtain ⟨neg, ao, m, c, l, rfl, hr, hl, rfl⟩ := h.open
  generalize sg neg (vl l) = z at *
  obtain ⟨S, hS⟩ : ∃ S, z.sign = S := ⟨_, rfl⟩
  rw [hS]
  have HSS := Lib.hid hS
  clear h hr hl hS
  go_enter Tryz.func82, Tryz.ntmps82
  go_wp2_with fail
  refine (HF.out _ ((Ext.refl _ w).alloc _)).mono ?_
  rintro r w1 ⟨v1, rfl, h1, hx1⟩
  have hb1 := (boxI_new (W := w) rfl neg ao m c).ext hx1 id
  have hX1 := ((Ext.refl (fun _ => False) w).alloc _).trans hx1
  obtain ⟨mag, hv, hm⟩ := h1
  obtain ⟨so, sc, rfl⟩ := hm.shape
  subst hv
  obtain ⟨f0, f1, f2, f3⟩ := hb1.facts
  have hp := hb1.put (neg := decide (z < 0)) (no_int so (dg z.natAbs).length sc)
  have HR := Lib.hid (And.intro (hX1.own hp.ext (fun k e => by omega)) hp.box)
  obtain ⟨k, hk⟩ : ∃ k, (dg z.natAbs).length = k := ⟨_, rfl⟩
  have hk0 : k = 0 ↔ z = 0 := by
    rw [← hk]
    constructor
    · intro h; have := dg_eq_nil.1 (List.eq_nil_of_length_eq_zero h); omega
    · rintro rfl; rw [show (0 : Int).natAbs = 0 from rfl, dg_zero]; rfl
  obtain ⟨s, hs⟩ : ∃ s, decide (z < 0) = s := ⟨_, rfl⟩
  rw [hk, hs] at HR ⊢
  have Hs := Lib.hid hs
  clear hp hx1 hX1 hb1 HF hm hk hs
  obtain ⟨W9, hW9⟩ : ∃ W9, (w1.setCell ⟨w.heap.size, 0, none⟩ (.bool s)).setCell ⟨w.heap.size, 1, none⟩ (.slice so k sc) = W9 := ⟨_, rfl⟩
  go_upto_region 2 with fail
  rw [hW9] at HR
  obtain ⟨g0, g1, _⟩ := HR.out.2.facts
  clear hW9 f0 f1 f2 f3
  by_cases h0 : k = 0
  · subst h0
    have hz : z = 0 := hk0.1 rfl
    subst hz
    obtain rfl : S = 0 := HSS.out.symm
    clear hk0
    go_wp2
    go_ret
    exact ⟨rfl, HR.out.1⟩
  · have hk1 : ¬ (k : Int) = 0 := by omega
    have hkb : ((k : Int) == 0) = false := by simpa using hk1
    have hz : ¬ z = 0 := fun e => h0 (hk0.2 e)
    clear hk0
    by_cases hn : z < 0
    · have hsv : s = true := by rw [← Hs.out]; exact decide_eq_true hn
      subst hsv
      obtain rfl : S = -1 := by rw [← HSS.out]; exact Int.sign_eq_neg_one_of_neg hn
      clear hn hz
      go_wp2
      go_ret
      exact ⟨rfl, HR.out.1⟩
    · have hsv : s = false := by rw [← Hs.out]; exact decide_eq_false hn
      subst hsv
      obtain rfl : S = 1 := by rw [← HSS.out]; exact Int.sign_eq_one_of_pos (by omega)
      clear hn hz
      go_wp2
      go_ret
      exact ⟨rfl, HR.out.1⟩
set_option maxRecDepth 100000 in
set_option maxHeartbeats 2000000 in
theorem Rifrom_any (w : World) (k : Int) (h0 : -9223372036854775808 ≤ k) (h1 : k ≤ 9223372036854775807) :
    Calls Tryz.prog 80 #[.int .i64 k] w (IntPost w k) := by
  by_cases hk : k < 0
  · obtain ⟨n, hn⟩ : ∃ n : Nat, k = -((n : Int) + 1) := ⟨k.natAbs - 1, by omega⟩
    have hnl : n < 9223372036854775808 := by omega
    have HF := Lib.hid (fun W => Rfrom_any W n (by omega))
    have HA := Lib.hid (fun W u u' h h' => Radd_any W u u' (dg n) [1] h h' (Nat.le_trans (dg_two (n := n) (by omega)).1 (by decide)) (by simp))
    rw [vl_dg, show vl [1] = 1 from rfl] at HA
    have HS := Lib.hid (fun W v h => Rbuild_any W true v (dg (n + 1)) h (Nat.le_trans (dg_two (n := n + 1) (by omega)).1 (by decide)))
    have hz : sg true (n + 1) = k := by unfold sg; simp; omega
    rw [vl_dg, hz] at HS
    have q0 : k + 1 = -(n : Int) := by omega
    have q1 : -(-(n : Int)) = n := by omega
    have q2 : IntKind.u64.wrap (n : Int) = n := by rw [wrapU]; omega
    have q3 : IntKind.i64.wrap (-(n : Int)) = -n := IntWalk.i64_in _ (by omega)
    have q4 : IntKind.i64.wrap (n : Int) = n := IntWalk.i64_in _ (by omega)
    clear hz hn
    go_enter Tryz.func80, Tryz.ntmps80
    go_wp2_with fail
    refine (HF.out _).mono ?_
    rintro r w1 ⟨v1, rfl, h1, hx1⟩
    have hx2 : Ext (fun _ => False) w1 (w1.alloc (.cells #[.int .u32 1] 127)) := (Ext.refl _ w1).alloc _
    have hr2 : Rds (w1.alloc (.cells #[.int .u32 1] 127)) (.slice (some ⟨w1.heap.size, 0, none⟩) 1 1) [1] := by
      refine ⟨Dig.cons (by omega) Dig.nil, _, 1, rfl, Nat.le_refl _, by unfold maxLen; omega, fun h => (by cases h), fun _ => ⟨_, 0, rfl, by simp, fun i d hi => ?_⟩⟩
      have := cells_new (w := w1) [.int .u32 1] 127 rfl i (dv d) (by
        match i, hi with
        | 0, hi => simp at hi ⊢; subst hi; rfl
        | i + 1, hi => simp at hi)
      rwa [Addr.add_lit] at this
    have HA1 := Lib.hid (HA.out _ _ _ (h1.keep hx2) hr2)
    obtain ⟨ao, c, rfl⟩ := h1.shape
    have hb0 := (boxI_new (W := w) rfl false none 0 0).ext (hx1.trans hx2) id
    have HB0 := Lib.hid (And.intro hb0 (((Ext.refl (fun _ => False) w).alloc (.cells #[.bool false, .slice none 0 0] 29)).trans (hx1.trans hx2)))
    clear hb0 h1 hx1 hx2 hr2 HF HA
    go_wp2_with fail
    refine HA1.out.mono ?_
    rintro r w2 ⟨v2, rfl, h2, hx2⟩
    have HS1 := Lib.hid (HS.out w2 v2 h2)
    obtain ⟨ao2, c2, rfl⟩ := h2.shape
    have HB1 := Lib.hid (And.intro (HB0.out.1.ext hx2 id) (HB0.out.2.trans hx2))
    clear h2 hx2 HS HB0 HA1
    go_wp2_with fail
    refine HS1.out.mono ?_
    rintro r w3 ⟨v3, rfl, h3, hx3⟩
    have hb3 := HB1.out.1.ext hx3 id
    obtain ⟨f0, f1, f2, f3⟩ := hb3.facts
    obtain ⟨neg, so, sn, sc, rfl⟩ := h3.shape
    have hp := hb3.put (neg := neg) (no_int so sn sc)
    have HR := Lib.hid (And.intro (hp.int h3) (And.intro ((HB1.out.2.trans hx3).own hp.ext (fun k e => by omega)) hp.box))
    clear hb3 h3 hx3 hp HS1 HB1
    go_wp2
    generalize (w3.setCell ⟨w.heap.size, 0, none⟩ (.bool neg)).setCell ⟨w.heap.size, 1, none⟩ (.slice so sn sc) = w9 at *
    obtain ⟨g0, g1, _⟩ := HR.out.2.2.facts
    exact bodyPost_ret (v := .agg #[.bool neg, .slice so sn sc]) (by simp [results, Tryz.results80, go_sem, g0, g1]) rfl ⟨_, rfl, HR.out.1, HR.out.2.1⟩
  · obtain ⟨n, hn⟩ : ∃ n : Nat, k = (n : Int) := ⟨k.natAbs, by omega⟩
    have hnl : n < 9223372036854775808 := by omega
    have HF := Lib.hid (fun W => Rfrom_any W n (by omega))
    have HS := Lib.hid (fun W v h => Rbuild_any W false v (dg n) h (Nat.le_trans (dg_two (n := n) (by omega)).1 (by decide)))
    have hz : sg false n = k := by unfold sg; simp [hn]
    rw [vl_dg, hz] at HS
    have q2 : IntKind.u64.wrap (n : Int) = n := by rw [wrapU]; omega
    subst hn
    clear hz
    go_enter Tryz.func80, Tryz.ntmps80
    go_wp2_with fail
    refine (HF.out _).mono ?_
    rintro r w1 ⟨v1, rfl, h1, hx1⟩
    have HS1 := Lib.hid (HS.out w1 v1 h1)
    obtain ⟨ao, c, rfl⟩ := h1.shape
    have HB1 := Lib.hid (And.intro ((boxI_new (W := w) rfl false none 0 0).ext hx1 id) (((Ext.refl (fun _ => False) w).alloc (.cells #[.bool false, .slice none 0 0] 29)).trans hx1))
    clear h1 hx1 HF HS
    go_wp2_with fail
    refine HS1.out.mono ?_
    rintro r w3 ⟨v3, rfl, h3, hx3⟩
    have hb3 := HB1.out.1.ext hx3 id
    obtain ⟨f0, f1, f2, f3⟩ := hb3.facts
    obtain ⟨neg, so, sn, sc, rfl⟩ := h3.shape
    have hp := hb3.put (neg := neg) (no_int so sn sc)
    have HR := Lib.hid (And.intro (hp.int h3) (And.intro ((HB1.out.2.trans hx3).own hp.ext (fun k e => by omega)) hp.box))
    clear hb3 h3 hx3 hp HS1 HB1
    go_wp2
    generalize (w3.setCell ⟨w.heap.size, 0, none⟩ (.bool neg)).setCell ⟨w.heap.size, 1, none⟩ (.slice so sn sc) = w9 at *
    obtain ⟨g0, g1, _⟩ := HR.out.2.2.facts
    exact bodyPost_ret (v := .agg #[.bool neg, .slice so sn sc]) (by simp [results, Tryz.results80, go_sem, g0, g1]) rfl ⟨_, rfl, HR.out.1, HR.out.2.1⟩
end Go.Proofs.YtbgienfcmdgaaaaGreat
/-
  Package exodusref02: Mul, Add. Conditions: the arguments read as integers, lengths bounded.
-/
namespace Go.Proofs.YtbgienfcmdgaaaaGreat
open Go.RowKit Go.MapKept
open Go.ChangeMaps (setBlock)

/-- two boxes hold integers in the only form -/
def Fixed2 (wx : World) (b b' : Nat) (z z' : Int) : Prop := ∃ s a n c s' a' n' c', BoxI wx b s (.slice a n c) ∧ BoxI wx b' s' (.slice a' n' c') ∧ IsInt wx (.agg #[.bool s, .slice a n c]) z ∧ IsInt wx (.agg #[.bool s', .slice a' n' c']) z'
theorem IsInt.rds {w : World} {s : Bool} {mag : Value} {z : Int} (h : IsInt w (.agg #[.bool s, mag]) z) : Rds w mag (dg z.natAbs) ∧ sg s z.natAbs = z := by
  obtain ⟨m, h1, h2⟩ := h
  injection h1 with h1
  simp at h1
  obtain ⟨rfl, rfl⟩ := h1
  exact ⟨h2, sg_self z⟩
set_option maxRecDepth 100000 in
set_option maxHeartbeats 8000000 in
theorem Rimul_any (w : World) (v v' : Value) (z z' : Int) (L : Nat) (h : Rint w v z L) (h' : Rint w v' z' L) (hL : L ≤ 67108864) :
    Calls Tryz.prog 75 #[v, v'] w (IntPost w (z * z')) := by
  have hlz := h.len
  have hlz' := h'.len
  have HF1 := Lib.hid (fun W (hW : Ext (fun _ => False) w W) => Rfix_any W v z L (h.keep hW) (by omega))
  have HF2 := Lib.hid (fun W (hW : Ext (fun _ => False) w W) => Rfix_any W v' z' L (h'.keep hW) (by omega))
  have HL := Lib.hid (And.intro hlz hlz')
  obtain ⟨neg, ao, m, c, l, rfl, hr, hl, _⟩ := h.open
  obtain ⟨neg', ao', m', c', l', rfl, hr', hl', _⟩ := h'.open
  clear hr hl hr' hl' h h' hlz hlz'
  go_enter Tryz.func75, Tryz.ntmps75
  go_upto_region 0 with fail
  go_cut [2, 3, 4] (fun v1 v2 v3 wx => ∃ b b' r, v1 = .pointer (some ⟨b, 0, none⟩) ∧ v2 = .pointer (some ⟨b', 0, none⟩) ∧ v3 = .pointer (some ⟨r, 0, none⟩) ∧ BoxI wx b neg (.slice ao m c) ∧ BoxI wx b' neg' (.slice ao' m' c') ∧ BoxI wx r false (.slice none 0 0) ∧ ¬ b = b' ∧ ¬ b = r ∧ ¬ b' = r ∧ w.heap.size ≤ b ∧ w.heap.size ≤ b' ∧ w.heap.size ≤ r ∧ Ext (fun _ => False) w wx)
  case first =>
    go_wp2
    go_meet
    exact ⟨_, _, _, rfl, rfl, rfl, ((boxI_new rfl neg ao m c).alloc _).alloc _, (boxI_new (by simp) neg' ao' m' c').alloc _, boxI_new (by simp) false none 0 0, (by omega), (by omega), (by omega), (by omega), (by omega), (by omega), (((Ext.refl _ w).alloc _).alloc _).alloc _⟩
  case rest =>
    obtain ⟨b, b', r, rfl, rfl, rfl, hb, hb', hrb, n0, n1, n2, le1, le2, hle, hx⟩ := hcut
    obtain ⟨c0, c1, _⟩ := hb.facts
    obtain ⟨e0, e1, _⟩ := hb'.facts
    have HB := Lib.hid (And.intro hb (And.intro hb' (And.intro hrb hx)))
    clear hb hb' hrb hx
    go_upto_region 1 with fail
    go_cut [] (fun wx => Fixed2 wx b b' z z' ∧ BoxI wx r false (.slice none 0 0) ∧ Ext (fun _ => False) w wx)
    case first =>
      go_region_law (first
        | (go_simp; go_at_call 125; (with_reducible refine (HF1.out _ ?_).mono ?_); (exact HB.out.2.2.2.drew); rintro r5 w5 ⟨v5, rfl, h5, hx5⟩; have hX5 := (Ext.refl (fun _ => False) wc).drew.trans hx5; obtain ⟨k0, k1, _⟩ := (HB.out.2.1.ext hX5 id).facts; obtain ⟨s5, ao5, n5, k5, rfl⟩ := h5.shape)
        | (go_simp; go_at_call 125; (with_reducible refine (HF2.out _ ?_).mono ?_); (exact HB.out.2.2.2.trans hX5); rintro r6 w6 ⟨v6, rfl, h6, hx6⟩; have hX6 := hX5.trans hx6; obtain ⟨d0, d1, d2, d3⟩ := (HB.out.1.ext hX6 id).facts; obtain ⟨f0, f1, f2, f3⟩ := (HB.out.2.1.ext hX6 id).facts; obtain ⟨s6, ao6, n6, k6, rfl⟩ := h6.shape))
      all_goals
        have hp1 := (HB.out.1.ext hX6 id).put (neg := s5) (no_int ao5 n5 k5)
        have hp2 := ((HB.out.2.1.ext hX6 id).ext hp1.ext (fun e => n0 e.symm)).put (neg := s6) (no_int ao6 n6 k6)
        have HR : Hid (_ ∧ _ ∧ _) := Lib.hid (And.intro (show Fixed2 _ b b' z z' from ⟨s5, ao5, n5, k5, s6, ao6, n6, k6, hp1.box.ext hp2.ext n0, hp2.box, hp2.int (hp1.int (h5.keep hx6)), hp2.int (hp1.int h6)⟩) (And.intro (((HB.out.2.2.1.ext hX6 id).ext hp1.ext (fun e => n1 e.symm)).ext hp2.ext (fun e => n2 e.symm)) (((HB.out.2.2.2.trans hX6).own hp1.ext (fun k e => by omega)).own hp2.ext (fun k e => by omega))))
        clear hp1 hp2 h5 h6 hx5 hx6 hX5 hX6 k0 k1 d0 d1 d2 d3 f0 f1 f2 f3
        go_wp2
        go_meet
        exact HR.out
    case rest =>
      obtain ⟨⟨s, a1, m1, c1, s', a2, m2, c2, hb, hb', hi, hi'⟩, hrb, hx⟩ := hcut
      obtain ⟨hr, hz⟩ := hi.rds
      obtain ⟨hr', hz'⟩ := hi'.rds
      have HA := Lib.hid (fun W (hW : Ext (fun _ => False) wc W) => Rmul_any W _ _ _ _ (hr.keep hW) (hr'.keep hW) (by have := HL.out; omega) (by have := HL.out; omega))
      rw [vl_dg, vl_dg] at HA
      obtain ⟨sn0, hs⟩ : ∃ sn0, (s != s') = sn0 := ⟨_, rfl⟩
      have hs' : (!(s == s')) = sn0 := hs
      have hzz : sg sn0 (z.natAbs * z'.natAbs) = z * z' := by rw [← hs, sg_mul, hz, hz']
      have HS := Lib.hid (fun W v (h : IsNat W v (z.natAbs * z'.natAbs)) => Rbuild_any W sn0 v _ h (by have := dg_len_mul (Nat.lt_of_lt_of_le (dg_lt _) (pow_mono HL.out.1)) (Nat.lt_of_lt_of_le (dg_lt _) (pow_mono HL.out.2)); omega))
      rw [vl_dg, hzz] at HS
      have hS := SI2.of hb hb'
      have HB := Lib.hid (And.intro hb (And.intro hb' (And.intro hrb hx)))
      clear hb hb' hrb hx hi hi' hr hr' hz hz' hs hzz
      generalize z * z' = Z at *
      generalize z.natAbs * z'.natAbs = n at *
      go_upto_region 2 with fail
      go_region_held3 (SI2 b b' s s' (.slice a1 m1 c1) (.slice a2 m2 c2))
        (repeat (first | (with_reducible assumption) | (with_reducible refine SI2.drew ?_) | (with_reducible refine SI2.set ?_ _ _ ?_ ?_) | (dsimp only; omega)))
        (first
          | (go_at_call 79; (with_reducible refine (HA.out _ ?_).mono ?_); (exact (Ext.refl _ wc).drew); rintro r5 w5 ⟨v5, rfl, h5, hx5⟩; have hX5 := (Ext.refl (fun _ => False) wc).drew.trans hx5; have hS5 := HS.out w5 v5 h5; have hK5 := SI2.of (HB.out.1.ext hX5 id) (HB.out.2.1.ext hX5 id); obtain ⟨ao5, k5, rfl⟩ := h5.shape)
          | (go_at_call 126; (with_reducible refine hS5.mono ?_); rintro r6 w6 ⟨v6, rfl, h6, hx6⟩; have hX6 := hX5.trans hx6; have hr6 := HB.out.2.2.1.ext hX6 id; obtain ⟨d0, d1, d2, d3⟩ := hr6.facts; have hK6 := SI2.of (HB.out.1.ext hX6 id) (HB.out.2.1.ext hX6 id); obtain ⟨neg6, so, sn, sc, rfl⟩ := h6.shape))
      all_goals
        have hp := hr6.put (neg := neg6) (no_int so sn sc)
        have HR := Lib.hid (And.intro (hp.int h6) (And.intro ((HB.out.2.2.2.trans hX6).own hp.ext (fun k e => by omega)) hp.box))
        clear hp h5 h6 hX5 hX6 hr6 hx5 hx6 hS5 hK5 hK6 hS d0 d1 d2 d3
        generalize (w6.setCell ⟨r, 0, none⟩ (.bool neg6)).setCell ⟨r, 1, none⟩ (.slice so sn sc) = w9 at *
        obtain ⟨g0, g1, _⟩ := HR.out.2.2.facts
        go_wp2
        exact bodyPost_ret (v := .agg #[.bool neg6, .slice so sn sc]) (by simp [results, Tryz.results75, go_sem, g0, g1]) rfl ⟨_, rfl, HR.out.1, HR.out.2.1⟩
set_option maxRecDepth 100000 in
set_option maxHeartbeats 8000000 in
theorem Riadd_any (w : World) (v v' : Value) (z z' : Int) (L : Nat) (h : Rint w v z L) (h' : Rint w v' z' L) (hL : L ≤ 67108864) :
    Calls Tryz.prog 78 #[v, v'] w (IntPost w (z + z')) := by
  have hlz := h.len
  have hlz' := h'.len
  have HF1 := Lib.hid (fun W (hW : Ext (fun _ => False) w W) => Rfix_any W v z L (h.keep hW) (by omega))
  have HF2 := Lib.hid (fun W (hW : Ext (fun _ => False) w W) => Rfix_any W v' z' L (h'.keep hW) (by omega))
  have HL := Lib.hid (And.intro hlz hlz')
  obtain ⟨neg, ao, m, c, l, rfl, hr, hl, _⟩ := h.open
  obtain ⟨neg', ao', m', c', l', rfl, hr', hl', _⟩ := h'.open
  clear hr hl hr' hl' h h' hlz hlz'
  go_enter Tryz.func78, Tryz.ntmps78
  go_upto_region 0 with fail
  go_cut [2, 3, 4] (fun v1 v2 v3 wx => ∃ b b' r, v1 = .pointer (some ⟨b, 0, none⟩) ∧ v2 = .pointer (some ⟨b', 0, none⟩) ∧ v3 = .pointer (some ⟨r, 0, none⟩) ∧ BoxI wx b neg (.slice ao m c) ∧ BoxI wx b' neg' (.slice ao' m' c') ∧ BoxI wx r false (.slice none 0 0) ∧ ¬ b = b' ∧ ¬ b = r ∧ ¬ b' = r ∧ w.heap.size ≤ b ∧ w.heap.size ≤ b' ∧ w.heap.size ≤ r ∧ Ext (fun _ => False) w wx)
  case first =>
    go_wp2
    go_meet
    exact ⟨_, _, _, rfl, rfl, rfl, ((boxI_new rfl neg ao m c).alloc _).alloc _, (boxI_new (by simp) neg' ao' m' c').alloc _, boxI_new (by simp) false none 0 0, (by omega), (by omega), (by omega), (by omega), (by omega), (by omega), (((Ext.refl _ w).alloc _).alloc _).alloc _⟩
  case rest =>
    obtain ⟨b, b', r, rfl, rfl, rfl, hb, hb', hrb, n0, n1, n2, le1, le2, hle, hx⟩ := hcut
    obtain ⟨c0, c1, _⟩ := hb.facts
    obtain ⟨e0, e1, _⟩ := hb'.facts
    have HB := Lib.hid (And.intro hb (And.intro hb' (And.intro hrb hx)))
    clear hb hb' hrb hx
    go_upto_region 1 with fail
    go_cut [] (fun wx => Fixed2 wx b b' z z' ∧ BoxI wx r false (.slice none 0 0) ∧ Ext (fun _ => False) w wx)
    case first =>
      go_region_law (first
        | (go_simp; go_at_call 125; (with_reducible refine (HF1.out _ ?_).mono ?_); (exact HB.out.2.2.2.drew); rintro r5 w5 ⟨v5, rfl, h5, hx5⟩; have hX5 := (Ext.refl (fun _ => False) wc).drew.trans hx5; obtain ⟨k0, k1, _⟩ := (HB.out.2.1.ext hX5 id).facts; obtain ⟨s5, ao5, n5, k5, rfl⟩ := h5.shape)
        | (go_simp; go_at_call 125; (with_reducible refine (HF2.out _ ?_).mono ?_); (exact HB.out.2.2.2.trans hX5); rintro r6 w6 ⟨v6, rfl, h6, hx6⟩; have hX6 := hX5.trans hx6; obtain ⟨d0, d1, d2, d3⟩ := (HB.out.1.ext hX6 id).facts; obtain ⟨f0, f1, f2, f3⟩ := (HB.out.2.1.ext hX6 id).facts; obtain ⟨s6, ao6, n6, k6, rfl⟩ := h6.shape))
      all_goals
        have hp1 := (HB.out.1.ext hX6 id).put (neg := s5) (no_int ao5 n5 k5)
        have hp2 := ((HB.out.2.1.ext hX6 id).ext hp1.ext (fun e => n0 e.symm)).put (neg := s6) (no_int ao6 n6 k6)
        have HR : Hid (_ ∧ _ ∧ _) := Lib.hid (And.intro (show Fixed2 _ b b' z z' from ⟨s5, ao5, n5, k5, s6, ao6, n6, k6, hp1.box.ext hp2.ext n0, hp2.box, hp2.int (hp1.int (h5.keep hx6)), hp2.int (hp1.int h6)⟩) (And.intro (((HB.out.2.2.1.ext hX6 id).ext hp1.ext (fun e => n1 e.symm)).ext hp2.ext (fun e => n2 e.symm)) (((HB.out.2.2.2.trans hX6).own hp1.ext (fun k e => by omega)).own hp2.ext (fun k e => by omega))))
        clear hp1 hp2 h5 h6 hx5 hx6 hX5 hX6 k0 k1 d0 d1 d2 d3 f0 f1 f2 f3
        go_wp2
        go_meet
        exact HR.out
    case rest =>
      obtain ⟨⟨s, a1, m1, c1, s', a2, m2, c2, hb, hb', hi, hi'⟩, hrb, hx⟩ := hcut
      obtain ⟨hr, hz⟩ := hi.rds
      obtain ⟨hr', hz'⟩ := hi'.rds
      have hlz := HL.out.1
      have hlz' := HL.out.2
      have hS2 := fun n (h : n ≤ max z.natAbs z'.natAbs) => dg_len_max h (Nat.lt_of_lt_of_le (dg_lt z.natAbs) (pow_mono hlz)) (Nat.lt_of_lt_of_le (dg_lt z'.natAbs) (pow_mono hlz'))
      have hln := dg_len_add (Nat.lt_of_lt_of_le (dg_lt z.natAbs) (pow_mono hlz)) (Nat.lt_of_lt_of_le (dg_lt z'.natAbs) (pow_mono hlz'))
      have HA := Lib.hid (fun W (hW : Ext (fun _ => False) wc W) => Radd_any W _ _ _ _ (hr.keep hW) (hr'.keep hW) (by omega) (by omega))
      have HC := Lib.hid (Rcmp_any wc _ _ _ _ hr hr' (by omega) (by omega))
      have HD := Lib.hid (fun W (h1 : Rds W (.slice a1 m1 c1) (dg z.natAbs)) (h2 : Rds W (.slice a2 m2 c2) (dg z'.natAbs)) (h : z'.natAbs ≤ z.natAbs) => Rsub_any W _ _ _ _ h1 h2 (by omega) (by omega) (by rw [vl_dg, vl_dg]; exact h))
      have HD' := Lib.hid (fun W (h1 : Rds W (.slice a1 m1 c1) (dg z.natAbs)) (h2 : Rds W (.slice a2 m2 c2) (dg z'.natAbs)) (h : z.natAbs ≤ z'.natAbs) => Rsub_any W _ _ _ _ h2 h1 (by omega) (by omega) (by rw [vl_dg, vl_dg]; exact h))
      unfold RSubPost at HD HD'
      simp only [vl_dg] at HA HC HD HD'
      have hS0 : ∀ W s v n (h : IsNat W v n), (n ≤ max z.natAbs z'.natAbs ∨ n = z.natAbs + z'.natAbs) → Calls Tryz.prog 126 #[.bool s, v] W (IntPost W (sg s n)) := fun W s v n h hn => by
        have := Rbuild_any W s v _ h (by
          rcases hn with hn | rfl
          · have := hS2 n hn; omega
          · omega)
        rwa [vl_dg] at this
      have HS := Lib.hid hS0
      have HZ : Hid (sg s z.natAbs + sg s' z'.natAbs = z + z') := Lib.hid (by rw [hz, hz'])
      have HR0 := Lib.hid (And.intro hr hr')
      have hS := SI2.of hb hb'
      obtain ⟨c0, c1', _⟩ := hb.facts
      obtain ⟨e0, e1, _⟩ := hb'.facts
      have HB := Lib.hid (And.intro hb (And.intro hb' (And.intro hrb hx)))
      clear hz hz' hi hi' hln hS2 hS0 hlz hlz' hb hb' hrb hx hr hr'
      generalize z + z' = Z at *
      generalize z.natAbs = x at *
      generalize z'.natAbs = y at *
      by_cases hn : s = s'
      · subst hn
        have HS1 := Lib.hid (fun W v h => HS.out W s v (x + y) h (.inr rfl))
        rw [sg_add, HZ.out] at HS1
        go_upto_region 3 with fail
        go_region_held3 (SI2 b b' s s (.slice a1 m1 c1) (.slice a2 m2 c2))
          (repeat (first | (with_reducible assumption) | (with_reducible refine SI2.drew ?_) | (with_reducible refine SI2.set ?_ _ _ ?_ ?_) | (dsimp only; omega)))
          (first
            | (go_at_call 130; (with_reducible refine (HA.out _ ?_).mono ?_); (exact (Ext.refl _ wc).drew); rintro r5 w5 ⟨v5, rfl, h5, hx5⟩; have hX5 := (Ext.refl (fun _ => False) wc).drew.trans hx5; have hS5 := HS1.out w5 v5 h5; have hK5 := SI2.of (HB.out.1.ext hX5 id) (HB.out.2.1.ext hX5 id); obtain ⟨ao5, k5, rfl⟩ := h5.shape)
            | (go_at_call 126; (with_reducible refine hS5.mono ?_); rintro r6 w6 ⟨v6, rfl, h6, hx6⟩; have hX6 := hX5.trans hx6; have hr6 := HB.out.2.2.1.ext hX6 id; obtain ⟨d0, d1, d2, d3⟩ := hr6.facts; have hK6 := SI2.of (HB.out.1.ext hX6 id) (HB.out.2.1.ext hX6 id); obtain ⟨neg6, so, sn, sc, rfl⟩ := h6.shape))
        all_goals
          have hp := hr6.put (neg := neg6) (no_int so sn sc)
          have HR := Lib.hid (And.intro (hp.int h6) (And.intro ((HB.out.2.2.2.trans hX6).own hp.ext (fun k e => by omega)) hp.box))
          clear hp h5 h6 hX5 hX6 hr6 hx5 hx6 hS5 hK5 hK6 hS d0 d1 d2 d3
          generalize (w6.setCell ⟨r, 0, none⟩ (.bool neg6)).setCell ⟨r, 1, none⟩ (.slice so sn sc) = w9 at *
          obtain ⟨g0, g1, _⟩ := HR.out.2.2.facts
          go_wp2
          exact bodyPost_ret (v := .agg #[.bool neg6, .slice so sn sc]) (by simp [results, Tryz.results78, go_sem, g0, g1]) rfl ⟨_, rfl, HR.out.1, HR.out.2.1⟩
      · have hne : (s == s') = false := by simpa using hn
        clear hS
        by_cases hxy : x < y
        · have e : cmpN x y = -1 := by unfold cmpN; rw [if_pos hxy]
          rw [e] at HC
          have HS1 := Lib.hid (fun W v h => HS.out W s' v (y - x) h (.inl (by omega)))
          rw [sg_sub s' s y x (by omega) (fun h => hn h.symm), Int.add_comm, HZ.out] at HS1
          have Hxy := Lib.hid hxy
          clear e hn hxy
          go_wp2_with fail
          refine HC.out.mono ?_
          rintro r7 w2 ⟨rfl, hx2⟩
          obtain ⟨c0, c1', c2', c3⟩ := (HB.out.1.ext hx2 id).facts
          obtain ⟨e0, e1, e2, e3⟩ := (HB.out.2.1.ext hx2 id).facts
          have HX2 := Lib.hid hx2
          clear hx2 HC
          go_upto_region 5 with fail
          go_cut [] (fun wx => BoxI wx b s' (.slice a2 m2 c2) ∧ BoxI wx b' s (.slice a1 m1 c1) ∧ BoxI wx r false (.slice none 0 0) ∧ Rds wx (.slice a1 m1 c1) (dg x) ∧ Rds wx (.slice a2 m2 c2) (dg y) ∧ Ext (fun _ => False) w wx)
          case first =>
            go_wp2
            go_meet
            have hp1 := (HB.out.1.ext HX2.out id).put (neg := s') (no_int a2 m2 c2)
            have hp2 := ((HB.out.2.1.ext HX2.out id).ext hp1.ext (fun e => n0 e.symm)).put (neg := s) (no_int a1 m1 c1)
            exact ⟨hp1.box.ext hp2.ext n0, hp2.box, ((HB.out.2.2.1.ext HX2.out id).ext hp1.ext (fun e => n1 e.symm)).ext hp2.ext (fun e => n2 e.symm), hp2.rds _ _ (hp1.rds _ _ (HR0.out.1.keep HX2.out)), hp2.rds _ _ (hp1.rds _ _ (HR0.out.2.keep HX2.out)), ((HB.out.2.2.2.trans HX2.out).own hp1.ext (fun k e => by omega)).own hp2.ext (fun k e => by omega)⟩
          case rest =>
            obtain ⟨hb, hb', hrb, hr1, hr2, hx⟩ := hcut
            have HD1 := Lib.hid (HD'.out wc hr1 hr2 (Nat.le_of_lt Hxy.out))
            obtain ⟨c0, c1', _⟩ := hb.facts
            obtain ⟨e0, e1, _⟩ := hb'.facts
            have HB' := Lib.hid (And.intro hb (And.intro hrb hx))
            clear hb hb' hrb hx
            go_wp2_with fail
            refine HD1.out.mono ?_
            rintro r7 w7 ⟨v7, rfl, h7, hx7, _⟩
            have HS7 := Lib.hid (HS1.out w7 v7 h7)
            obtain ⟨c07, c17, _⟩ := (HB'.out.1.ext hx7 id).facts
            have HB7 := Lib.hid (And.intro (HB'.out.2.1.ext hx7 id) (HB'.out.2.2.trans hx7))
            obtain ⟨ao7, k7, rfl⟩ := h7.shape
            clear h7 hx7
            go_wp2_with fail
            refine HS7.out.mono ?_
            rintro r8 w6 ⟨v6, rfl, h6, hx6⟩
            have hr6 := HB7.out.1.ext hx6 id
            obtain ⟨d0, d1, d2, d3⟩ := hr6.facts
            have hX6 := HB7.out.2.trans hx6
            obtain ⟨neg6, so, sn, sc, rfl⟩ := h6.shape
            have hp := hr6.put (neg := neg6) (no_int so sn sc)
            have HR := Lib.hid (And.intro (hp.int h6) (And.intro (hX6.own hp.ext (fun k e => by omega)) hp.box))
            clear hp h6 hX6 hr6 hx6
            go_wp2
            generalize (w6.setCell ⟨r, 0, none⟩ (.bool neg6)).setCell ⟨r, 1, none⟩ (.slice so sn sc) = w9 at *
            obtain ⟨g0, g1, _⟩ := HR.out.2.2.facts
            exact bodyPost_ret (v := .agg #[.bool neg6, .slice so sn sc]) (by simp [results, Tryz.results78, go_sem, g0, g1]) rfl ⟨_, rfl, HR.out.1, HR.out.2.1⟩
        · have e : ¬ cmpN x y < 0 := by unfold cmpN; rw [if_neg hxy]; split <;> omega
          have e' : 0 ≤ cmpN x y := by omega
          generalize hq : cmpN x y = cq at *
          have HS1 := Lib.hid (fun W v h => HS.out W s v (x - y) h (.inl (by omega)))
          rw [sg_sub s s' x y (by omega) hn, HZ.out] at HS1
          have Hxy := Lib.hid hxy
          clear hq hn hxy e
          go_wp2_with fail
          refine HC.out.mono ?_
          rintro r7 w2 ⟨rfl, hx2⟩
          have hb := HB.out.1.ext hx2 id
          have hb' := HB.out.2.1.ext hx2 id
          have hrb := HB.out.2.2.1.ext hx2 id
          have hx := HB.out.2.2.2.trans hx2
          have HD1 := Lib.hid (HD.out w2 (HR0.out.1.keep hx2) (HR0.out.2.keep hx2) (Nat.le_of_not_lt Hxy.out))
          clear hx2 HC
          obtain ⟨c0, c1', _⟩ := hb.facts
          obtain ⟨e0, e1, _⟩ := hb'.facts
          have HB' := Lib.hid (And.intro hb (And.intro hrb hx))
          clear hb hb' hrb hx
          go_wp2_with fail
          refine HD1.out.mono ?_
          rintro r7 w7 ⟨v7, rfl, h7, hx7, _⟩
          have HS7 := Lib.hid (HS1.out w7 v7 h7)
          obtain ⟨c07, c17, _⟩ := (HB'.out.1.ext hx7 id).facts
          have HB7 := Lib.hid (And.intro (HB'.out.2.1.ext hx7 id) (HB'.out.2.2.trans hx7))
          obtain ⟨ao7, k7, rfl⟩ := h7.shape
          clear h7 hx7
          go_wp2_with fail
          refine HS7.out.mono ?_
          rintro r8 w6 ⟨v6, rfl, h6, hx6⟩
          have hr6 := HB7.out.1.ext hx6 id
          obtain ⟨d0, d1, d2, d3⟩ := hr6.facts
          have hX6 := HB7.out.2.trans hx6
          obtain ⟨neg6, so, sn, sc, rfl⟩ := h6.shape
          have hp := hr6.put (neg := neg6) (no_int so sn sc)
          have HR := Lib.hid (And.intro (hp.int h6) (And.intro (hX6.own hp.ext (fun k e => by omega)) hp.box))
          clear hp h6 hX6 hr6 hx6
          go_wp2
          generalize (w6.setCell ⟨r, 0, none⟩ (.bool neg6)).setCell ⟨r, 1, none⟩ (.slice so sn sc) = w9 at *
          obtain ⟨g0, g1, _⟩ := HR.out.2.2.facts
          exact bodyPost_ret (v := .agg #[.bool neg6, .slice so sn sc]) (by simp [results, Tryz.results78, go_sem, g0, g1]) rfl ⟨_, rfl, HR.out.1, HR.out.2.1⟩
end Go.Proofs.YtbgienfcmdgaaaaGreat
/-
  Package exodusref03: den, build. Conditions: the arguments read as fractions, lengths bounded.
-/
namespace Go.Proofs.YtbgienfcmdgaaaaGreat
open Go.RowKit Go.MapKept
open Go.ChangeMaps (setBlock)

theorem dg_1 : dg 1 = [1] := by rw [dg_pos (by omega)]; simp [dg_zero]
theorem one_rds (w : World) : Rds (w.alloc (.cells #[.int .u32 1] 127)) (.slice (some ⟨w.heap.size, 0, none⟩) 1 1) [1] := by
  refine ⟨Dig.cons (by omega) Dig.nil, _, 1, rfl, Nat.le_refl _, by unfold maxLen; omega, fun h => (by cases h), fun _ => ⟨_, 0, rfl, by simp, fun i d hi => ?_⟩⟩
  have := cells_new (w := w) [.int .u32 1] 127 rfl i (dv d) (by
    match i, hi with
    | 0, hi => simp at hi ⊢; subst hi; rfl
    | i + 1, hi => simp at hi)
  rwa [Addr.add_lit] at this
set_option maxRecDepth 100000 in
set_option maxHeartbeats 4000000 in
theorem Rden_any (w : World) (neg : Bool) (ao : Option Addr) (m c : Nat) (ao' : Option Addr) (m' c' : Nat) (d : List Nat)
    (h : Rds w (.slice ao' m' c') d) (hl : d.length ≤ 268435455) :
    Calls Tryz.prog 76 #[.agg #[.bool neg, .slice ao m c, .slice ao' m' c']] w (NatPost w (dn (vl d))) := by
  have HT := Lib.hid (fun W (hW : Ext (fun _ => False) w W) => Trim_any W _ d (h.keep hW) (by omega))
  generalize vl d = n at *
  clear h hl
  go_enter Tryz.func76, Tryz.ntmps76
  go_wp2_with fail
  refine (HT.out _ ((Ext.refl _ w).alloc _)).mono ?_
  rintro r w1 ⟨v1, rfl, h1, hx1⟩
  have hX := ((Ext.refl (fun _ => False) w).alloc _).trans hx1
  obtain ⟨ao1, c1, rfl⟩ := h1.shape
  by_cases h0 : n = 0
  · subst h0
    have HP : Hid (NatPost w (dn 0) (.returned (.slice (some ⟨w1.heap.size, 0, none⟩) 1 1)) (w1.alloc (.cells #[.int .u32 1] 127))) := Lib.hid ⟨_, rfl, by unfold IsNat; rw [show dn 0 = 1 from rfl, dg_1]; exact one_rds w1, hX.alloc _⟩
    rw [dg_zero] at h1 ⊢
    clear h1 hx1 hX HT
    simp only [List.length_nil]
    go_wp2
    go_ret
    exact HP.out
  · have hk : ¬ ((dg n).length : Int) = 0 := fun h => h0 (dg_eq_nil.1 (List.eq_nil_of_length_eq_zero (by omega)))
    have HP : Hid (NatPost w (dn n) (.returned (.slice ao1 (dg n).length c1)) w1) := Lib.hid ⟨_, rfl, by unfold dn; rw [if_neg h0]; exact h1, hX⟩
    clear h1 hx1 hX HT
    generalize (dg n).length = k at *
    go_wp2
    go_ret
    exact HP.out
theorem red_num' {z : Int} {y : Nat} (hy : 0 < y) : sg (decide (z < 0)) (z.natAbs / Nat.gcd z.natAbs y) = (mkRat z y).num ∧ y / Nat.gcd z.natAbs y = (mkRat z y).den := by
  have hg : 0 < Nat.gcd z.natAbs y := Nat.gcd_pos_of_pos_right _ hy
  obtain ⟨h1, h2⟩ := red_num (z := z) hy
  refine ⟨?_, ?_⟩
  · rw [← h1, ← sg_tdiv, Int.natAbs_natCast]
    congr 1
    rw [sign_pos hg, Int.mul_one]
    by_cases hz : z < 0
    · rw [Int.sign_eq_neg_one_of_neg hz]; simp [hz]
    · have : ¬ z.sign < 0 := by
        rcases Int.lt_or_eq_of_le (Int.not_lt.1 hz) with h | h
        · rw [Int.sign_eq_one_of_pos h]; omega
        · rw [← h]; decide
      rw [decide_eq_false hz, decide_eq_false this]
  · rw [tdiv_nat] at h2; omega
set_option maxRecDepth 100000 in
set_option maxHeartbeats 8000000 in
theorem Rrbuild_any (w : World) (v : Value) (z : Int) (y L : Nat) (u : Value) (h : Rint w v z L) (hu : IsNat w u y) (hy : 0 < y) (hL : L ≤ 67108864) (hul : (dg y).length ≤ 67108864) :
    Calls Tryz.prog 77 #[v, u] w (RatPost w (mkRat z y)) := by
  have hlz := h.len
  obtain ⟨hq1, hq2⟩ := red_num' (z := z) hy
  have hg : 0 < Nat.gcd z.natAbs y := Nat.gcd_pos_of_pos_right _ hy
  have hgl : (dg (Nat.gcd z.natAbs y)).length ≤ 67108864 := Nat.le_trans (dg_mono (Nat.gcd_le_right _ hy)) hul
  have HF := Lib.hid (fun W (hW : Ext (fun _ => False) w W) => Rfix_any W v z L (h.keep hW) (by omega))
  have HG := Lib.hid (fun W a b (ha : IsNat W a z.natAbs) (hb : IsNat W b y) => Rgcd_any W a b _ _ ha hb (by omega) (by omega))
  have HD1 := Lib.hid (fun W a b (ha : IsNat W a z.natAbs) (hb : IsNat W b (Nat.gcd z.natAbs y)) => Rdivmod_any W a b _ _ ha hb (by omega) (by omega) (by rw [vl_dg]; omega))
  have HD2 := Lib.hid (fun W a b (ha : IsNat W a y) (hb : IsNat W b (Nat.gcd z.natAbs y)) => Rdivmod_any W a b _ _ ha hb (by omega) (by omega) (by rw [vl_dg]; omega))
  unfold RDivPost at HD1 HD2
  simp only [vl_dg] at HG HD1 HD2
  have hml : (dg (z.natAbs / Nat.gcd z.natAbs y)).length ≤ 67108864 := Nat.le_trans (dg_mono (Nat.div_le_self _ _)) (by omega)
  have hdl : (dg (y / Nat.gcd z.natAbs y)).length ≤ 67108864 := Nat.le_trans (dg_mono (Nat.div_le_self _ _)) hul
  have HF2 := Lib.hid (fun W a (ha : IsNat W a (z.natAbs / Nat.gcd z.natAbs y)) => Rfix_any W (.agg #[.bool (decide (z < 0)), a]) (sg (decide (z < 0)) (z.natAbs / Nat.gcd z.natAbs y)) 67108864 ⟨_, a, _, rfl, ha, hml, by rw [vl_dg]⟩ (by omega))
  rw [hq1] at HF2
  rw [hq2] at HD2 hdl
  have HS := Lib.hid (fun W a b (ha : IsNat W a (mkRat z y).den) (hb : Rds W b [1]) => Same_any W a b _ _ ha hb (by omega) (by simp))
  generalize Nat.gcd z.natAbs y = g at *
  obtain ⟨q, hq⟩ : ∃ q, mkRat z y = q := ⟨_, rfl⟩
  rw [hq] at HF2 HD2 HS ⊢
  obtain ⟨neg, ao, m, c, l, rfl, _, _, _⟩ := h.open
  obtain ⟨uo, uc, rfl⟩ := hu.shape
  have Hu := Lib.hid hu
  clear h hu hg hgl hq1 hq2 hlz hml hdl hq hul
  generalize (dg y).length = ly at *
  generalize hX : z.natAbs = X at *
  generalize X / g = X2 at *
  generalize X % g = X3 at *
  generalize y % g = X4 at *
  have HX := Lib.hid hX
  clear hX
  obtain ⟨sz, hsz⟩ : ∃ sz, decide (z < 0) = sz := ⟨_, rfl⟩
  rw [hsz] at HF2
  have Hsz := Lib.hid hsz
  clear hsz
  go_enter Tryz.func77, Tryz.ntmps77
  go_upto_region 0 with fail
  go_cut [2, 4] (fun v2 v4 wx => ∃ b r, v2 = .pointer (some ⟨b, 0, none⟩) ∧ v4 = .pointer (some ⟨r, 0, none⟩) ∧ BoxI wx b neg (.slice ao m c) ∧ BoxR wx r false (.slice none 0 0) (.slice none 0 0) ∧ ¬ b = r ∧ w.heap.size ≤ b ∧ w.heap.size ≤ r ∧ Ext (fun _ => False) w wx)
  case first =>
    go_wp2
    go_meet
    exact ⟨_, _, rfl, rfl, (boxI_new rfl neg ao m c).alloc _, boxR_new (by simp) false none 0 0 none 0 0, (by omega), (by omega), (by omega), ((Ext.refl _ w).alloc _).alloc _⟩
  case rest =>
    obtain ⟨b, r, rfl, rfl, hb, hrb, n1, le1, le2, hx⟩ := hcut
    obtain ⟨c0, c1, c2, c3⟩ := hb.facts
    have HB := Lib.hid (And.intro hb (And.intro hrb hx))
    clear hb hrb hx
    go_wp2_with fail
    refine (HF.out _ HB.out.2.2).mono ?_
    rintro r1 w1 ⟨v1, rfl, h1, hx1⟩
    have hb1 := HB.out.1.ext hx1 id
    obtain ⟨c0, c1, c2, c3⟩ := hb1.facts
    obtain ⟨mag, hv, hm⟩ := h1
    obtain ⟨so, sc, rfl⟩ := hm.shape
    subst hv
    rw [HX.out] at hm ⊢
    rw [Hsz.out]
    have hp := hb1.put (neg := sz) (no_int so (dg X).length sc)
    have HI := Lib.hid (And.intro hp.box (And.intro ((HB.out.2.1.ext hx1 id).ext hp.ext (fun e => n1 e.symm)) (And.intro ((HB.out.2.2.trans hx1).own hp.ext (fun k e => by omega)) (And.intro (hp.rds _ _ hm) (hp.rds _ _ (Hu.out.keep (HB.out.2.2.trans hx1)))))))
    generalize (dg X).length = lX at *
    clear hp hb1 hm hx1 HB
    go_upto_region 2 with fail
    generalize (w1.setCell ⟨b, 0, none⟩ (.bool sz)).setCell ⟨b, 1, none⟩ (.slice so lX sc) = w2 at *
    obtain ⟨c0, c1, _⟩ := HI.out.1.facts
    have HG2 := Lib.hid (HG.out w2 _ _ HI.out.2.2.2.1 HI.out.2.2.2.2)
    go_wp2_with fail
    refine HG2.out.mono ?_
    rintro r3 w3 ⟨vg, rfl, hg3, hx3⟩
    obtain ⟨c0, c1, _⟩ := (HI.out.1.ext hx3 id).facts
    have HD3 := Lib.hid (HD1.out w3 _ _ (Rds.keep HI.out.2.2.2.1 hx3) hg3)
    have HX3 := Lib.hid (And.intro hx3 hg3)
    obtain ⟨go, gc, rfl⟩ := hg3.shape
    generalize (dg g).length = lg at *
    clear hx3 hg3 HG2
    go_wp2_with fail
    refine HD3.out.mono ?_
    rintro r4 w4 ⟨vm, vr, rfl, hm4, _, hx4⟩
    have hX4 := HX3.out.1.trans hx4
    have HD4 := Lib.hid (HD2.out w4 _ _ (Rds.keep HI.out.2.2.2.2 hX4) (HX3.out.2.keep hx4))
    have HX4 := Lib.hid (And.intro hX4 hm4)
    obtain ⟨mo, mc, rfl⟩ := hm4.shape
    clear hX4 hx4 hm4 HD3
    go_wp2_with fail
    refine HD4.out.mono ?_
    rintro r5 w5 ⟨vd, vs, rfl, hd5, _, hx5⟩
    have hX5 := HX4.out.1.trans hx5
    have hx6 : Ext (fun _ => False) w5 (w5.alloc (.cells #[.int .u32 1] 127)) := (Ext.refl _ w5).alloc _
    have HS6 := Lib.hid (HS.out _ _ _ (hd5.keep hx6) (one_rds w5))
    obtain ⟨dO, dc, rfl⟩ := hd5.shape
    have HX5 := Lib.hid (And.intro (hX5.trans hx6) (And.intro (hd5.keep hx6) (HX4.out.2.keep (hx5.trans hx6))))
    clear hX5 hx5 hx6 hd5 HD4
    have hd1 : (decide (dg q.den = [1])) = decide (q.den = 1) := by
      by_cases h : q.den = 1
      · rw [h, dg_1]; rfl
      · rw [decide_eq_false h]
        exact decide_eq_false (fun e => h (by have := congrArg vl e; rw [vl_dg] at this; simpa [vl] using this))
    rw [hd1] at HS6
    clear hd1
    generalize (dg q.den).length = ld at *
    generalize (dg X2).length = lm at *
    by_cases hden : q.den = 1
    · rw [decide_eq_true hden] at HS6
      have Hden := Lib.hid hden
      clear hden
      go_wp2_with fail
      refine HS6.out.mono ?_
      rintro r7 w7 ⟨rfl, hx7⟩
      have hX7 := HX5.out.1.trans hx7
      obtain ⟨c0, c1, _⟩ := (HI.out.1.ext hX7 id).facts
      have HF7 := Lib.hid (HF2.out w7 _ (HX5.out.2.2.keep hx7))
      have HX7 := Lib.hid hX7
      clear hX7 hx7 HS6
      go_wp2_with fail
      refine HF7.out.mono ?_
      rintro r8 w8 ⟨v8, rfl, h8, hx8⟩
      obtain ⟨n8, ao8, l8, c8, rfl⟩ := h8.shape
      have hX8 := HX7.out.trans hx8
      have hr8 := HI.out.2.1.ext hX8 id
      obtain ⟨d0, d1, d2, d3, d4, d5⟩ := hr8.facts
      have hp := hr8.put (neg := n8) (no_int ao8 l8 c8) (no_int none 0 0)
      have hR0 : IsRat w8 (.agg #[.bool n8, .slice ao8 l8 c8, .slice none 0 0]) q := IsRat.mk h8 (by rw [Hden.out]; exact IsNat.nil w8)
      have HR := Lib.hid (And.intro (hp.rat hR0) (And.intro ((HI.out.2.2.1.trans hX8).own hp.ext (fun k e => by omega)) hp.box))
      clear hp hR0 h8 hr8 hX8 hx8
      go_wp2
      generalize ((w8.setCell ⟨r, 0, none⟩ (.bool n8)).setCell ⟨r, 1, none⟩ (.slice ao8 l8 c8)).setCell ⟨r, 2, none⟩ (.slice none 0 0) = w9 at *
      obtain ⟨g0, g1, g2, _⟩ := HR.out.2.2.facts
      exact bodyPost_ret (v := .agg #[.bool n8, .slice ao8 l8 c8, .slice none 0 0]) (by simp [results, Tryz.results77, go_sem, g0, g1, g2]) rfl ⟨_, rfl, HR.out.1, HR.out.2.1⟩
    · rw [decide_eq_false hden] at HS6
      have Hden := Lib.hid hden
      clear hden
      go_wp2_with fail
      refine HS6.out.mono ?_
      rintro r7 w7 ⟨rfl, hx7⟩
      have hX7 := HX5.out.1.trans hx7
      obtain ⟨c0, c1, _⟩ := (HI.out.1.ext hX7 id).facts
      have HF7 := Lib.hid (HF2.out w7 _ (HX5.out.2.2.keep hx7))
      have HX7 := Lib.hid (And.intro hX7 (HX5.out.2.1.keep hx7))
      clear hX7 hx7 HS6
      go_wp2_with fail
      refine HF7.out.mono ?_
      rintro r8 w8 ⟨v8, rfl, h8, hx8⟩
      obtain ⟨n8, ao8, l8, c8, rfl⟩ := h8.shape
      have hX8 := HX7.out.1.trans hx8
      have hr8 := HI.out.2.1.ext hX8 id
      obtain ⟨d0, d1, d2, d3, d4, d5⟩ := hr8.facts
      have hp := hr8.put (neg := n8) (no_int ao8 l8 c8) (no_int dO ld dc)
      have hR0 : IsRat w8 (.agg #[.bool n8, .slice ao8 l8 c8, .slice dO ld dc]) q := IsRat.mk h8 (by unfold dw; rw [if_neg Hden.out]; exact HX7.out.2.keep hx8)
      have HR := Lib.hid (And.intro (hp.rat hR0) (And.intro ((HI.out.2.2.1.trans hX8).own hp.ext (fun k e => by omega)) hp.box))
      clear hp hR0 h8 hr8 hX8 hx8
      go_wp2
      generalize ((w8.setCell ⟨r, 0, none⟩ (.bool n8)).setCell ⟨r, 1, none⟩ (.slice ao8 l8 c8)).setCell ⟨r, 2, none⟩ (.slice dO ld dc) = w9 at *
      obtain ⟨g0, g1, g2, _⟩ := HR.out.2.2.facts
      exact bodyPost_ret (v := .agg #[.bool n8, .slice ao8 l8 c8, .slice dO ld dc]) (by simp [results, Tryz.results77, go_sem, g0, g1, g2]) rfl ⟨_, rfl, HR.out.1, HR.out.2.1⟩
end Go.Proofs.YtbgienfcmdgaaaaGreat
/-
  Package exodusref03: Fix, From, Sign, Neg, Mul, Same. Conditions: the arguments read as fractions, lengths bounded.
-/
namespace Go.Proofs.YtbgienfcmdgaaaaGreat
open Go.RowKit Go.MapKept
open Go.ChangeMaps (setBlock)

theorem PutR.nat {w w' : World} {r : Nat} {neg : Bool} {mag den v : Value} {n : Nat} (h : PutR w w' r neg mag den) (hi : IsNat w v n) : IsNat w' v n := h.rds _ _ hi
set_option maxRecDepth 100000 in
set_option maxHeartbeats 8000000 in
theorem Rrfix_any (w : World) (v : Value) (q : Rat) (L : Nat) (h : Rrat w v q L) (h0 : 1 ≤ L) (hL : L ≤ 67108864) :
    Calls Tryz.prog 45 #[v] w (RatPost w (q)) := by
  obtain ⟨n1, a1, l1, c1, x1, y1, k1, l, d, rfl, hr, hd, hm, hdl, hq⟩ := h.open
  clear hm
  have HD1 := Lib.hid (fun W (hW : Ext (fun _ => False) w W) => Rden_any W n1 a1 l1 c1 x1 y1 k1 d (hd.keep hW) (by omega))
  have HRd := Lib.hid (fun W (hW : Ext (fun _ => False) w W) u' (hu' : IsNat W u' (dn (vl d))) => Rrbuild_any W _ _ _ L u' (hr.keep hW) hu' (dn_pos _) hL (Nat.le_trans (dn_len hd hdl h0) hL))
  rw [← hq] at HRd
  clear hr hd hdl hq h
  generalize dn (vl d) = D1 at *
  go_enter Tryz.func45, Tryz.ntmps45
  go_upto_region 0 with fail
  go_cut [1, 2] (fun v1 v3 wx => ∃ b1 r, v1 = .pointer (some ⟨b1, 0, none⟩) ∧ v3 = .pointer (some ⟨r, 0, none⟩) ∧ BoxR wx b1 n1 (.slice a1 l1 c1) (.slice x1 y1 k1) ∧ BoxR wx r false (.slice none 0 0) (.slice none 0 0) ∧ b1 < r ∧ w.heap.size ≤ r ∧ Ext (fun _ => False) w wx)
  case first =>
    go_wp2
    go_meet
    exact ⟨_, _, rfl, rfl, (boxR_new rfl n1 a1 l1 c1 x1 y1 k1).alloc _, boxR_new (by simp) false none 0 0 none 0 0, (by omega), (by omega), ((Ext.refl _ w).alloc _).alloc _⟩
  case rest =>
    obtain ⟨b1, r, rfl, rfl, hb1, hrb, i1, hle, hx⟩ := hcut
    have hS := SR1.of hb1
    have HB := Lib.hid (And.intro hb1 (And.intro hrb hx))
    clear hb1 hrb hx
    go_upto_region 1 with fail
    go_region_held3 (SR1 b1 n1 (.slice a1 l1 c1) (.slice x1 y1 k1))
      (repeat (first | (with_reducible assumption) | (with_reducible refine SR1.drew ?_) | (with_reducible refine SR1.set ?_ _ _ ?_) | (dsimp only; omega)))
      (first
        | (go_at_call 76; (with_reducible refine (HD1.out _ HB.out.2.2.drew).mono ?_); rintro q2 w12 ⟨v12, rfl, h12, hx12⟩; have hX2 := (Ext.refl (fun _ => False) wc).drew.trans hx12; have hK2 := SR1.of (HB.out.1.ext hX2 id); have hR := HRd.out w12 (HB.out.2.2.trans hX2) _ h12; obtain ⟨ag2, cg2, rfl⟩ := h12.shape)
        | (go_at_call 77; (with_reducible refine hR.mono ?_); rintro q4 w14 ⟨v14, rfl, h14, hx14⟩; have hX4 := hX2.trans hx14; have hK4 := SR1.of (HB.out.1.ext hX4 id); have hr4 := HB.out.2.1.ext hX4 id; obtain ⟨d0, d1, d2, d3, d4, d5⟩ := hr4.facts; obtain ⟨ng, sa, sn, sc, ta, tn, tc, rfl⟩ := h14.shape))
    have hp := hr4.put (neg := ng) (no_int sa sn sc) (no_int ta tn tc)
    have HR := Lib.hid (And.intro (hp.rat h14) (And.intro ((HB.out.2.2.trans hX4).own hp.ext (fun k e => by omega)) hp.box))
    clear hp hr4 h14 hX4 h12 hx12 hx14 hX2 hK2 hK4 hR hS d0 d1 d2 d3 d4 d5
    generalize ((w14.setCell ⟨r, 0, none⟩ (.bool ng)).setCell ⟨r, 1, none⟩ (.slice sa sn sc)).setCell ⟨r, 2, none⟩ (.slice ta tn tc) = w20 at *
    obtain ⟨g0, g1, g2, _⟩ := HR.out.2.2.facts
    go_wp2
    exact bodyPost_ret (v := .agg #[.bool ng, .slice sa sn sc, .slice ta tn tc]) (by simp [results, Tryz.results45, go_sem, g0, g1, g2]) rfl ⟨_, rfl, HR.out.1, HR.out.2.1⟩
set_option maxRecDepth 100000 in
set_option maxHeartbeats 8000000 in
theorem Rrneg_any (w : World) (v : Value) (q : Rat) (L : Nat) (h : Rrat w v q L) (h0 : 1 ≤ L) (hL : L ≤ 67108864) :
    Calls Tryz.prog 121 #[v] w (RatPost w (-q)) := by
  obtain ⟨n1, a1, l1, c1, x1, y1, k1, l, d, rfl, hr, hd, hm, hdl, hq⟩ := h.open
  clear hm
  have HN := Lib.hid (fun W (hW : Ext (fun _ => False) w W) => Rneg_any W _ _ L (hr.keep hW) (by omega))
  have hnl : (dg (-sg n1 (vl l)).natAbs).length ≤ L := by rw [Int.natAbs_neg]; exact hr.len
  have HD1 := Lib.hid (fun W (hW : Ext (fun _ => False) w W) => Rden_any W n1 a1 l1 c1 x1 y1 k1 d (hd.keep hW) (by omega))
  have HRd := Lib.hid (fun W u u' (hu : IsInt W u (-sg n1 (vl l))) (hu' : IsNat W u' (dn (vl d))) => Rrbuild_any W u (-sg n1 (vl l)) (dn (vl d)) L u' (hu.reads hnl) hu' (dn_pos _) hL (Nat.le_trans (dn_len hd hdl h0) hL))
  rw [← Rat.neg_mkRat, ← hq] at HRd
  clear hnl
  generalize -sg n1 (vl l) = Z at *
  generalize -q = Q at *
  clear hr hd hdl hq h
  generalize dn (vl d) = D1 at *
  go_enter Tryz.func121, Tryz.ntmps121
  go_upto_region 0 with fail
  go_cut [1, 2] (fun v1 v3 wx => ∃ b1 r, v1 = .pointer (some ⟨b1, 0, none⟩) ∧ v3 = .pointer (some ⟨r, 0, none⟩) ∧ BoxR wx b1 n1 (.slice a1 l1 c1) (.slice x1 y1 k1) ∧ BoxR wx r false (.slice none 0 0) (.slice none 0 0) ∧ b1 < r ∧ w.heap.size ≤ r ∧ Ext (fun _ => False) w wx)
  case first =>
    go_wp2
    go_meet
    exact ⟨_, _, rfl, rfl, (boxR_new rfl n1 a1 l1 c1 x1 y1 k1).alloc _, boxR_new (by simp) false none 0 0 none 0 0, (by omega), (by omega), ((Ext.refl _ w).alloc _).alloc _⟩
  case rest =>
    obtain ⟨b1, r, rfl, rfl, hb1, hrb, i1, hle, hx⟩ := hcut
    have hS := SR1.of hb1
    have HB := Lib.hid (And.intro hb1 (And.intro hrb hx))
    clear hb1 hrb hx
    go_upto_region 1 with fail
    go_region_held3 (SR1 b1 n1 (.slice a1 l1 c1) (.slice x1 y1 k1))
      (repeat (first | (with_reducible assumption) | (with_reducible refine SR1.drew ?_) | (with_reducible refine SR1.set ?_ _ _ ?_) | (dsimp only; omega)))
      (first
        | (go_at_call 166; (with_reducible refine (HN.out _ HB.out.2.2.drew).mono ?_); rintro q1 w11 ⟨v11, rfl, h11, hx11⟩; have hX1 := (Ext.refl (fun _ => False) wc).drew.trans hx11; have hK1 := SR1.of (HB.out.1.ext hX1 id); obtain ⟨ng1, ag1, lg1, cg1, rfl⟩ := h11.shape)
        | (go_at_call 76; (with_reducible refine (HD1.out _ (HB.out.2.2.trans hX1)).mono ?_); rintro q2 w12 ⟨v12, rfl, h12, hx12⟩; have hX2 := hX1.trans hx12; have hK2 := SR1.of (HB.out.1.ext hX2 id); have hR := HRd.out w12 _ _ (h11.keep hx12) h12; obtain ⟨ag2, cg2, rfl⟩ := h12.shape)
        | (go_at_call 77; (with_reducible refine hR.mono ?_); rintro q4 w14 ⟨v14, rfl, h14, hx14⟩; have hX4 := hX2.trans hx14; have hK4 := SR1.of (HB.out.1.ext hX4 id); have hr4 := HB.out.2.1.ext hX4 id; obtain ⟨d0, d1, d2, d3, d4, d5⟩ := hr4.facts; obtain ⟨ng, sa, sn, sc, ta, tn, tc, rfl⟩ := h14.shape))
    have hp := hr4.put (neg := ng) (no_int sa sn sc) (no_int ta tn tc)
    have HR := Lib.hid (And.intro (hp.rat h14) (And.intro ((HB.out.2.2.trans hX4).own hp.ext (fun k e => by omega)) hp.box))
    clear hp hr4 h14 hX4 h11 h12 hx11 hx12 hx14 hX1 hX2 hK1 hK2 hK4 hR hS d0 d1 d2 d3 d4 d5
    generalize ((w14.setCell ⟨r, 0, none⟩ (.bool ng)).setCell ⟨r, 1, none⟩ (.slice sa sn sc)).setCell ⟨r, 2, none⟩ (.slice ta tn tc) = w20 at *
    obtain ⟨g0, g1, g2, _⟩ := HR.out.2.2.facts
    go_wp2
    exact bodyPost_ret (v := .agg #[.bool ng, .slice sa sn sc, .slice ta tn tc]) (by simp [results, Tryz.results121, go_sem, g0, g1, g2]) rfl ⟨_, rfl, HR.out.1, HR.out.2.1⟩
set_option maxRecDepth 100000 in
set_option maxHeartbeats 8000000 in
theorem Rrmul_any (w : World) (v v' : Value) (q q' : Rat) (L : Nat) (h : Rrat w v q L) (h' : Rrat w v' q' L) (h0 : 1 ≤ L) (hL : L ≤ 16777216) :
    Calls Tryz.prog 31 #[v, v'] w (RatPost w (q * q')) := by
  obtain ⟨n1, a1, l1, c1, x1, y1, k1, l, d, rfl, hr, hd, hm, hdl, hq⟩ := h.open
  clear hm
  obtain ⟨n2, a2, l2, c2, x2, y2, k2, l', d', rfl, hr', hd', hm, hdl', hq'⟩ := h'.open
  clear hm
  have HM := Lib.hid (fun W (hW : Ext (fun _ => False) w W) => Rimul_any W _ _ _ _ L (hr.keep hW) (hr'.keep hW) (by omega))
  have HD1 := Lib.hid (fun W (hW : Ext (fun _ => False) w W) => Rden_any W n1 a1 l1 c1 x1 y1 k1 d (hd.keep hW) (by omega))
  have HD2 := Lib.hid (fun W (hW : Ext (fun _ => False) w W) => Rden_any W n2 a2 l2 c2 x2 y2 k2 d' (hd'.keep hW) (by omega))
  have hdl1 := dn_len hd hdl h0
  have hdl2 := dn_len hd' hdl' h0
  have HN := Lib.hid (fun W u u' (hu : IsNat W u (dn (vl d))) (hu' : IsNat W u' (dn (vl d'))) => Rmul_any W u u' _ _ hu hu' (by omega) (by omega))
  simp only [vl_dg] at HN
  have hYl := dg_len_mul (Nat.lt_of_lt_of_le (dg_lt (dn (vl d))) (pow_mono hdl1)) (Nat.lt_of_lt_of_le (dg_lt (dn (vl d'))) (pow_mono hdl2))
  have hZl := len_mul hr.len hr'.len
  have HRd := Lib.hid (fun W u u' (hu : IsInt W u (sg n1 (vl l) * sg n2 (vl l'))) (hu' : IsNat W u' (dn (vl d) * dn (vl d'))) => Rrbuild_any W u (sg n1 (vl l) * sg n2 (vl l')) (dn (vl d) * dn (vl d')) (L + L) u' (hu.reads hZl) hu' (Nat.mul_pos (dn_pos _) (dn_pos _)) (by omega) (by omega))
  have hres : mkRat (sg n1 (vl l) * sg n2 (vl l')) (dn (vl d) * dn (vl d')) = q * q' := by
    rw [hq, hq', Rat.mkRat_mul_mkRat]
  rw [hres] at HRd
  clear hr hr' hd hd' hdl hdl' hq hq' h h' hres hZl hYl hdl1 hdl2
  generalize q * q' = Q at *
  generalize sg n1 (vl l) * sg n2 (vl l') = Z at *
  generalize hP : dn (vl d) * dn (vl d') = Y at *
  clear hP
  generalize dn (vl d) = D1 at *
  generalize dn (vl d') = D2 at *
  go_enter Tryz.func31, Tryz.ntmps31
  go_upto_region 0 with fail
  go_cut [2, 3, 4] (fun v1 v2 v3 wx => ∃ b1 b2 r, v1 = .pointer (some ⟨b1, 0, none⟩) ∧ v2 = .pointer (some ⟨b2, 0, none⟩) ∧ v3 = .pointer (some ⟨r, 0, none⟩) ∧ BoxR wx b1 n1 (.slice a1 l1 c1) (.slice x1 y1 k1) ∧ BoxR wx b2 n2 (.slice a2 l2 c2) (.slice x2 y2 k2) ∧ BoxR wx r false (.slice none 0 0) (.slice none 0 0) ∧ b1 < r ∧ b2 < r ∧ w.heap.size ≤ r ∧ Ext (fun _ => False) w wx)
  case first =>
    go_wp2
    go_meet
    exact ⟨_, _, _, rfl, rfl, rfl, ((boxR_new rfl n1 a1 l1 c1 x1 y1 k1).alloc _).alloc _, (boxR_new (by simp) n2 a2 l2 c2 x2 y2 k2).alloc _, boxR_new (by simp) false none 0 0 none 0 0, (by omega), (by omega), (by omega), (((Ext.refl _ w).alloc _).alloc _).alloc _⟩
  case rest =>
    obtain ⟨b1, b2, r, rfl, rfl, rfl, hb1, hb2, hrb, i1, i2, hle, hx⟩ := hcut
    have hS := SR2.of hb1 hb2
    have HB := Lib.hid (And.intro hb1 (And.intro hb2 (And.intro hrb hx)))
    clear hb1 hb2 hrb hx
    go_upto_region 1 with fail
    go_region_held3 (SR2 b1 b2 n1 n2 (.slice a1 l1 c1) (.slice x1 y1 k1) (.slice a2 l2 c2) (.slice x2 y2 k2))
      (repeat (first | (with_reducible assumption) | (with_reducible refine SR2.drew ?_) | (with_reducible refine SR2.set ?_ _ _ ?_ ?_) | (dsimp only; omega)))
      (first
        | (go_at_call 75; (with_reducible refine (HM.out _ HB.out.2.2.2.drew).mono ?_); rintro q1 w11 ⟨v11, rfl, h11, hx11⟩; have hX1 := (Ext.refl (fun _ => False) wc).drew.trans hx11; have hK1 := SR2.of (HB.out.1.ext hX1 id) (HB.out.2.1.ext hX1 id); obtain ⟨ng1, ag1, lg1, cg1, rfl⟩ := h11.shape)
        | (go_at_call 76; (with_reducible refine (HD1.out _ (HB.out.2.2.2.trans hX1)).mono ?_); rintro q2 w12 ⟨v12, rfl, h12, hx12⟩; have hX2 := hX1.trans hx12; have hK2 := SR2.of (HB.out.1.ext hX2 id) (HB.out.2.1.ext hX2 id); obtain ⟨ag2, cg2, rfl⟩ := h12.shape)
        | (go_at_call 76; (with_reducible refine (HD2.out _ (HB.out.2.2.2.trans hX2)).mono ?_); rintro q3 w13 ⟨v13, rfl, h13, hx13⟩; have hX3 := hX2.trans hx13; have hK3 := SR2.of (HB.out.1.ext hX3 id) (HB.out.2.1.ext hX3 id); have hN := HN.out w13 _ _ (h12.keep hx13) h13; obtain ⟨ag3, cg3, rfl⟩ := h13.shape)
        | (go_at_call 79; (with_reducible refine hN.mono ?_); rintro q5 w15 ⟨v15, rfl, h15, hx15⟩; have hX5 := hX3.trans hx15; have hK5 := SR2.of (HB.out.1.ext hX5 id) (HB.out.2.1.ext hX5 id); have hR := HRd.out w15 _ _ (h11.keep (hx12.trans (hx13.trans hx15))) h15; obtain ⟨ag5, cg5, rfl⟩ := h15.shape)
        | (go_at_call 77; (with_reducible refine hR.mono ?_); rintro q4 w14 ⟨v14, rfl, h14, hx14⟩; have hX4 := hX5.trans hx14; have hK4 := SR2.of (HB.out.1.ext hX4 id) (HB.out.2.1.ext hX4 id); have hr4 := HB.out.2.2.1.ext hX4 id; obtain ⟨d0, d1, d2, d3, d4, d5⟩ := hr4.facts; obtain ⟨ng, sa, sn, sc, ta, tn, tc, rfl⟩ := h14.shape))
    have hp := hr4.put (neg := ng) (no_int sa sn sc) (no_int ta tn tc)
    have HR := Lib.hid (And.intro (hp.rat h14) (And.intro ((HB.out.2.2.2.trans hX4).own hp.ext (fun k e => by omega)) hp.box))
    clear hp hr4 h14 hX4 h11 h12 h13 h15 hx11 hx12 hx13 hx14 hx15 hX1 hX2 hX3 hX5 hK1 hK2 hK3 hK4 hK5 hN hR hS d0 d1 d2 d3 d4 d5
    generalize ((w14.setCell ⟨r, 0, none⟩ (.bool ng)).setCell ⟨r, 1, none⟩ (.slice sa sn sc)).setCell ⟨r, 2, none⟩ (.slice ta tn tc) = w20 at *
    obtain ⟨g0, g1, g2, _⟩ := HR.out.2.2.facts
    go_wp2
    exact bodyPost_ret (v := .agg #[.bool ng, .slice sa sn sc, .slice ta tn tc]) (by simp [results, Tryz.results31, go_sem, g0, g1, g2]) rfl ⟨_, rfl, HR.out.1, HR.out.2.1⟩
set_option maxRecDepth 100000 in
set_option maxHeartbeats 4000000 in
theorem Rrfrom_any (w : World) (k : Int) (h0 : -9223372036854775808 ≤ k) (h1 : k ≤ 9223372036854775807) :
    Calls Tryz.prog 32 #[.int .i64 k] w (RatPost w (k : Rat)) := by
  have HF := Lib.hid (fun W => Rifrom_any W k h0 h1)
  obtain ⟨q, hq⟩ : ∃ q : Rat, (k : Rat) = q := ⟨_, rfl⟩
  have hof : ∀ W neg mag, IsInt W (.agg #[.bool neg, mag]) k → IsRat W (.agg #[.bool neg, mag, .slice none 0 0]) q := fun W neg mag h => by rw [← hq]; exact IsRat.ofInt h
  have Hof := Lib.hid hof
  rw [hq]
  clear hof hq h0 h1
  go_enter Tryz.func32, Tryz.ntmps32
  go_wp2_with fail
  refine (HF.out _).mono ?_
  rintro r w6 ⟨v6, rfl, h6, hx6⟩
  have hr6 := (boxR_new rfl false none 0 0 none 0 0 (W := w)).ext hx6 id
  obtain ⟨d0, d1, d2, d3, d4, d5⟩ := hr6.facts
  have hX6 := ((Ext.refl (fun _ => False) w).alloc _).trans hx6
  obtain ⟨neg6, so, sn, sc, rfl⟩ := h6.shape
  have hp := hr6.put (neg := neg6) (no_int so sn sc) (no_int none 0 0)
  have HR := Lib.hid (And.intro (hp.rat (Hof.out _ _ _ h6)) (And.intro (hX6.own hp.ext (fun k e => by omega)) hp.box))
  clear hp h6 hX6 hr6 hx6
  go_wp2
  generalize ((w6.setCell ⟨w.heap.size, 0, none⟩ (.bool neg6)).setCell ⟨w.heap.size, 1, none⟩ (.slice so sn sc)).setCell ⟨w.heap.size, 2, none⟩ (.slice none 0 0) = w9 at *
  obtain ⟨g0, g1, g2, _⟩ := HR.out.2.2.facts
  exact bodyPost_ret (v := .agg #[.bool neg6, .slice so sn sc, .slice none 0 0]) (by simp [results, Tryz.results32, go_sem, g0, g1, g2]) rfl ⟨_, rfl, HR.out.1, HR.out.2.1⟩
set_option maxRecDepth 100000 in
set_option maxHeartbeats 4000000 in
theorem Rrsign_any (w : World) (v : Value) (q : Rat) (L : Nat) (h : Rrat w v q L) (hL : L ≤ 268435455) :
    Calls Tryz.prog 35 #[v] w fun r w' => r = .returned (.int .i64 q.num.sign) ∧ Ext (fun _ => False) w w' := by
  obtain ⟨neg, ao, m, c, ao', m', c', l, d, rfl, h1, _, _, _, rfl⟩ := h.open
  rw [sign_mkRat _ (dn_pos _)]
  have HS := Lib.hid (fun W (hW : Ext (fun _ => False) w W) => Risign_any W _ _ L (h1.keep hW) hL)
  generalize sg neg (vl l) = z at *
  clear h h1
  go_enter Tryz.func35, Tryz.ntmps35
  go_wp2_with fail
  refine (HS.out _ ((Ext.refl _ w).alloc _)).mono ?_
  rintro r6 w6 ⟨rfl, hx6⟩
  have HX6 := Lib.hid (((Ext.refl (fun _ => False) w).alloc _).trans hx6)
  clear hx6
  go_wp2
  go_ret
  exact ⟨rfl, HX6.out⟩
set_option maxRecDepth 100000 in
set_option maxHeartbeats 4000000 in
theorem Rrsame_any (w : World) (v v' : Value) (q q' : Rat) (L : Nat) (h : IsRat w v q) (h' : IsRat w v' q') (hs : Sz q L) (hs' : Sz q' L) (hL : L ≤ 268435455) :
    Calls Tryz.prog 44 #[v, v'] w fun r w' => r = .returned (.bool (decide (q = q'))) ∧ Ext (fun _ => False) w w' := by
  obtain ⟨mag, e, rfl, h1, h2⟩ := h
  obtain ⟨mag', e', rfl, h1', h2'⟩ := h'
  obtain ⟨ao, c, rfl⟩ := h1.shape
  obtain ⟨eo, ec, rfl⟩ := h2.shape
  obtain ⟨ao', c', rfl⟩ := h1'.shape
  obtain ⟨eo', ec', rfl⟩ := h2'.shape
  have HI := Lib.hid (fun W (hW : Ext (fun _ => False) w W) => Risame_any W (decide (q.num < 0)) (decide (q'.num < 0)) ao ao' _ c _ c' _ _ (Rds.keep h1 hW) (Rds.keep h1' hW) (Nat.le_trans hs.1 hL) (Nat.le_trans hs'.1 hL))
  have HN := Lib.hid (fun W (hW : Ext (fun _ => False) w W) => Same_any W _ _ _ _ (Rds.keep h2 hW) (Rds.keep h2' hW) (Nat.le_trans (Nat.le_trans (dg_mono (dw_le _)) hs.2) (by omega)) (Nat.le_trans (Nat.le_trans (dg_mono (dw_le _)) hs'.2) (by omega)))
  have hI : (decide (q.num < 0) == decide (q'.num < 0) && decide (dg q.num.natAbs = dg q'.num.natAbs)) = decide (q.num = q'.num) := by
    by_cases he : q.num = q'.num
    · rw [he]; simp
    · rw [decide_eq_false he]
      by_cases hd : dg q.num.natAbs = dg q'.num.natAbs
      · have hn : q.num.natAbs = q'.num.natAbs := by have := congrArg vl hd; rwa [vl_dg, vl_dg] at this
        rw [decide_eq_true hd, Bool.and_true]
        by_cases h1 : q.num < 0
        · rw [decide_eq_true h1, decide_eq_false (by omega)]; rfl
        · rw [decide_eq_false h1, decide_eq_true (by omega)]; rfl
      · rw [decide_eq_false hd, Bool.and_false]
  have hN : (decide (dg (dw q.den) = dg (dw q'.den))) = decide (q.den = q'.den) := by
    by_cases he : q.den = q'.den
    · rw [he]; simp
    · rw [decide_eq_false he]
      refine decide_eq_false (fun hd => he ?_)
      have hn : dw q.den = dw q'.den := by have := congrArg vl hd; rwa [vl_dg, vl_dg] at this
      have := q.den_nz
      have := q'.den_nz
      unfold dw at hn
      split at hn <;> split at hn <;> omega
  rw [hI] at HI
  rw [hN] at HN
  have hR : decide (q = q') = (decide (q.num = q'.num) && decide (q.den = q'.den)) := by
    by_cases h : q = q'
    · subst h; simp
    · rw [decide_eq_false h]
      by_cases h1 : q.num = q'.num
      · rw [decide_eq_true h1, Bool.true_and]
        exact (decide_eq_false (fun h2 => h (Rat.ext h1 h2))).symm
      · rw [decide_eq_false h1]; rfl
  rw [hR]
  clear hI hN hR h1 h2 h1' h2' hs hs'
  generalize decide (q.den = q'.den) = B at *
  obtain ⟨A, hA⟩ : ∃ A, decide (q.num = q'.num) = A := ⟨_, rfl⟩
  rw [hA] at HI ⊢
  clear hA
  generalize (dg q.num.natAbs).length = z1 at *
  generalize (dg q'.num.natAbs).length = z2 at *
  generalize (dg (dw q.den)).length = z3 at *
  generalize (dg (dw q'.den)).length = z4 at *
  generalize decide (q.num < 0) = s1 at *
  generalize decide (q'.num < 0) = s2 at *
  obtain ⟨RB, hRB⟩ : ∃ RB, (A && B) = RB := ⟨_, rfl⟩
  rw [hRB]
  have HRB := Lib.hid hRB
  clear hRB
  go_enter Tryz.func44, Tryz.ntmps44
  go_upto_region 0 with fail
  go_cut [2, 3] (fun v1 v2 wx => ∃ b1 b2, v1 = .pointer (some ⟨b1, 0, none⟩) ∧ v2 = .pointer (some ⟨b2, 0, none⟩) ∧ BoxR wx b1 s1 (.slice ao z1 c) (.slice eo z3 ec) ∧ BoxR wx b2 s2 (.slice ao' z2 c') (.slice eo' z4 ec') ∧ Ext (fun _ => False) w wx)
  case first =>
    go_wp2
    go_meet
    exact ⟨_, _, rfl, rfl, (boxR_new rfl s1 ao z1 c eo z3 ec).alloc _, boxR_new (by simp) s2 ao' z2 c' eo' z4 ec', ((Ext.refl _ w).alloc _).alloc _⟩
  case rest =>
    obtain ⟨b1, b2, rfl, rfl, hb1, hb2, hx⟩ := hcut
    obtain ⟨c0, c1, c2, _⟩ := hb1.facts
    obtain ⟨e0, e1, e2, _⟩ := hb2.facts
    have HB := Lib.hid (And.intro hb1 (And.intro hb2 hx))
    have HI1 := Lib.hid (HI.out wc hx)
    clear hb1 hb2 hx
    cases A
    · obtain rfl : RB = false := HRB.out.symm
      go_wp2_with fail
      refine HI1.out.mono ?_
      rintro r1 w1 ⟨rfl, hx1⟩
      have HX := Lib.hid (HB.out.2.2.trans hx1)
      clear hx1
      go_wp2
      go_ret
      exact ⟨rfl, HX.out⟩
    · obtain rfl : RB = B := HRB.out.symm
      go_wp2_with fail
      refine HI1.out.mono ?_
      rintro r1 w1 ⟨rfl, hx1⟩
      obtain ⟨c0, c1, c2, _⟩ := (HB.out.1.ext hx1 id).facts
      obtain ⟨e0, e1, e2, _⟩ := (HB.out.2.1.ext hx1 id).facts
      have HX := Lib.hid (HB.out.2.2.trans hx1)
      have HN1 := Lib.hid (HN.out w1 HX.out)
      clear hx1
      go_wp2_with fail
      refine HN1.out.mono ?_
      rintro r2 w2 ⟨rfl, hx2⟩
      have HX2 := Lib.hid (HX.out.trans hx2)
      clear hx2
      go_wp2
      go_ret
      exact ⟨rfl, HX2.out⟩
end Go.Proofs.YtbgienfcmdgaaaaGreat
