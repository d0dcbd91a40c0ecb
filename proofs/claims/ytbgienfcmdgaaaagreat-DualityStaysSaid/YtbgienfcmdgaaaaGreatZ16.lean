/-
  DualityStays: the walk. Conditions: the arguments read as a program, a list of fractions, a row, numbers of 8 bits.
-/
import Derived.Test.YtbgienfcmdgaaaaGreatZ15
set_option linter.unusedVariables false
namespace Go.Proofs.YtbgienfcmdgaaaaGreat
open Go.RowKit Go.MapKept
open Go.ChangeMaps (setBlock)

set_option maxRecDepth 100000 in
set_option maxHeartbeats 8000000 in
theorem stays_core (w : World) (pv yv : Value) (i by_ : Int) (p : ProgV) (y : List RatV) (r : RowV) (tv : Value) (hp : IsPrg w pv p) (hy : Raws w yv y) (ht : Tms w tv r.terms) (hok : RowOk r) (hi0 : 0 ≤ i) (hi1 : i ≤ 255) (hb0 : 0 ≤ by_) (hb1 : by_ ≤ 255) :
    Calls Tryz.prog 7 #[pv, yv, .agg (cR r tv).toArray, .int .u8 i, .int .u8 by_] w (BoolPost w true) := by
  obtain ⟨nm, gr, kd, tms, bd⟩ := r
  have HP := Lib.hid (And.intro hp (And.intro hy ht))
  have HOK := Lib.hid hok
  obtain ⟨vv, rv, rfl, hv, hr⟩ := hp
  obtain ⟨vo, vc, rfl, -, hvn, -⟩ := hv.shape
  obtain ⟨ro, rc, rfl, -, hrn, -⟩ := hr.shape
  obtain ⟨yo, yc, rfl, -, hyn, -⟩ := hy.shape
  obtain ⟨ta, tc, rfl, -, htn, -⟩ := ht.shape
  dsimp only at htn
  clear hv hr hy ht hok
  have HVR := Lib.hid (fun W (hW : Ext (fun _ => False) w W) (hv : p.vars.length ≤ 9223372036854775807) => ValidRow_any W p.vars.length hv ⟨nm, gr, kd, tms, bd⟩ ta tc HOK.out (HP.out.2.2.keep hW))
  obtain ⟨vn, hvn'⟩ : ∃ vn, p.vars.length = vn := ⟨_, rfl⟩
  obtain ⟨rn, hrn'⟩ : ∃ rn, p.rows.length = rn := ⟨_, rfl⟩
  obtain ⟨yl, hyl'⟩ : ∃ yl, y.length = yl := ⟨_, rfl⟩
  obtain ⟨tl, htl'⟩ : ∃ tl, tms.length = tl := ⟨_, rfl⟩
  have HN := Lib.hid (And.intro hvn' (And.intro hrn' (And.intro hyl' htl')))
  rw [hvn'] at hvn HP HVR ⊢
  rw [hrn'] at hrn HP ⊢
  rw [hyl'] at hyn HP ⊢
  rw [htl'] at htn HP HVR ⊢
  clear hvn' hrn' hyl' htl'
  unfold cR
  rw [show ([.string nm, .int .i64 gr, .int .i64 kd, .slice ta tl tc, .int .i64 bd] : List Value).toArray = #[.string nm, .int .i64 gr, .int .i64 kd, .slice ta tl tc, .int .i64 bd] from rfl]
  have b1 : blk ((w.alloc (.cells #[.slice vo vn vc, .slice ro rn rc] 25)).alloc (.cells #[.string nm, .int .i64 gr, .int .i64 kd, .slice ta tl tc, .int .i64 bd] 58)) w.heap.size = some (.cells #[.slice vo vn vc, .slice ro rn rc] 25 (0, 0)) := (blk_alloc_past _ _ _ (by simp)).trans (blk_alloc_at _ _)
  have b2 : blk ((w.alloc (.cells #[.slice vo vn vc, .slice ro rn rc] 25)).alloc (.cells #[.string nm, .int .i64 gr, .int .i64 kd, .slice ta tl tc, .int .i64 bd] 58)) (w.heap.size + 1) = some (.cells #[.string nm, .int .i64 gr, .int .i64 kd, .slice ta tl tc, .int .i64 bd] 58 (0, 0)) := blk_alloc_at' _ _ _ (by simp [World.size_alloc])
  have HB := Lib.hid (And.intro b1 (And.intro b2 (((Ext.refl (fun _ => False) w).alloc (.cells #[.slice vo vn vc, .slice ro rn rc] 25)).alloc (.cells #[.string nm, .int .i64 gr, .int .i64 kd, .slice ta tl tc, .int .i64 bd] 58))))
  clear b1 b2
  go_enter Tryz.func7, Tryz.ntmps7
  go_upto_region 1 with fail
  generalize hw1 : (w.alloc (.cells #[.slice vo vn vc, .slice ro rn rc] 25)).alloc (.cells #[.string nm, .int .i64 gr, .int .i64 kd, .slice ta tl tc, .int .i64 bd] 58) = w1 at *
  clear hw1
  obtain ⟨pb, hpb⟩ : ∃ pb, w.heap.size = pb := ⟨_, rfl⟩
  obtain ⟨rb, hrb⟩ : ∃ rb, pb + 1 = rb := ⟨_, rfl⟩
  rw [hpb, hrb] at HB ⊢
  clear hpb hrb
  go_wp2_with fail
  refine (awake_any w1).mono ?_
  rintro r2 w2 ⟨rfl, hx2⟩
  have HB2 := Lib.hid (And.intro (blk_keep HB.out.1 hx2) (And.intro (blk_keep HB.out.2.1 hx2) (HB.out.2.2.trans hx2)))
  clear hx2 HB
  have z0 := cellq HB2.out.1 0 rfl
  have z1 := cellq HB2.out.1 1 rfl
  go_wp2_with fail
  have hxa := (Ext.refl (fun _ => False) w2).alloc (.cells #[.slice yo yl yc] 32)
  have hX := HB2.out.2.2.trans hxa
  refine (lsmall_any _ _ p [y] [.slice yo yl yc] w2.heap.size 0 1 (HP.out.1.keep hX) rfl (by show 1 ≤ 100; decide) (vs_cells (blk_alloc_at w2 (.cells #[.slice yo yl yc] 32))) (fun i v rs h1 h2 => by
    match i, h1, h2 with
    | 0, h1, h2 => cases h1; cases h2; exact HP.out.2.1.keep hX)).mono ?_
  rintro r3 w3 ⟨rfl, hx3⟩
  have hx13 := hxa.trans hx3
  have HB3 := Lib.hid (And.intro (blk_keep HB2.out.1 hx13) (And.intro (blk_keep HB2.out.2.1 hx13) (HB2.out.2.2.trans hx13)))
  clear hx3 hX hxa hx13 HB2 z0 z1
  cases hsm : smallB p [y] with
  | false =>
    clear hsm
    go_wp2_with fail
    refine (awake_any w3).mono ?_
    rintro r9 w9 ⟨rfl, hx9⟩
    have HX9 := Lib.hid ((HB3.out.2.2).trans hx9)
    clear hx9
    go_wp2
    go_ret
    exact ⟨rfl, HX9.out⟩
  | true =>
  obtain ⟨hs, hf⟩ := smallB_parts hsm
  obtain ⟨hn6, hm8⟩ := smallB_few hsm
  clear hsm
  rw [HN.out.1] at hn6
  rw [HN.out.2.1] at hm8
  have e0 := cellq HB3.out.2.1 0 rfl
  have e1 := cellq HB3.out.2.1 1 rfl
  have e2 := cellq HB3.out.2.1 2 rfl
  have e3 := cellq HB3.out.2.1 3 rfl
  have e4 := cellq HB3.out.2.1 4 rfl
  have z0 := cellq HB3.out.1 0 rfl
  have z1 := cellq HB3.out.1 1 rfl
  by_cases t6 : 6 < tl
  · have t6' : (6 : Int) < (tl : Int) := by omega
    go_wp2_with fail
    refine (awake_any w3).mono ?_
    rintro r9 w9 ⟨rfl, hx9⟩
    have HX9 := Lib.hid ((HB3.out.2.2).trans hx9)
    clear hx9
    go_wp2
    go_ret
    exact ⟨rfl, HX9.out⟩
  have t6' : ¬ (6 : Int) < (tl : Int) := by omega
  go_wp2_with fail
  refine (HVR.out w3 HB3.out.2.2 hvn).mono ?_
  rintro r4 w4 ⟨rfl, hx4⟩
  have HB4 := Lib.hid (And.intro (blk_keep HB3.out.1 hx4) (And.intro (blk_keep HB3.out.2.1 hx4) (HB3.out.2.2.trans hx4)))
  clear hx4 HB3 e0 e1 e2 e3 e4 z0 z1 HVR
  cases hrb' : rowB vn ⟨nm, gr, kd, tms, bd⟩ with
  | false =>
    clear hrb'
    go_wp2_with fail
    refine (awake_any w4).mono ?_
    rintro r9 w9 ⟨rfl, hx9⟩
    have HX9 := Lib.hid ((HB4.out.2.2).trans hx9)
    clear hx9
    go_wp2
    go_ret
    exact ⟨rfl, HX9.out⟩
  | true =>
  have z0 := cellq HB4.out.1 0 rfl
  have z1 := cellq HB4.out.1 1 rfl
  by_cases ty : rn < yl
  · have ty' : (rn : Int) < (yl : Int) := by omega
    go_wp2_with fail
    refine (awake_any w4).mono ?_
    rintro r9 w9 ⟨rfl, hx9⟩
    have HX9 := Lib.hid ((HB4.out.2.2).trans hx9)
    clear hx9
    go_wp2
    go_ret
    exact ⟨rfl, HX9.out⟩
  have ty' : ¬ (rn : Int) < (yl : Int) := by omega
  have HRY := Lib.hid (And.intro hrb' ty)
  clear hrb' ty
  have HIn := Lib.hid (Infeasible_any w4 _ _ p (valL y) 4 12 (HP.out.1.keep HB4.out.2.2) ((HP.out.2.1.keep HB4.out.2.2).rats (hf y (by simp)).1) hs)
  go_wp2_with fail
  refine HIn.out.mono ?_
  rintro r5 w5 ⟨rfl, hx5⟩
  have HB5 := Lib.hid (And.intro (blk_keep HB4.out.1 hx5) (And.intro (blk_keep HB4.out.2.1 hx5) (HB4.out.2.2.trans hx5)))
  clear hx5 HB4 z0 z1 HIn
  cases hib : infB p (valL y) with
  | false =>
    go_wp2
    go_ret
    exact ⟨rfl, HB5.out.2.2⟩
  | true =>
  have HIB := Lib.hid hib
  clear hib
  go_upto_region 5 with fail
  have hS : S7 pb pb rb rb rb rb rb 0 1 0 1 2 3 4 (.slice vo vn vc) (.slice ro rn rc) (.string nm) (.int .i64 gr) (.int .i64 kd) (.slice ta tl tc) (.int .i64 bd) w5 := ⟨cellq HB5.out.1 0 rfl, cellq HB5.out.1 1 rfl, cellq HB5.out.2.1 0 rfl, cellq HB5.out.2.1 1 rfl, cellq HB5.out.2.1 2 rfl, cellq HB5.out.2.1 3 rfl, cellq HB5.out.2.1 4 rfl⟩
  have hsl0 := HP.out.1.keep HB5.out.2.2
  obtain ⟨vv', rv', e, hvs, hrs⟩ := hsl0
  cases e
  obtain ⟨prs, hpr1, hslR0, hprT⟩ := hrs.pairs
  have hslV0 := hvs.1
  have hpl : prs.length = p.rows.length := by rw [← hpr1, List.length_map]
  rw [HN.out.2.1] at hpl
  have hone : ∀ x ∈ prs, ∀ u ∈ cRT x, u.oneCell' = true := fun x hx => by
    obtain ⟨ao, c, e, _⟩ := (hprT x hx).1.shape
    exact cRT_one e
  obtain ⟨y0, hy0⟩ : ∃ y0 : RT, y0 = (⟨nm, gr, kd, tms, bd⟩, .slice ta tl tc) := ⟨_, rfl⟩
  have hone1 : ∀ x ∈ [y0], ∀ u ∈ cRT x, u.oneCell' = true := fun x hx => by
    rw [List.mem_singleton.1 hx, hy0]
    exact cRT_one rfl
  have hy0c : (cRT y0).toArray = #[.string nm, .int .i64 gr, .int .i64 kd, .slice ta tl tc, .int .i64 bd] := by rw [hy0]; rfl
  have HY0 := Lib.hid hy0
  clear hy0
  go_cut [11] (fun v11 wx => ∃ gb vA vB, v11 = .pointer (some ⟨gb, 0, none⟩) ∧ blk wx gb = some (.cells #[vA, vB] 25 (0, 0)) ∧ w5.heap.size ≤ gb ∧ SOwn cV 63 wx w5.heap.size vA p.vars ∧ SOwn cRT 58 wx w5.heap.size vB (prs ++ [y0]) ∧ Asunder vA vB ∧ Asunder vA v11 ∧ Asunder vB v11 ∧ Ext (fun _ => False) w5 wx)
  case rest =>
    obtain ⟨gb, vA, vB, rfl, hgb, hgl, hA, hB, hab, had, hbd, hxc⟩ := hcut
    have hTt : ∀ x ∈ prs ++ [y0], Tms w5 x.2 x.1.terms ∧ RowOk x.1 := fun x hx => by
      rcases List.mem_append.1 hx with h | h
      · exact hprT x h
      · rw [List.mem_singleton.1 h, HY0.out]
        refine ⟨?_, HOK.out⟩
        have h2 := HP.out.2.2.keep HB5.out.2.2
        exact h2
    have hvOk := hvs.2
    have hv0 : validB p = true := by
      have h1 := HIB.out
      unfold infB at h1
      simp only [Bool.and_eq_true] at h1
      exact h1.1.1
    have hvars0 : p.vars.all varB = true := by
      have h1 := hv0
      unfold validB at h1
      simp only [Bool.and_eq_true] at h1
      exact h1.1.2
    have hr0 : rowB p.vars.length y0.1 = true := by
      rw [HY0.out, HN.out.1]; exact HRY.out.1
    have hyl0 : (valL y).length ≤ p.rows.length := by
      rw [HN.out.2.1]
      unfold valL
      rw [List.length_map, HN.out.2.2.1]
      have := HRY.out.2
      omega
    have hl1 : (prs ++ [y0]).length = rn + 1 := by simp [hpl]
    have htl0 : tl ≤ 6 := by omega
    have hterms : ∀ x ∈ prs ++ [y0], x.1.terms.length ≤ 12 := fun x hx => by
      rcases List.mem_append.1 hx with h | h
      · have h1 : x.1 ∈ p.rows := by rw [← hpr1]; exact List.mem_map.2 ⟨x, h, rfl⟩
        obtain ⟨i, hi, e⟩ := List.mem_iff_getElem.1 h1
        have h2 := hs.2 i hi
        unfold ProgV.r at h2
        rw [getD_lt hi, e] at h2
        exact h2
      · rw [List.mem_singleton.1 h, HY0.out]
        have := HN.out.2.2.2
        show tms.length ≤ 12
        omega
    have hRY : ∀ W, Ext (fun _ => False) w5 W → Rats W (.slice yo yl yc) (valL y) 4 := fun W hW => ((HP.out.2.1.keep (HB5.out.2.2.trans hW)).rats (hf y (by simp)).1)
    obtain ⟨gB, ao, ac, bc, rfl, rfl, hq⟩ := QSt.of hxc hgb hgl hA hB hl1 HN.out.1 hab had hbd
    have HInf := Lib.hid (fun W k vars (hq : QSt w5 W gb gB ao vn ac rn bc vars (mixL (valL y) (prs ++ [y0]) y0 k)) (h1 : ∀ x ∈ vars, VarOk x) (h2 : vars.all varB = true) (h3 : ∀ i, i < p.vars.length → (vars.getD i var0).op = (p.v i).op ∧ (vars.getD i var0).up = (p.v i).up ∧ (p.v i).lo ≤ (vars.getD i var0).lo) => 
      (show Calls Tryz.prog 24 #[.agg #[.slice ao vn ac, .slice (some ⟨gB, 0, none⟩) (rn + 1) bc], .slice yo yl yc] W (BoolPost W true) from by
        have h4 := Infeasible_any W _ _ ⟨vars, (mixL (valL y) (prs ++ [y0]) y0 k).map (·.1)⟩ (valL y) 4 12 (hq.prg h1 (fun x hx => hTt x (mixL_mem (by simp) hx))) (hRY W hq.ext) (small_more (by rw [hq.vlen]; exact hn6) (by rw [mixL_length, hl1]; omega) (fun x hx => hterms x (mixL_mem (by simp) hx)))
        rw [(stays_mix k hpr1 hv0 hr0 hyl0 (by rw [HN.out.2.1]; exact hm8) (by rw [hq.vlen, HN.out.1]) h2 h3).inf HIB.out] at h4
        exact h4))
    have HSame := Lib.hid (fun i (_ : i < p.vars.length) => (And.intro rfl (And.intro rfl (Int.le_refl _)) : (p.vars.getD i var0).op = (p.v i).op ∧ (p.vars.getD i var0).up = (p.v i).up ∧ (p.v i).lo ≤ (p.vars.getD i var0).lo))
    have HAt := Lib.hid (fun W (hW : Ext (fun _ => False) w5 W) (k : Nat) => At_any W _ (valL y) 4 (hRY W hW) (k : Int))
    have HVok := Lib.hid (And.intro hvOk hvars0)
    have HQ := Lib.hid (show QSt w5 _ gb gB ao vn ac rn bc p.vars (mixL (valL y) (prs ++ [y0]) y0 0) from by rw [mixL_zero]; exact hq)
    have HL1 := Lib.hid hl1
    clear hS hvs hrs hslR0 hslV0 hone hone1 hy0c hprT hgb hA hB hab had hbd hxc hTt hvOk hv0 hvars0 hr0 hyl0 hl1 htl0 hterms hRY hq hpr1 hpl hgl hs hf
    have z0 := cellq HQ.out.box 0 rfl
    have z1 := cellq HQ.out.box 1 rfl
    go_wp2_with fail
    refine (HInf.out _ 0 p.vars HQ.out HVok.out.1 HVok.out.2 HSame.out).mono ?_
    rintro r6 w6 ⟨rfl, hx6⟩
    have HQ6 := Lib.hid (HQ.out.keep hx6)
    have hB6 := blk_keep HB5.out.1 HQ6.out.ext
    clear z0 z1 hx6 HQ
    have z0 := cellq hB6 0 rfl
    have z1 := cellq hB6 1 rfl
    clear hB6
    go_wp2_with fail
    go_loopg [69, 12] rn (fun gg v69 v12 wr => ∃ k : Nat, k ≤ rn ∧ gg = rn - k ∧ v69 = .int .i64 k ∧ QSt w5 wr gb gB ao vn ac rn bc p.vars (mixL (valL y) (prs ++ [y0]) y0 k))
    case atStart => exact ⟨0, Nat.zero_le _, rfl, rfl, HQ6.out⟩
    case round =>
      clear z0 z1
      obtain ⟨k, hk, rfl, rfl, hq⟩ := hrel
      have HQk := Lib.hid hq
      clear hq
      by_cases hkn : k < rn
      · have k0 : (k : Int) < (rn : Int) := by omega
        go_wp2_with fail
        refine (HAt.out _ HQk.out.ext k).mono ?_
        rintro r7 w7 hat
        obtain ⟨neg, a1, m1, c1, a2, m2, c2, rfl, hr7, hx7⟩ := hat.open
        have HS7 := Lib.hid (Rrsign_any w7 _ _ 4 hr7 (by decide))
        have HQ7 := Lib.hid (HQk.out.keep hx7)
        clear hr7 hx7 hat
        go_wp2_with fail
        refine HS7.out.mono ?_
        rintro r8 w8 ⟨rfl, hx8⟩
        have HQ8 := Lib.hid (HQ7.out.keep hx8)
        clear hx8 HS7
        generalize hsg : (atQ (valL y) (k : Int)).num.sign = sg at *
        have HSg := Lib.hid hsg
        clear hsg HQ7 HQk
        by_cases hz : sg = 0
        · subst hz
          have HZ := Lib.hid (show atQ (valL y) (k : Nat) = 0 from Rat.num_eq_zero.1 (Int.sign_eq_zero_iff_zero.1 HSg.out))
          have z0 := cellq HQ8.out.box 0 rfl
          have z1 := cellq HQ8.out.box 1 rfl
          have hRb := blk_keep HB5.out.2.1 HQ8.out.ext
          have e0 := cellq hRb 0 rfl
          have e1 := cellq hRb 1 rfl
          have e2 := cellq hRb 2 rfl
          have e3 := cellq hRb 3 rfl
          have e4 := cellq hRb 4 rfl
          have k1 : (k : Int) < ((rn + 1 : Nat) : Int) := by omega
          have k2 : (0 : Int) ≤ (k : Int) := by omega
          obtain ⟨⟨x0, x1, x2, x3, x4, g0, g1, g2, g3, g4⟩, gf⟩ := HQ8.out.rowsA.cells5 cRT_len (k := k) (by rw [HQ8.out.rlen]; omega)
          have f0 := gf (k * 5)
          have f1 := gf (k * 5 + 1)
          have f2 := gf (k * 5 + 2)
          have f3 := gf (k * 5 + 3)
          have f4 := gf (k * 5 + 4)
          have HF := Lib.hid (HQ8.out.setRow (k := k) (y := y0) (show k < rn + 1 by omega) (show cRT y0 = [.string nm, .int .i64 gr, .int .i64 kd, .slice ta tl tc, .int .i64 bd] from by rw [HY0.out]; rfl))
          rw [mixL_set (by rw [HL1.out]; omega) HZ.out] at HF
          clear gf hRb HQ8
          go_wp2_with fail
          go_roundg (rn - (k + 1))
          case measure => omega
          case rel => exact ⟨k + 1, by omega, rfl, by go_num, HF.out⟩
        · have HZ := Lib.hid (show ¬ atQ (valL y) (k : Nat) = 0 from fun e => hz (by rw [← HSg.out, e]; rfl))
          have q0 : (sg == 0) = false := by simpa using hz
          have q1 : decide (sg = 0) = false := by simpa using hz
          go_wp2_with fail
          go_roundg (rn - (k + 1))
          case measure => omega
          case rel => exact ⟨k + 1, by omega, rfl, by go_num, by rw [← mixL_skip HZ.out]; exact HQ8.out⟩
      · obtain rfl : k = rn := by omega
        have z0 := cellq HQk.out.box 0 rfl
        have z1 := cellq HQk.out.box 1 rfl
        by_cases hv0 : vn = 0
        · subst hv0
          go_wp2_with fail
          refine (HInf.out _ k p.vars HQk.out HVok.out.1 HVok.out.2 HSame.out).mono ?_
          rintro r9 w9 ⟨rfl, hx9⟩
          have HX9 := Lib.hid ((HB5.out.2.2.trans HQk.out.ext).trans hx9)
          clear hx9
          go_wp2
          go_ret
          exact ⟨rfl, HX9.out⟩
        · rcases HQk.out.varsA with e | ⟨gA, e, hva⟩
          · exact absurd e.1 hv0
          subst e
          obtain ⟨-, hvA, -, -, -⟩ := hva
          obtain ⟨iN, rfl⟩ : ∃ n : Nat, i = n := ⟨i.toNat, by omega⟩
          obtain ⟨jj, hjj⟩ : ∃ jj, iN % vn = jj := ⟨_, rfl⟩
          have hjv : jj < vn := by rw [← hjj]; exact Nat.mod_lt _ (by omega)
          have hjt : (iN : Int).tmod (vn : Int) = (jj : Int) := by rw [← hjj]; exact (Int.ofNat_tmod iN vn).symm
          have hv1 : (vn : Int) ≠ 0 := by omega
          have hv2 : (0 : Int) < (vn : Int) := by omega
          have j0 : (0 : Int) ≤ (jj : Int) := by omega
          have j1 : (jj : Int) < (vn : Int) := by omega
          have hjl : jj < p.vars.length := by rw [HN.out.1]; exact hjv
          have hgl : p.vars[jj]? = some (p.v jj) := by rw [List.getElem?_eq_getElem hjl, ← getD_lt hjl var0]; rfl
          have c0 := (hvA.cell cV_len hgl (j := 0) (u := .int .i64 (p.v jj).lo) rfl).1
          have c1 := (hvA.cell cV_len hgl (j := 0) (u := .int .i64 (p.v jj).lo) rfl).2
          rw [Nat.add_zero] at c0 c1
          have HGl := Lib.hid hgl
          have HJl := Lib.hid hjl
          have hok := HVok.out.1 _ (List.mem_of_getElem? hgl)
          clear hjj hvA hgl hjl
          obtain ⟨lo, hlo⟩ : ∃ lo, (p.v jj).lo = lo := ⟨_, rfl⟩
          have HLo := Lib.hid hlo
          have hlo0 := hok.lo
          rw [hlo] at c0 hlo0
          have l0 := hlo0.1
          have l1 := hlo0.2
          clear hlo hlo0 hok
          by_cases hlt : lo < 1099511627476
          · obtain ⟨S, hS⟩ : ∃ S, lo + by_ = S := ⟨_, rfl⟩
            have HS := Lib.hid hS
            have s0 : -9223372036854775808 ≤ S := by omega
            have s1 : S ≤ 9223372036854775807 := by omega
            have i0 : (iN : Int) ≤ 9223372036854775807 := by omega
            go_upto_region 15 with fail
            go_quiet (fail)
            clear hS
            rename_i nq
            have HQN := Lib.hid (HQk.out.keep ((Ext.refl (fun _ => False) wr).drewN nq))
            have HQS := Lib.hid (HQN.out.setVar (k := jj) (by rw [← HN.out.1]; exact HJl.out) HGl.out (lo + by_))
            go_upto_region 18 with fail
            clear c0 c1 z0 z1
            generalize (wr.drewN nq).setCell ⟨gA, jj * 5, none⟩ (.int .i64 (lo + by_)) = wz at *
            have z0 := cellq HQS.out.box 0 rfl
            have z1 := cellq HQS.out.box 1 rfl
            have hvb := HVok.out.2
            rw [List.all_eq_true] at hvb
            have hvj := hvb _ (List.mem_of_getElem? HGl.out)
            have hoj := HVok.out.1 _ (List.mem_of_getElem? HGl.out)
            have hvl1 : ∀ x ∈ p.vars.set jj { p.v jj with lo := lo + by_ }, VarOk x ∧ varB x = true := fun x hx => by
              rcases List.mem_or_eq_of_mem_set hx with h | h
              · exact ⟨HVok.out.1 _ h, hvb _ h⟩
              · subst h
                unfold varB limB at hvj ⊢
                simp only [Bool.and_eq_true, decide_eq_true_eq, HLo.out] at hvj ⊢
                exact ⟨⟨(show InR (lo + by_) from ⟨by omega, by omega⟩), hoj.up, hoj.co⟩, ⟨⟨⟨⟨by omega, by omega⟩, hvj.1.1.2⟩, hvj.1.2⟩, hvj.2⟩⟩
            have hsame : ∀ i, i < p.vars.length → ((p.vars.set jj { p.v jj with lo := lo + by_ }).getD i var0).op = (p.v i).op ∧ ((p.vars.set jj { p.v jj with lo := lo + by_ }).getD i var0).up = (p.v i).up ∧ (p.v i).lo ≤ ((p.vars.set jj { p.v jj with lo := lo + by_ }).getD i var0).lo := fun i hi => by
              by_cases e : i = jj
              · subst e
                rw [List.getD_eq_getElem?_getD, List.getElem?_set_self hi]
                exact ⟨rfl, rfl, by show (p.v i).lo ≤ lo + by_; rw [HLo.out]; omega⟩
              · rw [List.getD_eq_getElem?_getD, List.getElem?_set_ne (Ne.symm e), ← List.getD_eq_getElem?_getD]
                exact HSame.out i hi
            have HInf2 := Lib.hid (HInf.out _ k _ HQS.out (fun x hx => (hvl1 x hx).1) (List.all_eq_true.2 fun x hx => (hvl1 x hx).2) hsame)
            have HX8 := Lib.hid HQS.out.ext
            clear hvb hvj hoj hvl1 hsame HQS HQN HInf
            go_wp2_with fail
            refine HInf2.out.mono ?_
            rintro r9 w9 ⟨rfl, hx9⟩
            have HX9 := Lib.hid ((HB5.out.2.2.trans HX8.out).trans hx9)
            clear hx9
            go_wp2
            go_ret
            exact ⟨rfl, HX9.out⟩
          · go_upto_region 15 with fail
            go_quiet (fail)
            rename_i nq
            have HQN := Lib.hid (HQk.out.keep ((Ext.refl (fun _ => False) wr).drewN nq))
            go_wp2_with fail
            refine (HInf.out _ k p.vars HQN.out HVok.out.1 HVok.out.2 HSame.out).mono ?_
            rintro r9 w9 ⟨rfl, hx9⟩
            have HX9 := Lib.hid ((HB5.out.2.2.trans HQN.out.ext).trans hx9)
            clear hx9
            go_wp2
            go_ret
            exact ⟨rfl, HX9.out⟩
  case first =>
  refine wp_region_held_drew (S := (S7 pb pb rb rb rb rb rb 0 1 0 1 2 3 4 (.slice vo vn vc) (.slice ro rn rc) (.string nm) (.int .i64 gr) (.int .i64 kd) (.slice ta tl tc) (.int .i64 bd))) (by kernel_rfl) (hS.drew) (fun hHeld => ?_)
  refine held_take 1 (v := ?_) rfl (by kernel_rfl) (by kernel_rfl) (by kernel_rfl) (fun _ _ _ h => h) (by rfl) ?_ (by assumption) ?_
  rotate_left
  · ((intro w hSw; (try dsimp only at hSw); go_simp) <;> with_reducible rfl)
  (try simp only [Act.put, List.setIfInBounds_toArray, List.set_cons_zero, List.set_cons_succ])
  refine held_take 2 (v := ?_) rfl (by kernel_rfl) (by kernel_rfl) (by kernel_rfl) (fun _ _ _ h => h) (by rfl) ?_ (by assumption) ?_
  rotate_left
  · ((intro w hSw; (try dsimp only at hSw); go_simp) <;> with_reducible rfl)
  (try simp only [Act.put, List.setIfInBounds_toArray, List.set_cons_zero, List.set_cons_succ])
  refine held_take 5 (v := ?_) rfl (by kernel_rfl) (by kernel_rfl) (by kernel_rfl) (fun _ _ _ h => h) (by rfl) ?_ (by assumption) ?_
  rotate_left
  · ((intro w hSw; (try dsimp only at hSw); go_simp) <;> with_reducible rfl)
  (try simp only [Act.put, List.setIfInBounds_toArray, List.set_cons_zero, List.set_cons_succ])
  refine held_take 6 (v := ?_) rfl (by kernel_rfl) (by kernel_rfl) (by kernel_rfl) (fun _ _ _ h => h) (by rfl) ?_ (by assumption) ?_
  rotate_left
  · ((intro w hSw; (try dsimp only at hSw); go_simp) <;> with_reducible rfl)
  (try simp only [Act.put, List.setIfInBounds_toArray, List.set_cons_zero, List.set_cons_succ])
  refine held_take 8 (v := ?_) rfl (by kernel_rfl) (by kernel_rfl) (by kernel_rfl) (fun _ _ _ h => h) (by rfl) ?_ (by assumption) ?_
  rotate_left
  · ((intro w hSw; (try dsimp only at hSw); go_simp) <;> with_reducible rfl)
  (try simp only [Act.put, List.setIfInBounds_toArray, List.set_cons_zero, List.set_cons_succ])
  have hSd := hS.drew
  have hslV := hslV0.keep (Ext.refl (fun _ => False) w5).drew
  have hslR := hslR0.keep (Ext.refl (fun _ => False) w5).drew
  generalize hwd : w5.drew = wd at *
  obtain ⟨B, hB⟩ : ∃ B, wd.heap.size = B := ⟨_, rfl⟩
  refine held_ind (T := fun a0 fuel listed a wx => (fuel = 9 ∧ listed = #[false, true, true, false, false, true, true, false, true, false, false, false, false, false] ∧ a = a0 ∧ Half B y0 none none false false wd wx undef undef undef undef) ∨ (fuel = 8 ∧ listed = #[true, true, true, false, false, true, true, false, true, false, false, false, false, false] ∧ ∃ s50 : Value, a = (Act.put a0 (some 50) (s50)) ∧ Half B y0 (some []) none false false wd wx s50 undef undef undef) ∨ (fuel = 8 ∧ listed = #[false, true, true, false, true, true, true, false, true, false, false, false, false, false] ∧ ∃ s54 : Value, a = (Act.put a0 (some 54) (s54)) ∧ Half B y0 none (some []) false false wd wx undef s54 undef undef) ∨ (fuel = 8 ∧ listed = #[false, true, true, false, false, true, true, false, true, true, false, false, false, false] ∧ ∃ s59 : Value, a = (Act.put a0 (some 59) (s59)) ∧ Half B y0 none none true false wd wx undef undef s59 undef) ∨ (fuel = 8 ∧ listed = #[false, true, true, false, false, true, true, false, true, false, false, false, true, false] ∧ ∃ s11 : Value, a = (Act.put a0 (some 11) (s11)) ∧ Half B y0 none none false true wd wx undef undef undef s11) ∨ (fuel = 7 ∧ listed = #[true, true, true, true, false, true, true, false, true, false, false, false, false, false] ∧ ∃ s50 s53 : Value, a = (Act.put (Act.put a0 (some 50) (s50)) (some 53) (s53)) ∧ Half B y0 (some p.vars) none false false wd wx s53 undef undef undef) ∨ (fuel = 7 ∧ listed = #[true, true, true, false, true, true, true, false, true, false, false, false, false, false] ∧ ∃ s50 s54 : Value, a = (Act.put (Act.put a0 (some 50) (s50)) (some 54) (s54)) ∧ Half B y0 (some []) (some []) false false wd wx s50 s54 undef undef) ∨ (fuel = 7 ∧ listed = #[true, true, true, false, false, true, true, false, true, true, false, false, false, false] ∧ ∃ s50 s59 : Value, a = (Act.put (Act.put a0 (some 50) (s50)) (some 59) (s59)) ∧ Half B y0 (some []) none true false wd wx s50 undef s59 undef) ∨ (fuel = 7 ∧ listed = #[true, true, true, false, false, true, true, false, true, false, false, false, true, false] ∧ ∃ s11 s50 : Value, a = (Act.put (Act.put a0 (some 11) (s11)) (some 50) (s50)) ∧ Half B y0 (some []) none false true wd wx s50 undef undef s11) ∨ (fuel = 7 ∧ listed = #[false, true, true, false, true, true, true, false, true, true, false, false, false, false] ∧ ∃ s54 s59 : Value, a = (Act.put (Act.put a0 (some 54) (s54)) (some 59) (s59)) ∧ Half B y0 none (some []) true false wd wx undef s54 s59 undef) ∨ (fuel = 7 ∧ listed = #[false, true, true, false, true, true, true, false, true, false, false, false, true, false] ∧ ∃ s11 s54 : Value, a = (Act.put (Act.put a0 (some 11) (s11)) (some 54) (s54)) ∧ Half B y0 none (some []) false true wd wx undef s54 undef s11) ∨ (fuel = 7 ∧ listed = #[false, true, true, false, false, true, true, false, true, true, false, false, true, false] ∧ ∃ s11 s59 : Value, a = (Act.put (Act.put a0 (some 11) (s11)) (some 59) (s59)) ∧ Half B y0 none none true true wd wx undef undef s59 s11) ∨ (fuel = 6 ∧ listed = #[true, true, true, true, true, true, true, false, true, false, false, false, false, false] ∧ ∃ s50 s53 s54 : Value, a = (Act.put (Act.put (Act.put a0 (some 50) (s50)) (some 53) (s53)) (some 54) (s54)) ∧ Half B y0 (some p.vars) (some []) false false wd wx s53 s54 undef undef) ∨ (fuel = 6 ∧ listed = #[true, true, true, true, false, true, true, false, true, true, false, false, false, false] ∧ ∃ s50 s53 s59 : Value, a = (Act.put (Act.put (Act.put a0 (some 50) (s50)) (some 53) (s53)) (some 59) (s59)) ∧ Half B y0 (some p.vars) none true false wd wx s53 undef s59 undef) ∨ (fuel = 6 ∧ listed = #[true, true, true, true, false, true, true, false, true, false, false, false, true, false] ∧ ∃ s11 s50 s53 : Value, a = (Act.put (Act.put (Act.put a0 (some 11) (s11)) (some 50) (s50)) (some 53) (s53)) ∧ Half B y0 (some p.vars) none false true wd wx s53 undef undef s11) ∨ (fuel = 6 ∧ listed = #[true, true, true, false, true, true, true, false, true, true, false, false, false, false] ∧ ∃ s50 s54 s59 : Value, a = (Act.put (Act.put (Act.put a0 (some 50) (s50)) (some 54) (s54)) (some 59) (s59)) ∧ Half B y0 (some []) (some []) true false wd wx s50 s54 s59 undef) ∨ (fuel = 6 ∧ listed = #[true, true, true, false, true, true, true, false, true, false, false, false, true, false] ∧ ∃ s11 s50 s54 : Value, a = (Act.put (Act.put (Act.put a0 (some 11) (s11)) (some 50) (s50)) (some 54) (s54)) ∧ Half B y0 (some []) (some []) false true wd wx s50 s54 undef s11) ∨ (fuel = 6 ∧ listed = #[true, true, true, false, false, true, true, false, true, true, false, false, true, false] ∧ ∃ s11 s50 s59 : Value, a = (Act.put (Act.put (Act.put a0 (some 11) (s11)) (some 50) (s50)) (some 59) (s59)) ∧ Half B y0 (some []) none true true wd wx s50 undef s59 s11) ∨ (fuel = 6 ∧ listed = #[false, true, true, false, true, true, true, false, true, true, false, false, true, false] ∧ ∃ s11 s54 s59 : Value, a = (Act.put (Act.put (Act.put a0 (some 11) (s11)) (some 54) (s54)) (some 59) (s59)) ∧ Half B y0 none (some []) true true wd wx undef s54 s59 s11) ∨ (fuel = 5 ∧ listed = #[true, true, true, true, true, true, true, true, true, false, false, false, false, false] ∧ ∃ s50 s53 s54 s57 : Value, a = (Act.put (Act.put (Act.put (Act.put a0 (some 50) (s50)) (some 53) (s53)) (some 54) (s54)) (some 57) (s57)) ∧ Half B y0 (some p.vars) (some prs) false false wd wx s53 s57 undef undef) ∨ (fuel = 5 ∧ listed = #[true, true, true, true, true, true, true, false, true, true, false, false, false, false] ∧ ∃ s50 s53 s54 s59 : Value, a = (Act.put (Act.put (Act.put (Act.put a0 (some 50) (s50)) (some 53) (s53)) (some 54) (s54)) (some 59) (s59)) ∧ Half B y0 (some p.vars) (some []) true false wd wx s53 s54 s59 undef) ∨ (fuel = 5 ∧ listed = #[true, true, true, true, true, true, true, false, true, false, false, false, true, false] ∧ ∃ s11 s50 s53 s54 : Value, a = (Act.put (Act.put (Act.put (Act.put a0 (some 11) (s11)) (some 50) (s50)) (some 53) (s53)) (some 54) (s54)) ∧ Half B y0 (some p.vars) (some []) false true wd wx s53 s54 undef s11) ∨ (fuel = 5 ∧ listed = #[true, true, true, true, false, true, true, false, true, true, false, false, true, false] ∧ ∃ s11 s50 s53 s59 : Value, a = (Act.put (Act.put (Act.put (Act.put a0 (some 11) (s11)) (some 50) (s50)) (some 53) (s53)) (some 59) (s59)) ∧ Half B y0 (some p.vars) none true true wd wx s53 undef s59 s11) ∨ (fuel = 5 ∧ listed = #[true, true, true, false, true, true, true, false, true, true, false, false, true, false] ∧ ∃ s11 s50 s54 s59 : Value, a = (Act.put (Act.put (Act.put (Act.put a0 (some 11) (s11)) (some 50) (s50)) (some 54) (s54)) (some 59) (s59)) ∧ Half B y0 (some []) (some []) true true wd wx s50 s54 s59 s11) ∨ (fuel = 4 ∧ listed = #[true, true, true, true, true, true, true, true, true, true, false, false, false, false] ∧ ∃ s50 s53 s54 s57 s59 : Value, a = (Act.put (Act.put (Act.put (Act.put (Act.put a0 (some 50) (s50)) (some 53) (s53)) (some 54) (s54)) (some 57) (s57)) (some 59) (s59)) ∧ Half B y0 (some p.vars) (some prs) true false wd wx s53 s57 s59 undef) ∨ (fuel = 4 ∧ listed = #[true, true, true, true, true, true, true, true, true, false, false, false, true, false] ∧ ∃ s11 s50 s53 s54 s57 : Value, a = (Act.put (Act.put (Act.put (Act.put (Act.put a0 (some 11) (s11)) (some 50) (s50)) (some 53) (s53)) (some 54) (s54)) (some 57) (s57)) ∧ Half B y0 (some p.vars) (some prs) false true wd wx s53 s57 undef s11) ∨ (fuel = 4 ∧ listed = #[true, true, true, true, true, true, true, false, true, true, false, false, true, false] ∧ ∃ s11 s50 s53 s54 s59 : Value, a = (Act.put (Act.put (Act.put (Act.put (Act.put a0 (some 11) (s11)) (some 50) (s50)) (some 53) (s53)) (some 54) (s54)) (some 59) (s59)) ∧ Half B y0 (some p.vars) (some []) true true wd wx s53 s54 s59 s11) ∨ (fuel = 2 ∧ listed = #[true, true, true, true, true, true, true, true, true, true, true, true, false, false] ∧ ∃ s50 s53 s54 s57 s59 s60 : Value, a = (Act.put (Act.put (Act.put (Act.put (Act.put (Act.put (Act.put a0 (some 50) (s50)) (some 53) (s53)) (some 54) (s54)) (some 57) (s57)) (some 59) (s59)) (some 60) (s60)) (some 61) (.agg #[s53, s60])) ∧ Half B y0 (some p.vars) (some (prs ++ [y0])) true false wd wx s53 s60 s59 undef) ∨ (fuel = 3 ∧ listed = #[true, true, true, true, true, true, true, true, true, true, false, false, true, false] ∧ ∃ s11 s50 s53 s54 s57 s59 : Value, a = (Act.put (Act.put (Act.put (Act.put (Act.put (Act.put a0 (some 11) (s11)) (some 50) (s50)) (some 53) (s53)) (some 54) (s54)) (some 57) (s57)) (some 59) (s59)) ∧ Half B y0 (some p.vars) (some prs) true true wd wx s53 s57 s59 s11) ∨ (fuel = 1 ∧ listed = #[true, true, true, true, true, true, true, true, true, true, true, true, true, false] ∧ ∃ s11 s50 s53 s54 s57 s59 s60 : Value, a = (Act.put (Act.put (Act.put (Act.put (Act.put (Act.put (Act.put (Act.put a0 (some 11) (s11)) (some 50) (s50)) (some 53) (s53)) (some 54) (s54)) (some 57) (s57)) (some 59) (s59)) (some 60) (s60)) (some 61) (.agg #[s53, s60])) ∧ Half B y0 (some p.vars) (some (prs ++ [y0])) true true wd wx s53 s60 s59 s11)) _ ?_ ?_ ?_
  · intro listed a wx hh
    rcases hh with hh | hh | hh | hh | hh | hh | hh | hh | hh | hh | hh | hh | hh | hh | hh | hh | hh | hh | hh | hh | hh | hh | hh | hh | hh | hh | hh | hh | hh | hh <;> exact absurd hh.1 (by decide)
  · intro fuel ih listed a wx hh
    rcases hh with hh | hh | hh | hh | hh | hh | hh | hh | hh | hh | hh | hh | hh | hh | hh | hh | hh | hh | hh | hh | hh | hh | hh | hh | hh | hh | hh | hh | hh | hh
    · obtain ⟨hfu, rfl, rfl, hM⟩ := hh
      obtain rfl : fuel = 8 := by omega
      have hSx := hSd.keep hM.ext
      refine wpAnyH_ready (rs := [0, 4, 9, 12]) (by kernel_rfl) (by simp) ?_
      refine rdy_cons rfl (fun K hK => ?_) ?_
      · have hM2 := hM.allocA
        go_simp
        refine hK.out _ _ (hSx.alloc _) (fun _ => ih _ (by omega) _ _ _ ?_)
        exact .inr <| .inl <| ⟨rfl, rfl, (.slice (some ⟨wx.heap.size, 0, none⟩) 0 0), by simp only [Act.put, List.setIfInBounds_toArray, List.set_cons_zero, List.set_cons_succ], hM2⟩
      refine rdy_cons rfl (fun K hK => ?_) ?_
      · have hM2 := hM.allocB
        go_simp
        refine hK.out _ _ (hSx.alloc _) (fun _ => ih _ (by omega) _ _ _ ?_)
        exact .inr <| .inr <| .inl <| ⟨rfl, rfl, (.slice (some ⟨wx.heap.size, 0, none⟩) 0 0), by simp only [Act.put, List.setIfInBounds_toArray, List.set_cons_zero, List.set_cons_succ], hM2⟩
      refine rdy_cons rfl (fun K hK => ?_) ?_
      · have hM2 := hM.allocC; rw [hy0c] at hM2
        go_simp
        refine hK.out _ _ (hSx.alloc _) (fun _ => ih _ (by omega) _ _ _ ?_)
        exact .inr <| .inr <| .inr <| .inl <| ⟨rfl, rfl, (.slice (some ⟨wx.heap.size, 0, none⟩) 1 1), by simp only [Act.put, List.setIfInBounds_toArray, List.set_cons_zero, List.set_cons_succ], hM2⟩
      refine rdy_cons rfl (fun K hK => ?_) ?_
      · have hM2 := hM.allocD
        go_simp
        refine hK.out _ _ (hSx.alloc _) (fun _ => ih _ (by omega) _ _ _ ?_)
        exact .inr <| .inr <| .inr <| .inr <| .inl <| ⟨rfl, rfl, (.pointer (some ⟨wx.heap.size, 0, none⟩)), by simp only [Act.put, List.setIfInBounds_toArray, List.set_cons_zero, List.set_cons_succ], hM2⟩
      exact AllReadyH.nil
    · obtain ⟨hfu, rfl, s50, rfl, hM⟩ := hh
      obtain rfl : fuel = 7 := by omega
      simp only [Act.put, List.setIfInBounds_toArray, List.set_cons_zero, List.set_cons_succ]
      have hSx := hSd.keep hM.ext
      refine wpAnyH_ready (rs := [3, 4, 9, 12]) (by kernel_rfl) (by simp) ?_
      refine rdy_cons rfl (fun K hK => ?_) ?_
      · refine step_append_sown cV_len p.vars (fun x _ => cV_one x) Tryz.underlying22 Tryz.infoVar rfl (by decide) rfl (.tmp 50) (.tmp 52) rfl B s50 [] rfl (hM.a [] rfl) vo vn vc (hslV.keep hM.ext) rfl (by have := hn6; rw [← HN.out.1] at this; simp; omega) hM.heap (fun v' w' g1 g2 g3 => ?_)
        have hM2 := hM.growA g1 g2 g3
        refine hK.out _ _ (hSd.keep hM2.ext) (fun _ => ih _ (by omega) _ _ _ ?_)
        exact .inr <| .inr <| .inr <| .inr <| .inr <| .inl <| ⟨rfl, rfl, s50, v', by simp only [Act.put, List.setIfInBounds_toArray, List.set_cons_zero, List.set_cons_succ], hM2⟩
      refine rdy_cons rfl (fun K hK => ?_) ?_
      · have hM2 := hM.allocB
        go_simp
        refine hK.out _ _ (hSx.alloc _) (fun _ => ih _ (by omega) _ _ _ ?_)
        exact .inr <| .inr <| .inr <| .inr <| .inr <| .inr <| .inl <| ⟨rfl, rfl, s50, (.slice (some ⟨wx.heap.size, 0, none⟩) 0 0), by simp only [Act.put, List.setIfInBounds_toArray, List.set_cons_zero, List.set_cons_succ], hM2⟩
      refine rdy_cons rfl (fun K hK => ?_) ?_
      · have hM2 := hM.allocC; rw [hy0c] at hM2
        go_simp
        refine hK.out _ _ (hSx.alloc _) (fun _ => ih _ (by omega) _ _ _ ?_)
        exact .inr <| .inr <| .inr <| .inr <| .inr <| .inr <| .inr <| .inl <| ⟨rfl, rfl, s50, (.slice (some ⟨wx.heap.size, 0, none⟩) 1 1), by simp only [Act.put, List.setIfInBounds_toArray, List.set_cons_zero, List.set_cons_succ], hM2⟩
      refine rdy_cons rfl (fun K hK => ?_) ?_
      · have hM2 := hM.allocD
        go_simp
        refine hK.out _ _ (hSx.alloc _) (fun _ => ih _ (by omega) _ _ _ ?_)
        exact .inr <| .inr <| .inr <| .inr <| .inr <| .inr <| .inr <| .inr <| .inl <| ⟨rfl, rfl, (.pointer (some ⟨wx.heap.size, 0, none⟩)), s50, by simp only [Act.put, List.setIfInBounds_toArray, List.set_cons_zero, List.set_cons_succ], hM2⟩
      exact AllReadyH.nil
    · obtain ⟨hfu, rfl, s54, rfl, hM⟩ := hh
      obtain rfl : fuel = 7 := by omega
      simp only [Act.put, List.setIfInBounds_toArray, List.set_cons_zero, List.set_cons_succ]
      have hSx := hSd.keep hM.ext
      refine wpAnyH_ready (rs := [0, 9, 12]) (by kernel_rfl) (by simp) ?_
      refine rdy_cons rfl (fun K hK => ?_) ?_
      · have hM2 := hM.allocA
        go_simp
        refine hK.out _ _ (hSx.alloc _) (fun _ => ih _ (by omega) _ _ _ ?_)
        exact .inr <| .inr <| .inr <| .inr <| .inr <| .inr <| .inl <| ⟨rfl, rfl, (.slice (some ⟨wx.heap.size, 0, none⟩) 0 0), s54, by simp only [Act.put, List.setIfInBounds_toArray, List.set_cons_zero, List.set_cons_succ], hM2⟩
      refine rdy_cons rfl (fun K hK => ?_) ?_
      · have hM2 := hM.allocC; rw [hy0c] at hM2
        go_simp
        refine hK.out _ _ (hSx.alloc _) (fun _ => ih _ (by omega) _ _ _ ?_)
        exact .inr <| .inr <| .inr <| .inr <| .inr <| .inr <| .inr <| .inr <| .inr <| .inl <| ⟨rfl, rfl, s54, (.slice (some ⟨wx.heap.size, 0, none⟩) 1 1), by simp only [Act.put, List.setIfInBounds_toArray, List.set_cons_zero, List.set_cons_succ], hM2⟩
      refine rdy_cons rfl (fun K hK => ?_) ?_
      · have hM2 := hM.allocD
        go_simp
        refine hK.out _ _ (hSx.alloc _) (fun _ => ih _ (by omega) _ _ _ ?_)
        exact .inr <| .inr <| .inr <| .inr <| .inr <| .inr <| .inr <| .inr <| .inr <| .inr <| .inl <| ⟨rfl, rfl, (.pointer (some ⟨wx.heap.size, 0, none⟩)), s54, by simp only [Act.put, List.setIfInBounds_toArray, List.set_cons_zero, List.set_cons_succ], hM2⟩
      exact AllReadyH.nil
    · obtain ⟨hfu, rfl, s59, rfl, hM⟩ := hh
      obtain rfl : fuel = 7 := by omega
      simp only [Act.put, List.setIfInBounds_toArray, List.set_cons_zero, List.set_cons_succ]
      have hSx := hSd.keep hM.ext
      refine wpAnyH_ready (rs := [0, 4, 12]) (by kernel_rfl) (by simp) ?_
      refine rdy_cons rfl (fun K hK => ?_) ?_
      · have hM2 := hM.allocA
        go_simp
        refine hK.out _ _ (hSx.alloc _) (fun _ => ih _ (by omega) _ _ _ ?_)
        exact .inr <| .inr <| .inr <| .inr <| .inr <| .inr <| .inr <| .inl <| ⟨rfl, rfl, (.slice (some ⟨wx.heap.size, 0, none⟩) 0 0), s59, by simp only [Act.put, List.setIfInBounds_toArray, List.set_cons_zero, List.set_cons_succ], hM2⟩
      refine rdy_cons rfl (fun K hK => ?_) ?_
      · have hM2 := hM.allocB
        go_simp
        refine hK.out _ _ (hSx.alloc _) (fun _ => ih _ (by omega) _ _ _ ?_)
        exact .inr <| .inr <| .inr <| .inr <| .inr <| .inr <| .inr <| .inr <| .inr <| .inl <| ⟨rfl, rfl, (.slice (some ⟨wx.heap.size, 0, none⟩) 0 0), s59, by simp only [Act.put, List.setIfInBounds_toArray, List.set_cons_zero, List.set_cons_succ], hM2⟩
      refine rdy_cons rfl (fun K hK => ?_) ?_
      · have hM2 := hM.allocD
        go_simp
        refine hK.out _ _ (hSx.alloc _) (fun _ => ih _ (by omega) _ _ _ ?_)
        exact .inr <| .inr <| .inr <| .inr <| .inr <| .inr <| .inr <| .inr <| .inr <| .inr <| .inr <| .inl <| ⟨rfl, rfl, (.pointer (some ⟨wx.heap.size, 0, none⟩)), s59, by simp only [Act.put, List.setIfInBounds_toArray, List.set_cons_zero, List.set_cons_succ], hM2⟩
      exact AllReadyH.nil
    · obtain ⟨hfu, rfl, s11, rfl, hM⟩ := hh
      obtain rfl : fuel = 7 := by omega
      simp only [Act.put, List.setIfInBounds_toArray, List.set_cons_zero, List.set_cons_succ]
      have hSx := hSd.keep hM.ext
      refine wpAnyH_ready (rs := [0, 4, 9]) (by kernel_rfl) (by simp) ?_
      refine rdy_cons rfl (fun K hK => ?_) ?_
      · have hM2 := hM.allocA
        go_simp
        refine hK.out _ _ (hSx.alloc _) (fun _ => ih _ (by omega) _ _ _ ?_)
        exact .inr <| .inr <| .inr <| .inr <| .inr <| .inr <| .inr <| .inr <| .inl <| ⟨rfl, rfl, s11, (.slice (some ⟨wx.heap.size, 0, none⟩) 0 0), by simp only [Act.put, List.setIfInBounds_toArray, List.set_cons_zero, List.set_cons_succ], hM2⟩
      refine rdy_cons rfl (fun K hK => ?_) ?_
      · have hM2 := hM.allocB
        go_simp
        refine hK.out _ _ (hSx.alloc _) (fun _ => ih _ (by omega) _ _ _ ?_)
        exact .inr <| .inr <| .inr <| .inr <| .inr <| .inr <| .inr <| .inr <| .inr <| .inr <| .inl <| ⟨rfl, rfl, s11, (.slice (some ⟨wx.heap.size, 0, none⟩) 0 0), by simp only [Act.put, List.setIfInBounds_toArray, List.set_cons_zero, List.set_cons_succ], hM2⟩
      refine rdy_cons rfl (fun K hK => ?_) ?_
      · have hM2 := hM.allocC; rw [hy0c] at hM2
        go_simp
        refine hK.out _ _ (hSx.alloc _) (fun _ => ih _ (by omega) _ _ _ ?_)
        exact .inr <| .inr <| .inr <| .inr <| .inr <| .inr <| .inr <| .inr <| .inr <| .inr <| .inr <| .inl <| ⟨rfl, rfl, s11, (.slice (some ⟨wx.heap.size, 0, none⟩) 1 1), by simp only [Act.put, List.setIfInBounds_toArray, List.set_cons_zero, List.set_cons_succ], hM2⟩
      exact AllReadyH.nil
    · obtain ⟨hfu, rfl, s50, s53, rfl, hM⟩ := hh
      obtain rfl : fuel = 6 := by omega
      simp only [Act.put, List.setIfInBounds_toArray, List.set_cons_zero, List.set_cons_succ]
      have hSx := hSd.keep hM.ext
      refine wpAnyH_ready (rs := [4, 9, 12]) (by kernel_rfl) (by simp) ?_
      refine rdy_cons rfl (fun K hK => ?_) ?_
      · have hM2 := hM.allocB
        go_simp
        refine hK.out _ _ (hSx.alloc _) (fun _ => ih _ (by omega) _ _ _ ?_)
        exact .inr <| .inr <| .inr <| .inr <| .inr <| .inr <| .inr <| .inr <| .inr <| .inr <| .inr <| .inr <| .inl <| ⟨rfl, rfl, s50, s53, (.slice (some ⟨wx.heap.size, 0, none⟩) 0 0), by simp only [Act.put, List.setIfInBounds_toArray, List.set_cons_zero, List.set_cons_succ], hM2⟩
      refine rdy_cons rfl (fun K hK => ?_) ?_
      · have hM2 := hM.allocC; rw [hy0c] at hM2
        go_simp
        refine hK.out _ _ (hSx.alloc _) (fun _ => ih _ (by omega) _ _ _ ?_)
        exact .inr <| .inr <| .inr <| .inr <| .inr <| .inr <| .inr <| .inr <| .inr <| .inr <| .inr <| .inr <| .inr <| .inl <| ⟨rfl, rfl, s50, s53, (.slice (some ⟨wx.heap.size, 0, none⟩) 1 1), by simp only [Act.put, List.setIfInBounds_toArray, List.set_cons_zero, List.set_cons_succ], hM2⟩
      refine rdy_cons rfl (fun K hK => ?_) ?_
      · have hM2 := hM.allocD
        go_simp
        refine hK.out _ _ (hSx.alloc _) (fun _ => ih _ (by omega) _ _ _ ?_)
        exact .inr <| .inr <| .inr <| .inr <| .inr <| .inr <| .inr <| .inr <| .inr <| .inr <| .inr <| .inr <| .inr <| .inr <| .inl <| ⟨rfl, rfl, (.pointer (some ⟨wx.heap.size, 0, none⟩)), s50, s53, by simp only [Act.put, List.setIfInBounds_toArray, List.set_cons_zero, List.set_cons_succ], hM2⟩
      exact AllReadyH.nil
    · obtain ⟨hfu, rfl, s50, s54, rfl, hM⟩ := hh
      obtain rfl : fuel = 6 := by omega
      simp only [Act.put, List.setIfInBounds_toArray, List.set_cons_zero, List.set_cons_succ]
      have hSx := hSd.keep hM.ext
      refine wpAnyH_ready (rs := [3, 9, 12]) (by kernel_rfl) (by simp) ?_
      refine rdy_cons rfl (fun K hK => ?_) ?_
      · refine step_append_sown cV_len p.vars (fun x _ => cV_one x) Tryz.underlying22 Tryz.infoVar rfl (by decide) rfl (.tmp 50) (.tmp 52) rfl B s50 [] rfl (hM.a [] rfl) vo vn vc (hslV.keep hM.ext) rfl (by have := hn6; rw [← HN.out.1] at this; simp; omega) hM.heap (fun v' w' g1 g2 g3 => ?_)
        have hM2 := hM.growA g1 g2 g3
        refine hK.out _ _ (hSd.keep hM2.ext) (fun _ => ih _ (by omega) _ _ _ ?_)
        exact .inr <| .inr <| .inr <| .inr <| .inr <| .inr <| .inr <| .inr <| .inr <| .inr <| .inr <| .inr <| .inl <| ⟨rfl, rfl, s50, v', s54, by simp only [Act.put, List.setIfInBounds_toArray, List.set_cons_zero, List.set_cons_succ], hM2⟩
      refine rdy_cons rfl (fun K hK => ?_) ?_
      · have hM2 := hM.allocC; rw [hy0c] at hM2
        go_simp
        refine hK.out _ _ (hSx.alloc _) (fun _ => ih _ (by omega) _ _ _ ?_)
        exact .inr <| .inr <| .inr <| .inr <| .inr <| .inr <| .inr <| .inr <| .inr <| .inr <| .inr <| .inr <| .inr <| .inr <| .inr <| .inl <| ⟨rfl, rfl, s50, s54, (.slice (some ⟨wx.heap.size, 0, none⟩) 1 1), by simp only [Act.put, List.setIfInBounds_toArray, List.set_cons_zero, List.set_cons_succ], hM2⟩
      refine rdy_cons rfl (fun K hK => ?_) ?_
      · have hM2 := hM.allocD
        go_simp
        refine hK.out _ _ (hSx.alloc _) (fun _ => ih _ (by omega) _ _ _ ?_)
        exact .inr <| .inr <| .inr <| .inr <| .inr <| .inr <| .inr <| .inr <| .inr <| .inr <| .inr <| .inr <| .inr <| .inr <| .inr <| .inr <| .inl <| ⟨rfl, rfl, (.pointer (some ⟨wx.heap.size, 0, none⟩)), s50, s54, by simp only [Act.put, List.setIfInBounds_toArray, List.set_cons_zero, List.set_cons_succ], hM2⟩
      exact AllReadyH.nil
    · obtain ⟨hfu, rfl, s50, s59, rfl, hM⟩ := hh
      obtain rfl : fuel = 6 := by omega
      simp only [Act.put, List.setIfInBounds_toArray, List.set_cons_zero, List.set_cons_succ]
      have hSx := hSd.keep hM.ext
      refine wpAnyH_ready (rs := [3, 4, 12]) (by kernel_rfl) (by simp) ?_
      refine rdy_cons rfl (fun K hK => ?_) ?_
      · refine step_append_sown cV_len p.vars (fun x _ => cV_one x) Tryz.underlying22 Tryz.infoVar rfl (by decide) rfl (.tmp 50) (.tmp 52) rfl B s50 [] rfl (hM.a [] rfl) vo vn vc (hslV.keep hM.ext) rfl (by have := hn6; rw [← HN.out.1] at this; simp; omega) hM.heap (fun v' w' g1 g2 g3 => ?_)
        have hM2 := hM.growA g1 g2 g3
        refine hK.out _ _ (hSd.keep hM2.ext) (fun _ => ih _ (by omega) _ _ _ ?_)
        exact .inr <| .inr <| .inr <| .inr <| .inr <| .inr <| .inr <| .inr <| .inr <| .inr <| .inr <| .inr <| .inr <| .inl <| ⟨rfl, rfl, s50, v', s59, by simp only [Act.put, List.setIfInBounds_toArray, List.set_cons_zero, List.set_cons_succ], hM2⟩
      refine rdy_cons rfl (fun K hK => ?_) ?_
      · have hM2 := hM.allocB
        go_simp
        refine hK.out _ _ (hSx.alloc _) (fun _ => ih _ (by omega) _ _ _ ?_)
        exact .inr <| .inr <| .inr <| .inr <| .inr <| .inr <| .inr <| .inr <| .inr <| .inr <| .inr <| .inr <| .inr <| .inr <| .inr <| .inl <| ⟨rfl, rfl, s50, (.slice (some ⟨wx.heap.size, 0, none⟩) 0 0), s59, by simp only [Act.put, List.setIfInBounds_toArray, List.set_cons_zero, List.set_cons_succ], hM2⟩
      refine rdy_cons rfl (fun K hK => ?_) ?_
      · have hM2 := hM.allocD
        go_simp
        refine hK.out _ _ (hSx.alloc _) (fun _ => ih _ (by omega) _ _ _ ?_)
        exact .inr <| .inr <| .inr <| .inr <| .inr <| .inr <| .inr <| .inr <| .inr <| .inr <| .inr <| .inr <| .inr <| .inr <| .inr <| .inr <| .inr <| .inl <| ⟨rfl, rfl, (.pointer (some ⟨wx.heap.size, 0, none⟩)), s50, s59, by simp only [Act.put, List.setIfInBounds_toArray, List.set_cons_zero, List.set_cons_succ], hM2⟩
      exact AllReadyH.nil
    · obtain ⟨hfu, rfl, s11, s50, rfl, hM⟩ := hh
      obtain rfl : fuel = 6 := by omega
      simp only [Act.put, List.setIfInBounds_toArray, List.set_cons_zero, List.set_cons_succ]
      have hSx := hSd.keep hM.ext
      refine wpAnyH_ready (rs := [3, 4, 9]) (by kernel_rfl) (by simp) ?_
      refine rdy_cons rfl (fun K hK => ?_) ?_
      · refine step_append_sown cV_len p.vars (fun x _ => cV_one x) Tryz.underlying22 Tryz.infoVar rfl (by decide) rfl (.tmp 50) (.tmp 52) rfl B s50 [] rfl (hM.a [] rfl) vo vn vc (hslV.keep hM.ext) rfl (by have := hn6; rw [← HN.out.1] at this; simp; omega) hM.heap (fun v' w' g1 g2 g3 => ?_)
        have hM2 := hM.growA g1 g2 g3
        refine hK.out _ _ (hSd.keep hM2.ext) (fun _ => ih _ (by omega) _ _ _ ?_)
        exact .inr <| .inr <| .inr <| .inr <| .inr <| .inr <| .inr <| .inr <| .inr <| .inr <| .inr <| .inr <| .inr <| .inr <| .inl <| ⟨rfl, rfl, s11, s50, v', by simp only [Act.put, List.setIfInBounds_toArray, List.set_cons_zero, List.set_cons_succ], hM2⟩
      refine rdy_cons rfl (fun K hK => ?_) ?_
      · have hM2 := hM.allocB
        go_simp
        refine hK.out _ _ (hSx.alloc _) (fun _ => ih _ (by omega) _ _ _ ?_)
        exact .inr <| .inr <| .inr <| .inr <| .inr <| .inr <| .inr <| .inr <| .inr <| .inr <| .inr <| .inr <| .inr <| .inr <| .inr <| .inr <| .inl <| ⟨rfl, rfl, s11, s50, (.slice (some ⟨wx.heap.size, 0, none⟩) 0 0), by simp only [Act.put, List.setIfInBounds_toArray, List.set_cons_zero, List.set_cons_succ], hM2⟩
      refine rdy_cons rfl (fun K hK => ?_) ?_
      · have hM2 := hM.allocC; rw [hy0c] at hM2
        go_simp
        refine hK.out _ _ (hSx.alloc _) (fun _ => ih _ (by omega) _ _ _ ?_)
        exact .inr <| .inr <| .inr <| .inr <| .inr <| .inr <| .inr <| .inr <| .inr <| .inr <| .inr <| .inr <| .inr <| .inr <| .inr <| .inr <| .inr <| .inl <| ⟨rfl, rfl, s11, s50, (.slice (some ⟨wx.heap.size, 0, none⟩) 1 1), by simp only [Act.put, List.setIfInBounds_toArray, List.set_cons_zero, List.set_cons_succ], hM2⟩
      exact AllReadyH.nil
    · obtain ⟨hfu, rfl, s54, s59, rfl, hM⟩ := hh
      obtain rfl : fuel = 6 := by omega
      simp only [Act.put, List.setIfInBounds_toArray, List.set_cons_zero, List.set_cons_succ]
      have hSx := hSd.keep hM.ext
      refine wpAnyH_ready (rs := [0, 12]) (by kernel_rfl) (by simp) ?_
      refine rdy_cons rfl (fun K hK => ?_) ?_
      · have hM2 := hM.allocA
        go_simp
        refine hK.out _ _ (hSx.alloc _) (fun _ => ih _ (by omega) _ _ _ ?_)
        exact .inr <| .inr <| .inr <| .inr <| .inr <| .inr <| .inr <| .inr <| .inr <| .inr <| .inr <| .inr <| .inr <| .inr <| .inr <| .inl <| ⟨rfl, rfl, (.slice (some ⟨wx.heap.size, 0, none⟩) 0 0), s54, s59, by simp only [Act.put, List.setIfInBounds_toArray, List.set_cons_zero, List.set_cons_succ], hM2⟩
      refine rdy_cons rfl (fun K hK => ?_) ?_
      · have hM2 := hM.allocD
        go_simp
        refine hK.out _ _ (hSx.alloc _) (fun _ => ih _ (by omega) _ _ _ ?_)
        exact .inr <| .inr <| .inr <| .inr <| .inr <| .inr <| .inr <| .inr <| .inr <| .inr <| .inr <| .inr <| .inr <| .inr <| .inr <| .inr <| .inr <| .inr <| .inl <| ⟨rfl, rfl, (.pointer (some ⟨wx.heap.size, 0, none⟩)), s54, s59, by simp only [Act.put, List.setIfInBounds_toArray, List.set_cons_zero, List.set_cons_succ], hM2⟩
      exact AllReadyH.nil
    · obtain ⟨hfu, rfl, s11, s54, rfl, hM⟩ := hh
      obtain rfl : fuel = 6 := by omega
      simp only [Act.put, List.setIfInBounds_toArray, List.set_cons_zero, List.set_cons_succ]
      have hSx := hSd.keep hM.ext
      refine wpAnyH_ready (rs := [0, 9]) (by kernel_rfl) (by simp) ?_
      refine rdy_cons rfl (fun K hK => ?_) ?_
      · have hM2 := hM.allocA
        go_simp
        refine hK.out _ _ (hSx.alloc _) (fun _ => ih _ (by omega) _ _ _ ?_)
        exact .inr <| .inr <| .inr <| .inr <| .inr <| .inr <| .inr <| .inr <| .inr <| .inr <| .inr <| .inr <| .inr <| .inr <| .inr <| .inr <| .inl <| ⟨rfl, rfl, s11, (.slice (some ⟨wx.heap.size, 0, none⟩) 0 0), s54, by simp only [Act.put, List.setIfInBounds_toArray, List.set_cons_zero, List.set_cons_succ], hM2⟩
      refine rdy_cons rfl (fun K hK => ?_) ?_
      · have hM2 := hM.allocC; rw [hy0c] at hM2
        go_simp
        refine hK.out _ _ (hSx.alloc _) (fun _ => ih _ (by omega) _ _ _ ?_)
        exact .inr <| .inr <| .inr <| .inr <| .inr <| .inr <| .inr <| .inr <| .inr <| .inr <| .inr <| .inr <| .inr <| .inr <| .inr <| .inr <| .inr <| .inr <| .inl <| ⟨rfl, rfl, s11, s54, (.slice (some ⟨wx.heap.size, 0, none⟩) 1 1), by simp only [Act.put, List.setIfInBounds_toArray, List.set_cons_zero, List.set_cons_succ], hM2⟩
      exact AllReadyH.nil
    · obtain ⟨hfu, rfl, s11, s59, rfl, hM⟩ := hh
      obtain rfl : fuel = 6 := by omega
      simp only [Act.put, List.setIfInBounds_toArray, List.set_cons_zero, List.set_cons_succ]
      have hSx := hSd.keep hM.ext
      refine wpAnyH_ready (rs := [0, 4]) (by kernel_rfl) (by simp) ?_
      refine rdy_cons rfl (fun K hK => ?_) ?_
      · have hM2 := hM.allocA
        go_simp
        refine hK.out _ _ (hSx.alloc _) (fun _ => ih _ (by omega) _ _ _ ?_)
        exact .inr <| .inr <| .inr <| .inr <| .inr <| .inr <| .inr <| .inr <| .inr <| .inr <| .inr <| .inr <| .inr <| .inr <| .inr <| .inr <| .inr <| .inl <| ⟨rfl, rfl, s11, (.slice (some ⟨wx.heap.size, 0, none⟩) 0 0), s59, by simp only [Act.put, List.setIfInBounds_toArray, List.set_cons_zero, List.set_cons_succ], hM2⟩
      refine rdy_cons rfl (fun K hK => ?_) ?_
      · have hM2 := hM.allocB
        go_simp
        refine hK.out _ _ (hSx.alloc _) (fun _ => ih _ (by omega) _ _ _ ?_)
        exact .inr <| .inr <| .inr <| .inr <| .inr <| .inr <| .inr <| .inr <| .inr <| .inr <| .inr <| .inr <| .inr <| .inr <| .inr <| .inr <| .inr <| .inr <| .inl <| ⟨rfl, rfl, s11, (.slice (some ⟨wx.heap.size, 0, none⟩) 0 0), s59, by simp only [Act.put, List.setIfInBounds_toArray, List.set_cons_zero, List.set_cons_succ], hM2⟩
      exact AllReadyH.nil
    · obtain ⟨hfu, rfl, s50, s53, s54, rfl, hM⟩ := hh
      obtain rfl : fuel = 5 := by omega
      simp only [Act.put, List.setIfInBounds_toArray, List.set_cons_zero, List.set_cons_succ]
      have hSx := hSd.keep hM.ext
      refine wpAnyH_ready (rs := [7, 9, 12]) (by kernel_rfl) (by simp) ?_
      refine rdy_cons rfl (fun K hK => ?_) ?_
      · refine step_append_sown cRT_len prs hone Tryz.underlying23 Tryz.infoRow rfl (by decide) rfl (.tmp 54) (.tmp 56) rfl B s54 [] rfl (hM.b [] rfl) ro rn rc (hslR.keep hM.ext) rfl (by simp; omega) hM.heap (fun v' w' g1 g2 g3 => ?_)
        have hM2 := hM.growB g1 g2 g3
        refine hK.out _ _ (hSd.keep hM2.ext) (fun _ => ih _ (by omega) _ _ _ ?_)
        exact .inr <| .inr <| .inr <| .inr <| .inr <| .inr <| .inr <| .inr <| .inr <| .inr <| .inr <| .inr <| .inr <| .inr <| .inr <| .inr <| .inr <| .inr <| .inr <| .inl <| ⟨rfl, rfl, s50, s53, s54, v', by simp only [Act.put, List.setIfInBounds_toArray, List.set_cons_zero, List.set_cons_succ], hM2⟩
      refine rdy_cons rfl (fun K hK => ?_) ?_
      · have hM2 := hM.allocC; rw [hy0c] at hM2
        go_simp
        refine hK.out _ _ (hSx.alloc _) (fun _ => ih _ (by omega) _ _ _ ?_)
        exact .inr <| .inr <| .inr <| .inr <| .inr <| .inr <| .inr <| .inr <| .inr <| .inr <| .inr <| .inr <| .inr <| .inr <| .inr <| .inr <| .inr <| .inr <| .inr <| .inr <| .inl <| ⟨rfl, rfl, s50, s53, s54, (.slice (some ⟨wx.heap.size, 0, none⟩) 1 1), by simp only [Act.put, List.setIfInBounds_toArray, List.set_cons_zero, List.set_cons_succ], hM2⟩
      refine rdy_cons rfl (fun K hK => ?_) ?_
      · have hM2 := hM.allocD
        go_simp
        refine hK.out _ _ (hSx.alloc _) (fun _ => ih _ (by omega) _ _ _ ?_)
        exact .inr <| .inr <| .inr <| .inr <| .inr <| .inr <| .inr <| .inr <| .inr <| .inr <| .inr <| .inr <| .inr <| .inr <| .inr <| .inr <| .inr <| .inr <| .inr <| .inr <| .inr <| .inl <| ⟨rfl, rfl, (.pointer (some ⟨wx.heap.size, 0, none⟩)), s50, s53, s54, by simp only [Act.put, List.setIfInBounds_toArray, List.set_cons_zero, List.set_cons_succ], hM2⟩
      exact AllReadyH.nil
    · obtain ⟨hfu, rfl, s50, s53, s59, rfl, hM⟩ := hh
      obtain rfl : fuel = 5 := by omega
      simp only [Act.put, List.setIfInBounds_toArray, List.set_cons_zero, List.set_cons_succ]
      have hSx := hSd.keep hM.ext
      refine wpAnyH_ready (rs := [4, 12]) (by kernel_rfl) (by simp) ?_
      refine rdy_cons rfl (fun K hK => ?_) ?_
      · have hM2 := hM.allocB
        go_simp
        refine hK.out _ _ (hSx.alloc _) (fun _ => ih _ (by omega) _ _ _ ?_)
        exact .inr <| .inr <| .inr <| .inr <| .inr <| .inr <| .inr <| .inr <| .inr <| .inr <| .inr <| .inr <| .inr <| .inr <| .inr <| .inr <| .inr <| .inr <| .inr <| .inr <| .inl <| ⟨rfl, rfl, s50, s53, (.slice (some ⟨wx.heap.size, 0, none⟩) 0 0), s59, by simp only [Act.put, List.setIfInBounds_toArray, List.set_cons_zero, List.set_cons_succ], hM2⟩
      refine rdy_cons rfl (fun K hK => ?_) ?_
      · have hM2 := hM.allocD
        go_simp
        refine hK.out _ _ (hSx.alloc _) (fun _ => ih _ (by omega) _ _ _ ?_)
        exact .inr <| .inr <| .inr <| .inr <| .inr <| .inr <| .inr <| .inr <| .inr <| .inr <| .inr <| .inr <| .inr <| .inr <| .inr <| .inr <| .inr <| .inr <| .inr <| .inr <| .inr <| .inr <| .inl <| ⟨rfl, rfl, (.pointer (some ⟨wx.heap.size, 0, none⟩)), s50, s53, s59, by simp only [Act.put, List.setIfInBounds_toArray, List.set_cons_zero, List.set_cons_succ], hM2⟩
      exact AllReadyH.nil
    · obtain ⟨hfu, rfl, s11, s50, s53, rfl, hM⟩ := hh
      obtain rfl : fuel = 5 := by omega
      simp only [Act.put, List.setIfInBounds_toArray, List.set_cons_zero, List.set_cons_succ]
      have hSx := hSd.keep hM.ext
      refine wpAnyH_ready (rs := [4, 9]) (by kernel_rfl) (by simp) ?_
      refine rdy_cons rfl (fun K hK => ?_) ?_
      · have hM2 := hM.allocB
        go_simp
        refine hK.out _ _ (hSx.alloc _) (fun _ => ih _ (by omega) _ _ _ ?_)
        exact .inr <| .inr <| .inr <| .inr <| .inr <| .inr <| .inr <| .inr <| .inr <| .inr <| .inr <| .inr <| .inr <| .inr <| .inr <| .inr <| .inr <| .inr <| .inr <| .inr <| .inr <| .inl <| ⟨rfl, rfl, s11, s50, s53, (.slice (some ⟨wx.heap.size, 0, none⟩) 0 0), by simp only [Act.put, List.setIfInBounds_toArray, List.set_cons_zero, List.set_cons_succ], hM2⟩
      refine rdy_cons rfl (fun K hK => ?_) ?_
      · have hM2 := hM.allocC; rw [hy0c] at hM2
        go_simp
        refine hK.out _ _ (hSx.alloc _) (fun _ => ih _ (by omega) _ _ _ ?_)
        exact .inr <| .inr <| .inr <| .inr <| .inr <| .inr <| .inr <| .inr <| .inr <| .inr <| .inr <| .inr <| .inr <| .inr <| .inr <| .inr <| .inr <| .inr <| .inr <| .inr <| .inr <| .inr <| .inl <| ⟨rfl, rfl, s11, s50, s53, (.slice (some ⟨wx.heap.size, 0, none⟩) 1 1), by simp only [Act.put, List.setIfInBounds_toArray, List.set_cons_zero, List.set_cons_succ], hM2⟩
      exact AllReadyH.nil
    · obtain ⟨hfu, rfl, s50, s54, s59, rfl, hM⟩ := hh
      obtain rfl : fuel = 5 := by omega
      simp only [Act.put, List.setIfInBounds_toArray, List.set_cons_zero, List.set_cons_succ]
      have hSx := hSd.keep hM.ext
      refine wpAnyH_ready (rs := [3, 12]) (by kernel_rfl) (by simp) ?_
      refine rdy_cons rfl (fun K hK => ?_) ?_
      · refine step_append_sown cV_len p.vars (fun x _ => cV_one x) Tryz.underlying22 Tryz.infoVar rfl (by decide) rfl (.tmp 50) (.tmp 52) rfl B s50 [] rfl (hM.a [] rfl) vo vn vc (hslV.keep hM.ext) rfl (by have := hn6; rw [← HN.out.1] at this; simp; omega) hM.heap (fun v' w' g1 g2 g3 => ?_)
        have hM2 := hM.growA g1 g2 g3
        refine hK.out _ _ (hSd.keep hM2.ext) (fun _ => ih _ (by omega) _ _ _ ?_)
        exact .inr <| .inr <| .inr <| .inr <| .inr <| .inr <| .inr <| .inr <| .inr <| .inr <| .inr <| .inr <| .inr <| .inr <| .inr <| .inr <| .inr <| .inr <| .inr <| .inr <| .inl <| ⟨rfl, rfl, s50, v', s54, s59, by simp only [Act.put, List.setIfInBounds_toArray, List.set_cons_zero, List.set_cons_succ], hM2⟩
      refine rdy_cons rfl (fun K hK => ?_) ?_
      · have hM2 := hM.allocD
        go_simp
        refine hK.out _ _ (hSx.alloc _) (fun _ => ih _ (by omega) _ _ _ ?_)
        exact .inr <| .inr <| .inr <| .inr <| .inr <| .inr <| .inr <| .inr <| .inr <| .inr <| .inr <| .inr <| .inr <| .inr <| .inr <| .inr <| .inr <| .inr <| .inr <| .inr <| .inr <| .inr <| .inr <| .inl <| ⟨rfl, rfl, (.pointer (some ⟨wx.heap.size, 0, none⟩)), s50, s54, s59, by simp only [Act.put, List.setIfInBounds_toArray, List.set_cons_zero, List.set_cons_succ], hM2⟩
      exact AllReadyH.nil
    · obtain ⟨hfu, rfl, s11, s50, s54, rfl, hM⟩ := hh
      obtain rfl : fuel = 5 := by omega
      simp only [Act.put, List.setIfInBounds_toArray, List.set_cons_zero, List.set_cons_succ]
      have hSx := hSd.keep hM.ext
      refine wpAnyH_ready (rs := [3, 9]) (by kernel_rfl) (by simp) ?_
      refine rdy_cons rfl (fun K hK => ?_) ?_
      · refine step_append_sown cV_len p.vars (fun x _ => cV_one x) Tryz.underlying22 Tryz.infoVar rfl (by decide) rfl (.tmp 50) (.tmp 52) rfl B s50 [] rfl (hM.a [] rfl) vo vn vc (hslV.keep hM.ext) rfl (by have := hn6; rw [← HN.out.1] at this; simp; omega) hM.heap (fun v' w' g1 g2 g3 => ?_)
        have hM2 := hM.growA g1 g2 g3
        refine hK.out _ _ (hSd.keep hM2.ext) (fun _ => ih _ (by omega) _ _ _ ?_)
        exact .inr <| .inr <| .inr <| .inr <| .inr <| .inr <| .inr <| .inr <| .inr <| .inr <| .inr <| .inr <| .inr <| .inr <| .inr <| .inr <| .inr <| .inr <| .inr <| .inr <| .inr <| .inl <| ⟨rfl, rfl, s11, s50, v', s54, by simp only [Act.put, List.setIfInBounds_toArray, List.set_cons_zero, List.set_cons_succ], hM2⟩
      refine rdy_cons rfl (fun K hK => ?_) ?_
      · have hM2 := hM.allocC; rw [hy0c] at hM2
        go_simp
        refine hK.out _ _ (hSx.alloc _) (fun _ => ih _ (by omega) _ _ _ ?_)
        exact .inr <| .inr <| .inr <| .inr <| .inr <| .inr <| .inr <| .inr <| .inr <| .inr <| .inr <| .inr <| .inr <| .inr <| .inr <| .inr <| .inr <| .inr <| .inr <| .inr <| .inr <| .inr <| .inr <| .inl <| ⟨rfl, rfl, s11, s50, s54, (.slice (some ⟨wx.heap.size, 0, none⟩) 1 1), by simp only [Act.put, List.setIfInBounds_toArray, List.set_cons_zero, List.set_cons_succ], hM2⟩
      exact AllReadyH.nil
    · obtain ⟨hfu, rfl, s11, s50, s59, rfl, hM⟩ := hh
      obtain rfl : fuel = 5 := by omega
      simp only [Act.put, List.setIfInBounds_toArray, List.set_cons_zero, List.set_cons_succ]
      have hSx := hSd.keep hM.ext
      refine wpAnyH_ready (rs := [3, 4]) (by kernel_rfl) (by simp) ?_
      refine rdy_cons rfl (fun K hK => ?_) ?_
      · refine step_append_sown cV_len p.vars (fun x _ => cV_one x) Tryz.underlying22 Tryz.infoVar rfl (by decide) rfl (.tmp 50) (.tmp 52) rfl B s50 [] rfl (hM.a [] rfl) vo vn vc (hslV.keep hM.ext) rfl (by have := hn6; rw [← HN.out.1] at this; simp; omega) hM.heap (fun v' w' g1 g2 g3 => ?_)
        have hM2 := hM.growA g1 g2 g3
        refine hK.out _ _ (hSd.keep hM2.ext) (fun _ => ih _ (by omega) _ _ _ ?_)
        exact .inr <| .inr <| .inr <| .inr <| .inr <| .inr <| .inr <| .inr <| .inr <| .inr <| .inr <| .inr <| .inr <| .inr <| .inr <| .inr <| .inr <| .inr <| .inr <| .inr <| .inr <| .inr <| .inl <| ⟨rfl, rfl, s11, s50, v', s59, by simp only [Act.put, List.setIfInBounds_toArray, List.set_cons_zero, List.set_cons_succ], hM2⟩
      refine rdy_cons rfl (fun K hK => ?_) ?_
      · have hM2 := hM.allocB
        go_simp
        refine hK.out _ _ (hSx.alloc _) (fun _ => ih _ (by omega) _ _ _ ?_)
        exact .inr <| .inr <| .inr <| .inr <| .inr <| .inr <| .inr <| .inr <| .inr <| .inr <| .inr <| .inr <| .inr <| .inr <| .inr <| .inr <| .inr <| .inr <| .inr <| .inr <| .inr <| .inr <| .inr <| .inl <| ⟨rfl, rfl, s11, s50, (.slice (some ⟨wx.heap.size, 0, none⟩) 0 0), s59, by simp only [Act.put, List.setIfInBounds_toArray, List.set_cons_zero, List.set_cons_succ], hM2⟩
      exact AllReadyH.nil
    · obtain ⟨hfu, rfl, s11, s54, s59, rfl, hM⟩ := hh
      obtain rfl : fuel = 5 := by omega
      simp only [Act.put, List.setIfInBounds_toArray, List.set_cons_zero, List.set_cons_succ]
      have hSx := hSd.keep hM.ext
      refine wpAnyH_ready (rs := [0]) (by kernel_rfl) (by simp) ?_
      refine rdy_cons rfl (fun K hK => ?_) ?_
      · have hM2 := hM.allocA
        go_simp
        refine hK.out _ _ (hSx.alloc _) (fun _ => ih _ (by omega) _ _ _ ?_)
        exact .inr <| .inr <| .inr <| .inr <| .inr <| .inr <| .inr <| .inr <| .inr <| .inr <| .inr <| .inr <| .inr <| .inr <| .inr <| .inr <| .inr <| .inr <| .inr <| .inr <| .inr <| .inr <| .inr <| .inl <| ⟨rfl, rfl, s11, (.slice (some ⟨wx.heap.size, 0, none⟩) 0 0), s54, s59, by simp only [Act.put, List.setIfInBounds_toArray, List.set_cons_zero, List.set_cons_succ], hM2⟩
      exact AllReadyH.nil
    · obtain ⟨hfu, rfl, s50, s53, s54, s57, rfl, hM⟩ := hh
      obtain rfl : fuel = 4 := by omega
      simp only [Act.put, List.setIfInBounds_toArray, List.set_cons_zero, List.set_cons_succ]
      have hSx := hSd.keep hM.ext
      refine wpAnyH_ready (rs := [9, 12]) (by kernel_rfl) (by simp) ?_
      refine rdy_cons rfl (fun K hK => ?_) ?_
      · have hM2 := hM.allocC; rw [hy0c] at hM2
        go_simp
        refine hK.out _ _ (hSx.alloc _) (fun _ => ih _ (by omega) _ _ _ ?_)
        exact .inr <| .inr <| .inr <| .inr <| .inr <| .inr <| .inr <| .inr <| .inr <| .inr <| .inr <| .inr <| .inr <| .inr <| .inr <| .inr <| .inr <| .inr <| .inr <| .inr <| .inr <| .inr <| .inr <| .inr <| .inl <| ⟨rfl, rfl, s50, s53, s54, s57, (.slice (some ⟨wx.heap.size, 0, none⟩) 1 1), by simp only [Act.put, List.setIfInBounds_toArray, List.set_cons_zero, List.set_cons_succ], hM2⟩
      refine rdy_cons rfl (fun K hK => ?_) ?_
      · have hM2 := hM.allocD
        go_simp
        refine hK.out _ _ (hSx.alloc _) (fun _ => ih _ (by omega) _ _ _ ?_)
        exact .inr <| .inr <| .inr <| .inr <| .inr <| .inr <| .inr <| .inr <| .inr <| .inr <| .inr <| .inr <| .inr <| .inr <| .inr <| .inr <| .inr <| .inr <| .inr <| .inr <| .inr <| .inr <| .inr <| .inr <| .inr <| .inl <| ⟨rfl, rfl, (.pointer (some ⟨wx.heap.size, 0, none⟩)), s50, s53, s54, s57, by simp only [Act.put, List.setIfInBounds_toArray, List.set_cons_zero, List.set_cons_succ], hM2⟩
      exact AllReadyH.nil
    · obtain ⟨hfu, rfl, s50, s53, s54, s59, rfl, hM⟩ := hh
      obtain rfl : fuel = 4 := by omega
      simp only [Act.put, List.setIfInBounds_toArray, List.set_cons_zero, List.set_cons_succ]
      have hSx := hSd.keep hM.ext
      refine wpAnyH_ready (rs := [7, 12]) (by kernel_rfl) (by simp) ?_
      refine rdy_cons rfl (fun K hK => ?_) ?_
      · refine step_append_sown cRT_len prs hone Tryz.underlying23 Tryz.infoRow rfl (by decide) rfl (.tmp 54) (.tmp 56) rfl B s54 [] rfl (hM.b [] rfl) ro rn rc (hslR.keep hM.ext) rfl (by simp; omega) hM.heap (fun v' w' g1 g2 g3 => ?_)
        have hM2 := hM.growB g1 g2 g3
        refine hK.out _ _ (hSd.keep hM2.ext) (fun _ => ih _ (by omega) _ _ _ ?_)
        exact .inr <| .inr <| .inr <| .inr <| .inr <| .inr <| .inr <| .inr <| .inr <| .inr <| .inr <| .inr <| .inr <| .inr <| .inr <| .inr <| .inr <| .inr <| .inr <| .inr <| .inr <| .inr <| .inr <| .inr <| .inl <| ⟨rfl, rfl, s50, s53, s54, v', s59, by simp only [Act.put, List.setIfInBounds_toArray, List.set_cons_zero, List.set_cons_succ], hM2⟩
      refine rdy_cons rfl (fun K hK => ?_) ?_
      · have hM2 := hM.allocD
        go_simp
        refine hK.out _ _ (hSx.alloc _) (fun _ => ih _ (by omega) _ _ _ ?_)
        exact .inr <| .inr <| .inr <| .inr <| .inr <| .inr <| .inr <| .inr <| .inr <| .inr <| .inr <| .inr <| .inr <| .inr <| .inr <| .inr <| .inr <| .inr <| .inr <| .inr <| .inr <| .inr <| .inr <| .inr <| .inr <| .inr <| .inl <| ⟨rfl, rfl, (.pointer (some ⟨wx.heap.size, 0, none⟩)), s50, s53, s54, s59, by simp only [Act.put, List.setIfInBounds_toArray, List.set_cons_zero, List.set_cons_succ], hM2⟩
      exact AllReadyH.nil
    · obtain ⟨hfu, rfl, s11, s50, s53, s54, rfl, hM⟩ := hh
      obtain rfl : fuel = 4 := by omega
      simp only [Act.put, List.setIfInBounds_toArray, List.set_cons_zero, List.set_cons_succ]
      have hSx := hSd.keep hM.ext
      refine wpAnyH_ready (rs := [7, 9]) (by kernel_rfl) (by simp) ?_
      refine rdy_cons rfl (fun K hK => ?_) ?_
      · refine step_append_sown cRT_len prs hone Tryz.underlying23 Tryz.infoRow rfl (by decide) rfl (.tmp 54) (.tmp 56) rfl B s54 [] rfl (hM.b [] rfl) ro rn rc (hslR.keep hM.ext) rfl (by simp; omega) hM.heap (fun v' w' g1 g2 g3 => ?_)
        have hM2 := hM.growB g1 g2 g3
        refine hK.out _ _ (hSd.keep hM2.ext) (fun _ => ih _ (by omega) _ _ _ ?_)
        exact .inr <| .inr <| .inr <| .inr <| .inr <| .inr <| .inr <| .inr <| .inr <| .inr <| .inr <| .inr <| .inr <| .inr <| .inr <| .inr <| .inr <| .inr <| .inr <| .inr <| .inr <| .inr <| .inr <| .inr <| .inr <| .inl <| ⟨rfl, rfl, s11, s50, s53, s54, v', by simp only [Act.put, List.setIfInBounds_toArray, List.set_cons_zero, List.set_cons_succ], hM2⟩
      refine rdy_cons rfl (fun K hK => ?_) ?_
      · have hM2 := hM.allocC; rw [hy0c] at hM2
        go_simp
        refine hK.out _ _ (hSx.alloc _) (fun _ => ih _ (by omega) _ _ _ ?_)
        exact .inr <| .inr <| .inr <| .inr <| .inr <| .inr <| .inr <| .inr <| .inr <| .inr <| .inr <| .inr <| .inr <| .inr <| .inr <| .inr <| .inr <| .inr <| .inr <| .inr <| .inr <| .inr <| .inr <| .inr <| .inr <| .inr <| .inl <| ⟨rfl, rfl, s11, s50, s53, s54, (.slice (some ⟨wx.heap.size, 0, none⟩) 1 1), by simp only [Act.put, List.setIfInBounds_toArray, List.set_cons_zero, List.set_cons_succ], hM2⟩
      exact AllReadyH.nil
    · obtain ⟨hfu, rfl, s11, s50, s53, s59, rfl, hM⟩ := hh
      obtain rfl : fuel = 4 := by omega
      simp only [Act.put, List.setIfInBounds_toArray, List.set_cons_zero, List.set_cons_succ]
      have hSx := hSd.keep hM.ext
      refine wpAnyH_ready (rs := [4]) (by kernel_rfl) (by simp) ?_
      refine rdy_cons rfl (fun K hK => ?_) ?_
      · have hM2 := hM.allocB
        go_simp
        refine hK.out _ _ (hSx.alloc _) (fun _ => ih _ (by omega) _ _ _ ?_)
        exact .inr <| .inr <| .inr <| .inr <| .inr <| .inr <| .inr <| .inr <| .inr <| .inr <| .inr <| .inr <| .inr <| .inr <| .inr <| .inr <| .inr <| .inr <| .inr <| .inr <| .inr <| .inr <| .inr <| .inr <| .inr <| .inr <| .inl <| ⟨rfl, rfl, s11, s50, s53, (.slice (some ⟨wx.heap.size, 0, none⟩) 0 0), s59, by simp only [Act.put, List.setIfInBounds_toArray, List.set_cons_zero, List.set_cons_succ], hM2⟩
      exact AllReadyH.nil
    · obtain ⟨hfu, rfl, s11, s50, s54, s59, rfl, hM⟩ := hh
      obtain rfl : fuel = 4 := by omega
      simp only [Act.put, List.setIfInBounds_toArray, List.set_cons_zero, List.set_cons_succ]
      have hSx := hSd.keep hM.ext
      refine wpAnyH_ready (rs := [3]) (by kernel_rfl) (by simp) ?_
      refine rdy_cons rfl (fun K hK => ?_) ?_
      · refine step_append_sown cV_len p.vars (fun x _ => cV_one x) Tryz.underlying22 Tryz.infoVar rfl (by decide) rfl (.tmp 50) (.tmp 52) rfl B s50 [] rfl (hM.a [] rfl) vo vn vc (hslV.keep hM.ext) rfl (by have := hn6; rw [← HN.out.1] at this; simp; omega) hM.heap (fun v' w' g1 g2 g3 => ?_)
        have hM2 := hM.growA g1 g2 g3
        refine hK.out _ _ (hSd.keep hM2.ext) (fun _ => ih _ (by omega) _ _ _ ?_)
        exact .inr <| .inr <| .inr <| .inr <| .inr <| .inr <| .inr <| .inr <| .inr <| .inr <| .inr <| .inr <| .inr <| .inr <| .inr <| .inr <| .inr <| .inr <| .inr <| .inr <| .inr <| .inr <| .inr <| .inr <| .inr <| .inr <| .inl <| ⟨rfl, rfl, s11, s50, v', s54, s59, by simp only [Act.put, List.setIfInBounds_toArray, List.set_cons_zero, List.set_cons_succ], hM2⟩
      exact AllReadyH.nil
    · obtain ⟨hfu, rfl, s50, s53, s54, s57, s59, rfl, hM⟩ := hh
      obtain rfl : fuel = 3 := by omega
      simp only [Act.put, List.setIfInBounds_toArray, List.set_cons_zero, List.set_cons_succ]
      have hSx := hSd.keep hM.ext
      refine wpAnyH_ready (rs := [10, 12]) (by kernel_rfl) (by simp) ?_
      refine rdy_cons rfl (fun K hK => ?_) ?_
      · obtain ⟨gc, rfl, hcA⟩ := hM.c rfl
        refine step_append_sown cRT_len [y0] hone1 Tryz.underlying23 Tryz.infoRow rfl (by decide) rfl (.tmp 57) (.tmp 59) rfl B s57 prs rfl (hM.b prs rfl) _ 1 1 (hcA.sl cRT_len (Nat.le_refl _) (by unfold maxLen; decide)) rfl (by simp; omega) hM.heap (fun v' w' g1 g2 g3 => ?_)
        have hM2 := hM.growB g1 g2 g3
        obtain ⟨ao1, ac1, rfl⟩ := (hM.a _ rfl).shape
        obtain ⟨bo1, bc1, rfl⟩ := g1.shape
        obtain ⟨bl1, hbl⟩ : ∃ n, (prs ++ [y0]).length = n := ⟨_, rfl⟩
        clear g1 g2 g3
        rw [hbl] at hM2 ⊢
        clear hbl
        refine hK.out _ _ (hSd.keep hM2.ext) (fun hHeld => ?_)
        (try simp only [Act.put, List.setIfInBounds_toArray, List.set_cons_zero, List.set_cons_succ])
        refine held_take 11 (v := ?_) rfl (by kernel_rfl) (by kernel_rfl) (by kernel_rfl) (fun _ _ _ h => h) (by rfl) ?_ (by assumption) ?_
        rotate_left
        · ((intro w hSw; (try dsimp only at hSw); go_simp) <;> with_reducible rfl)
        (try simp only [Act.put, List.setIfInBounds_toArray, List.set_cons_zero, List.set_cons_succ])
        refine ih _ (by omega) _ _ _ ?_
        exact .inr <| .inr <| .inr <| .inr <| .inr <| .inr <| .inr <| .inr <| .inr <| .inr <| .inr <| .inr <| .inr <| .inr <| .inr <| .inr <| .inr <| .inr <| .inr <| .inr <| .inr <| .inr <| .inr <| .inr <| .inr <| .inr <| .inr <| .inl <| ⟨rfl, rfl, s50, (.slice ao1 p.vars.length ac1), s54, s57, (.slice (some ⟨gc, 0, none⟩) 1 1), (.slice bo1 bl1 bc1), by simp only [Act.put, List.setIfInBounds_toArray, List.set_cons_zero, List.set_cons_succ], hM2⟩
      refine rdy_cons rfl (fun K hK => ?_) ?_
      · have hM2 := hM.allocD
        go_simp
        refine hK.out _ _ (hSx.alloc _) (fun _ => ih _ (by omega) _ _ _ ?_)
        exact .inr <| .inr <| .inr <| .inr <| .inr <| .inr <| .inr <| .inr <| .inr <| .inr <| .inr <| .inr <| .inr <| .inr <| .inr <| .inr <| .inr <| .inr <| .inr <| .inr <| .inr <| .inr <| .inr <| .inr <| .inr <| .inr <| .inr <| .inr <| .inl <| ⟨rfl, rfl, (.pointer (some ⟨wx.heap.size, 0, none⟩)), s50, s53, s54, s57, s59, by simp only [Act.put, List.setIfInBounds_toArray, List.set_cons_zero, List.set_cons_succ], hM2⟩
      exact AllReadyH.nil
    · obtain ⟨hfu, rfl, s11, s50, s53, s54, s57, rfl, hM⟩ := hh
      obtain rfl : fuel = 3 := by omega
      simp only [Act.put, List.setIfInBounds_toArray, List.set_cons_zero, List.set_cons_succ]
      have hSx := hSd.keep hM.ext
      refine wpAnyH_ready (rs := [9]) (by kernel_rfl) (by simp) ?_
      refine rdy_cons rfl (fun K hK => ?_) ?_
      · have hM2 := hM.allocC; rw [hy0c] at hM2
        go_simp
        refine hK.out _ _ (hSx.alloc _) (fun _ => ih _ (by omega) _ _ _ ?_)
        exact .inr <| .inr <| .inr <| .inr <| .inr <| .inr <| .inr <| .inr <| .inr <| .inr <| .inr <| .inr <| .inr <| .inr <| .inr <| .inr <| .inr <| .inr <| .inr <| .inr <| .inr <| .inr <| .inr <| .inr <| .inr <| .inr <| .inr <| .inr <| .inl <| ⟨rfl, rfl, s11, s50, s53, s54, s57, (.slice (some ⟨wx.heap.size, 0, none⟩) 1 1), by simp only [Act.put, List.setIfInBounds_toArray, List.set_cons_zero, List.set_cons_succ], hM2⟩
      exact AllReadyH.nil
    · obtain ⟨hfu, rfl, s11, s50, s53, s54, s59, rfl, hM⟩ := hh
      obtain rfl : fuel = 3 := by omega
      simp only [Act.put, List.setIfInBounds_toArray, List.set_cons_zero, List.set_cons_succ]
      have hSx := hSd.keep hM.ext
      refine wpAnyH_ready (rs := [7]) (by kernel_rfl) (by simp) ?_
      refine rdy_cons rfl (fun K hK => ?_) ?_
      · refine step_append_sown cRT_len prs hone Tryz.underlying23 Tryz.infoRow rfl (by decide) rfl (.tmp 54) (.tmp 56) rfl B s54 [] rfl (hM.b [] rfl) ro rn rc (hslR.keep hM.ext) rfl (by simp; omega) hM.heap (fun v' w' g1 g2 g3 => ?_)
        have hM2 := hM.growB g1 g2 g3
        refine hK.out _ _ (hSd.keep hM2.ext) (fun _ => ih _ (by omega) _ _ _ ?_)
        exact .inr <| .inr <| .inr <| .inr <| .inr <| .inr <| .inr <| .inr <| .inr <| .inr <| .inr <| .inr <| .inr <| .inr <| .inr <| .inr <| .inr <| .inr <| .inr <| .inr <| .inr <| .inr <| .inr <| .inr <| .inr <| .inr <| .inr <| .inr <| .inl <| ⟨rfl, rfl, s11, s50, s53, s54, v', s59, by simp only [Act.put, List.setIfInBounds_toArray, List.set_cons_zero, List.set_cons_succ], hM2⟩
      exact AllReadyH.nil
    · obtain ⟨hfu, rfl, s50, s53, s54, s57, s59, s60, rfl, hM⟩ := hh
      obtain rfl : fuel = 1 := by omega
      simp only [Act.put, List.setIfInBounds_toArray, List.set_cons_zero, List.set_cons_succ]
      have hSx := hSd.keep hM.ext
      refine wpAnyH_ready (rs := [12]) (by kernel_rfl) (by simp) ?_
      refine rdy_cons rfl (fun K hK => ?_) ?_
      · have hM2 := hM.allocD
        go_simp
        refine hK.out _ _ (hSx.alloc _) (fun _ => ih _ (by omega) _ _ _ ?_)
        exact .inr <| .inr <| .inr <| .inr <| .inr <| .inr <| .inr <| .inr <| .inr <| .inr <| .inr <| .inr <| .inr <| .inr <| .inr <| .inr <| .inr <| .inr <| .inr <| .inr <| .inr <| .inr <| .inr <| .inr <| .inr <| .inr <| .inr <| .inr <| .inr <| ⟨rfl, rfl, (.pointer (some ⟨wx.heap.size, 0, none⟩)), s50, s53, s54, s57, s59, s60, by simp only [Act.put, List.setIfInBounds_toArray, List.set_cons_zero, List.set_cons_succ], hM2⟩
      exact AllReadyH.nil
    · obtain ⟨hfu, rfl, s11, s50, s53, s54, s57, s59, rfl, hM⟩ := hh
      obtain rfl : fuel = 2 := by omega
      simp only [Act.put, List.setIfInBounds_toArray, List.set_cons_zero, List.set_cons_succ]
      have hSx := hSd.keep hM.ext
      refine wpAnyH_ready (rs := [10]) (by kernel_rfl) (by simp) ?_
      refine rdy_cons rfl (fun K hK => ?_) ?_
      · obtain ⟨gc, rfl, hcA⟩ := hM.c rfl
        refine step_append_sown cRT_len [y0] hone1 Tryz.underlying23 Tryz.infoRow rfl (by decide) rfl (.tmp 57) (.tmp 59) rfl B s57 prs rfl (hM.b prs rfl) _ 1 1 (hcA.sl cRT_len (Nat.le_refl _) (by unfold maxLen; decide)) rfl (by simp; omega) hM.heap (fun v' w' g1 g2 g3 => ?_)
        have hM2 := hM.growB g1 g2 g3
        obtain ⟨ao1, ac1, rfl⟩ := (hM.a _ rfl).shape
        obtain ⟨bo1, bc1, rfl⟩ := g1.shape
        obtain ⟨bl1, hbl⟩ : ∃ n, (prs ++ [y0]).length = n := ⟨_, rfl⟩
        clear g1 g2 g3
        rw [hbl] at hM2 ⊢
        clear hbl
        refine hK.out _ _ (hSd.keep hM2.ext) (fun hHeld => ?_)
        (try simp only [Act.put, List.setIfInBounds_toArray, List.set_cons_zero, List.set_cons_succ])
        refine held_take 11 (v := ?_) rfl (by kernel_rfl) (by kernel_rfl) (by kernel_rfl) (fun _ _ _ h => h) (by rfl) ?_ (by assumption) ?_
        rotate_left
        · ((intro w hSw; (try dsimp only at hSw); go_simp) <;> with_reducible rfl)
        (try simp only [Act.put, List.setIfInBounds_toArray, List.set_cons_zero, List.set_cons_succ])
        refine ih _ (by omega) _ _ _ ?_
        exact .inr <| .inr <| .inr <| .inr <| .inr <| .inr <| .inr <| .inr <| .inr <| .inr <| .inr <| .inr <| .inr <| .inr <| .inr <| .inr <| .inr <| .inr <| .inr <| .inr <| .inr <| .inr <| .inr <| .inr <| .inr <| .inr <| .inr <| .inr <| .inr <| ⟨rfl, rfl, s11, s50, (.slice ao1 p.vars.length ac1), s54, s57, (.slice (some ⟨gc, 0, none⟩) 1 1), (.slice bo1 bl1 bc1), by simp only [Act.put, List.setIfInBounds_toArray, List.set_cons_zero, List.set_cons_succ], hM2⟩
      exact AllReadyH.nil
    · obtain ⟨hfu, rfl, s11, s50, s53, s54, s57, s59, s60, rfl, hM⟩ := hh
      obtain rfl : fuel = 0 := by omega
      simp only [Act.put, List.setIfInBounds_toArray, List.set_cons_zero, List.set_cons_succ]
      have hSx := hSd.keep hM.ext
      refine wpAnyH_ready (rs := [13]) (by kernel_rfl) (by simp) ?_
      refine rdy_cons rfl (fun K hK => ?_) ?_
      · obtain ⟨gd, rfl, hgB, hgb⟩ := hM.d rfl
        obtain ⟨ao1, ac1, rfl⟩ := (hM.a _ rfl).shape
        obtain ⟨bo1, bc1, rfl⟩ := (hM.b _ rfl).shape
        have hbl : (prs ++ [y0]).length = rn + 1 := by simp [hpl]
        rw [hbl] at hM
        clear hbl
        have q0 := cellq hgb 0 rfl
        have q1 := cellq hgb 1 rfl
        have q2 := free_of_cells hgb 0
        have q3 := free_of_cells hgb 1
        have hxx := ((Ext.refl (fun k => k = gd) wx).setCell (p := ⟨gd, 0, none⟩) (.slice ao1 p.vars.length ac1) (fun _ => rfl)).setCell (p := ⟨gd, 1, none⟩) (.slice bo1 (rn + 1) bc1) (fun _ => rfl)
        have hgb2 := blk_setCell_same (blk_setCell_same hgb 0 (.slice ao1 p.vars.length ac1)) 1 (.slice bo1 (rn + 1) bc1)
        have hBw : w5.heap.size = B := by rw [← hB, ← hwd]; rfl
        have hpl1 := blk_lt HB5.out.1
        have hpl2 := blk_lt HB5.out.2.1
        have n1 : ¬ pb = gd := by omega
        have n2 : ¬ rb = gd := by omega
        have hS13 := S7.set (S7.set hSx ⟨gd, 0, none⟩ (.slice ao1 p.vars.length ac1) n1 n1 n2 n2 n2 n2 n2) ⟨gd, 1, none⟩ (.slice bo1 (rn + 1) bc1) n1 n1 n2 n2 n2 n2 n2
        have hFin := Lib.hid (And.intro hgb2 (And.intro (show w5.heap.size ≤ gd by omega) (And.intro (ownsRow_ext (hM.a _ rfl) hxx (fun g e e2 => hM.ad g (by rw [blOf_own rfl]; exact e) (by rw [e2]; rfl))) (And.intro (ownsRow_ext (hM.b _ rfl) hxx (fun g e e2 => hM.bd g (by rw [blOf_own rfl]; exact e) (by rw [e2]; rfl))) (And.intro hM.ab (And.intro hM.ad (And.intro hM.bd ((((Ext.refl (fun _ => False) w5).drew.trans (hwd ▸ Ext.refl _ _)).trans hM.ext).own hxx (fun k e => by omega)))))))))
        have HBw := Lib.hid hBw
        clear hgb hgb2 hxx hpl1 hpl2 hBw
        go_simp
        refine hK.out _ _ hS13 (fun _ => ?_)
        refine wpAnyH_done (by kernel_rfl) ?_ _
        clear hK K
        go_wp2
        go_meet
        exact ⟨gd, _, _, rfl, hFin.out.1, hFin.out.2.1, by rw [HBw.out]; exact hFin.out.2.2.1, by rw [HBw.out]; exact hFin.out.2.2.2.1, hFin.out.2.2.2.2.1, hFin.out.2.2.2.2.2.1, hFin.out.2.2.2.2.2.2.1, hFin.out.2.2.2.2.2.2.2⟩
      exact AllReadyH.nil
  · exact .inl ⟨rfl, rfl, rfl, hB ▸ Half.start y0 wd⟩

end Go.Proofs.YtbgienfcmdgaaaaGreat
