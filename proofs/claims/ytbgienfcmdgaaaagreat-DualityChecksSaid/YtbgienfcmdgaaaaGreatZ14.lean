/-
  The reference's Empty, Signed, Valid. Conditions: the arguments read as programs, multipliers.
-/
import Derived.Test.YtbgienfcmdgaaaaGreatZ13
import Derived.Test.YtbgienfcmdgaaaaGreatZ9
import Derived.Test.YtbgienfcmdgaaaaGreatZ8
set_option linter.unusedVariables false
namespace Go.Proofs.YtbgienfcmdgaaaaGreat
open Go.RowKit Go.MapKept
open Go.ChangeMaps (setBlock)

def emB (p : ProgV) (i : Nat) : Bool := (p.v i).op || decide ((p.v i).lo ≤ (p.v i).up)
set_option maxRecDepth 100000 in
set_option maxHeartbeats 8000000 in
theorem Empty4_any (w : World) (pv : Value) (p : ProgV) (hp : IsPrg w pv p) :
    Calls Tryz.prog 146 #[pv] w (BoolPost w (emptyB p)) := by
  obtain ⟨vv, rv, rfl, hr, -⟩ := hp
  obtain ⟨vo, vc, rfl, -, hn, -⟩ := hr.shape
  have HV := Lib.hid hr
  clear hr
  obtain ⟨n, hn'⟩ : ∃ n, p.vars.length = n := ⟨_, rfl⟩
  have HN := Lib.hid hn'
  rw [hn'] at hn ⊢ HV
  clear hn'
  have HB := Lib.hid (And.intro (blk_alloc_at w (.cells #[.slice vo n vc, rv] 25)) ((Ext.refl (fun _ => False) w).alloc (.cells #[.slice vo n vc, rv] 25)))
  go_enter Tryz.func146, Tryz.ntmps146
  go_upto_region 1 with fail
  generalize hw1 : w.alloc (.cells #[.slice vo n vc, rv] 25) = w1 at *
  clear hw1
  obtain ⟨pb, hpb⟩ : ∃ pb, w.heap.size = pb := ⟨_, rfl⟩
  rw [hpb] at HB ⊢
  clear hpb
  have z0 := cellq HB.out.1 0 rfl
  go_wp2_with fail
  go_loopg [3] n (fun gg v3 wr => ∃ i : Nat, i ≤ n ∧ gg = n - i ∧ v3 = .int .i64 i ∧ allTo i (emB p) = true ∧ wr.cell? ⟨pb, 0, none⟩ = some (.slice vo n vc) ∧ Ext (fun _ => False) w wr)
  case atStart => exact ⟨0, Nat.zero_le _, rfl, rfl, rfl, z0, HB.out.2⟩
  case round =>
    clear z0
    obtain ⟨i, hi, rfl, rfl, hall, z0, hx⟩ := hrel
    have HX := Lib.hid (And.intro hall (And.intro z0 hx))
    have HXN := Lib.hid (fun N => hx.drewN N)
    clear hall
    by_cases hin : i < n
    · have i0 : (i : Int) < (n : Int) := by omega
      have i1 : (0 : Int) ≤ (i : Int) := by omega
      obtain ⟨b, off, rfl, -, e0, e1, e2, e3, e4, hok⟩ := (HV.out.keep hx).atp i (by rw [HN.out]; exact hin)
      clear e3 e4 hok hx
      obtain ⟨q, hq⟩ : ∃ q, emB p i = q := ⟨_, rfl⟩
      have HQ := Lib.hid hq
      have HR : Hid (q = ((p.v i).op || decide ((p.v i).lo ≤ (p.v i).up))) := Lib.hid hq.symm
      clear hq
      generalize (p.v i).op = o at *
      generalize (p.v i).lo = lo at *
      generalize (p.v i).up = up at *
      cases o with
      | true =>
        have HE : Hid (q = true) := Lib.hid HR.out
        go_upto_region 4 with fail
        go_quiet (fail)
        go_wp2
        go_roundg (n - (i + 1))
        case measure => omega
        case rel => exact ⟨i + 1, by omega, rfl, by go_num, allTo_next HX.out.1 (HQ.out.trans HE.out), HX.out.2.1, HXN.out _⟩
      | false =>
        by_cases hlu : up < lo
        · have HE : Hid (q = false) := Lib.hid (HR.out.trans (by simp; omega))
          go_upto_region 4 with fail
          go_quiet (fail)
          go_wp2
          go_ret
          exact ⟨ret_bool (by show true = !allTo p.vars.length (emB p); rw [allTo_false (i := i) (by rw [HN.out]; exact hin) (HQ.out.trans HE.out)]; rfl), HXN.out _⟩
        · have HE : Hid (q = true) := Lib.hid (HR.out.trans (by simp; omega))
          go_upto_region 4 with fail
          go_quiet (fail)
          go_wp2
          go_roundg (n - (i + 1))
          case measure => omega
          case rel => exact ⟨i + 1, by omega, rfl, by go_num, allTo_next HX.out.1 (HQ.out.trans HE.out), HX.out.2.1, HXN.out _⟩
    · obtain rfl : i = n := by omega
      go_wp2
      go_ret
      exact ⟨ret_bool (by show false = !allTo p.vars.length (emB p); rw [HN.out, HX.out.1]; rfl), HX.out.2.2⟩
set_option maxRecDepth 100000 in
set_option maxHeartbeats 8000000 in
theorem Signed4_any (w : World) (pv yv : Value) (p : ProgV) (y : List Rat) (L : Nat) (hp : IsPrg w pv p) (hy : Rats w yv y L) (h1 : 1 ≤ L) (hL : L ≤ 268435455) :
    Calls Tryz.prog 145 #[pv, yv] w (BoolPost w (signedB p y)) := by
  obtain ⟨vv, rv, rfl, -, hr⟩ := hp
  obtain ⟨ro, rc, rfl, -, hn, -⟩ := hr.shape
  have HV := Lib.hid hr
  obtain ⟨n, hn'⟩ : ∃ n, p.rows.length = n := ⟨_, rfl⟩
  have HN := Lib.hid hn'
  have HA := Lib.hid (fun W (hW : Ext (fun _ => False) w W) (i : Nat) => At_any W _ y L (hy.keep hW) i)
  have HG := Lib.hid (fun W u q (hu : Rrat W u q L) => Rrsign_any W u q L hu hL)
  clear hr hy
  rw [hn'] at hn ⊢ HV
  clear hn'
  have HB := Lib.hid (And.intro (blk_alloc_at w (.cells #[vv, .slice ro n rc] 25)) ((Ext.refl (fun _ => False) w).alloc (.cells #[vv, .slice ro n rc] 25)))
  go_enter Tryz.func145, Tryz.ntmps145
  go_upto_region 1 with fail
  generalize hw1 : w.alloc (.cells #[vv, .slice ro n rc] 25) = w1 at *
  clear hw1
  obtain ⟨pb, hpb⟩ : ∃ pb, w.heap.size = pb := ⟨_, rfl⟩
  rw [hpb] at HB ⊢
  clear hpb
  have z1 := cellq HB.out.1 1 rfl
  go_wp2_with fail
  go_loopg [5, 6] n (fun gg v5 v6 wr => ∃ i : Nat, i ≤ n ∧ gg = n - i ∧ v5 = .int .i64 i ∧ allTo i (fun i => signB (p.r i).kind (atQ y i)) = true ∧ wr.cell? ⟨pb, 1, none⟩ = some (.slice ro n rc) ∧ Ext (fun _ => False) w wr)
  case atStart => exact ⟨0, Nat.zero_le _, rfl, rfl, rfl, z1, HB.out.2⟩
  case round =>
    clear z1
    obtain ⟨i, hi, rfl, rfl, hall, z1, hx⟩ := hrel
    have HX := Lib.hid (And.intro hall (And.intro z1 hx))
    clear hall
    by_cases hin : i < n
    · have i0 : (i : Int) < (n : Int) := by omega
      have i1 : (0 : Int) ≤ (i : Int) := by omega
      obtain ⟨b, off, ta, tc, rfl, hlt, e0, e1, e2, e3, e4, -, -⟩ := HV.out.atp i (by rw [HN.out]; exact hin)
      have E2 := Lib.hid e2
      clear hlt e0 e1 e2 e3 e4 hx
      generalize (p.r i).terms.length = tn at *
      obtain ⟨k, hk⟩ : ∃ k, (p.r i).kind = k := ⟨_, rfl⟩
      rw [hk] at E2
      have HK := Lib.hid hk
      clear hk
      have HA1 := Lib.hid (fun W (hW : Ext (fun _ => False) w W) => HA.out W hW i)
      go_wp2_with fail
      refine (HA1.out _ HX.out.2.2).mono ?_
      rintro r2 w2 ⟨v2, rfl, h2, hx2⟩
      obtain ⟨n2, a2, l2, c2, a2', l2', c2', rfl⟩ := h2.shape
      have HG2 := Lib.hid (HG.out w2 _ _ h2)
      have HX2 := Lib.hid hx2
      clear h2 hx2 HA1 z1
      go_wp2_with fail
      refine HG2.out.mono ?_
      rintro r3 w3 ⟨rfl, hx3⟩
      have hx13 := HX2.out.trans hx3
      have e2 := cell_keep E2.out (HX.out.2.2.trans hx13)
      have z1 := cell_keep HX.out.2.1 hx13
      have Z1 := Lib.hid z1
      have hs1 := sign_lt (atQ y i)
      have hs2 := sign_gt (atQ y i)
      have HX3 := Lib.hid (HX.out.2.2.trans hx13)
      have hres : signB (p.r i).kind (atQ y i) = !(decide (k = 1) && decide ((atQ y i).num.sign < 0) || decide (k = 0) && decide (0 < (atQ y i).num.sign)) := by
        unfold signB; rw [HK.out]; congr 2 <;> congr 1 <;> exact decide_eq_decide.2 (by first | exact hs1.symm | exact hs2.symm)
      have HR := Lib.hid hres
      clear hx3 hx13 HX2 HG2 hs1 hs2 hres HK E2
      generalize (atQ y i).num.sign = sg at *
      have hcase : (k = 1 ∧ sg < 0) ∨ (k = 0 ∧ 0 < sg) ∨ (k = 1 ∧ ¬ sg < 0) ∨ (k = 0 ∧ ¬ 0 < sg) ∨ (¬ k = 1 ∧ ¬ k = 0) := by omega
      rcases hcase with ⟨rfl, hs⟩ | ⟨rfl, hs⟩ | ⟨rfl, hs⟩ | ⟨rfl, hs⟩ | ⟨hk1, hk0⟩
      · go_wp2
        go_ret
        exact ⟨ret_bool (allTo_false (i := i) (by rw [HN.out]; exact hin) (by rw [HR.out]; simp [hs])).symm, HX3.out⟩
      · go_wp2
        go_ret
        exact ⟨ret_bool (allTo_false (i := i) (by rw [HN.out]; exact hin) (by rw [HR.out]; simp [hs])).symm, HX3.out⟩
      · go_wp2
        go_roundg (n - (i + 1))
        case measure => omega
        case rel => exact ⟨i + 1, by omega, rfl, by go_num, allTo_next HX.out.1 (by rw [HR.out]; simp [hs]), Z1.out, HX3.out⟩
      · go_wp2
        go_roundg (n - (i + 1))
        case measure => omega
        case rel => exact ⟨i + 1, by omega, rfl, by go_num, allTo_next HX.out.1 (by rw [HR.out]; simp [hs]), Z1.out, HX3.out⟩
      · have k1 : (k == 1) = false := by simpa using hk1
        have k0 : (k == 0) = false := by simpa using hk0
        go_wp2
        go_roundg (n - (i + 1))
        case measure => omega
        case rel => exact ⟨i + 1, by omega, rfl, by go_num, allTo_next HX.out.1 (by rw [HR.out]; simp [hk1, hk0]), Z1.out, HX3.out⟩
    · obtain rfl : i = n := by omega
      go_wp2
      go_ret
      exact ⟨ret_bool (by unfold signedB; rw [HN.out]; exact HX.out.1.symm), HX.out.2.2⟩
set_option maxRecDepth 100000 in
set_option maxHeartbeats 8000000 in
theorem Valid4_any (w : World) (pv : Value) (p : ProgV) (hp : IsPrg w pv p) :
    Calls Tryz.prog 36 #[pv] w (BoolPost w (validB p)) := by
  obtain ⟨vv, rv, rfl, hv, hr⟩ := hp
  obtain ⟨vo, vc, rfl, -, hnv, -⟩ := hv.shape
  obtain ⟨ro, rc, rfl, -, hnr, -⟩ := hr.shape
  have HV := Lib.hid (And.intro hv hr)
  clear hv hr
  obtain ⟨n, hn'⟩ : ∃ n, p.vars.length = n := ⟨_, rfl⟩
  obtain ⟨m, hm'⟩ : ∃ m, p.rows.length = m := ⟨_, rfl⟩
  have HN := Lib.hid (And.intro hn' hm')
  have HR := Lib.hid (show validB p = (decide (n ≤ 400) && decide (m ≤ 4000) && p.vars.all varB && p.rows.all (rowB n)) from by unfold validB; rw [hn', hm'])
  rw [hn'] at hnv ⊢ HV
  rw [hm'] at hnr ⊢ HV
  clear hn' hm'
  have HB := Lib.hid (And.intro (blk_alloc_at w (.cells #[.slice vo n vc, .slice ro m rc] 25)) ((Ext.refl (fun _ => False) w).alloc (.cells #[.slice vo n vc, .slice ro m rc] 25)))
  go_enter Tryz.func36, Tryz.ntmps36
  go_upto_region 1 with fail
  generalize hw1 : w.alloc (.cells #[.slice vo n vc, .slice ro m rc] 25) = w1 at *
  clear hw1
  obtain ⟨pb, hpb⟩ : ∃ pb, w.heap.size = pb := ⟨_, rfl⟩
  rw [hpb] at HB ⊢
  clear hpb
  have z0 := cellq HB.out.1 0 rfl
  have z1 := cellq HB.out.1 1 rfl
  by_cases c1 : 400 < n
  · have c1' : (400 : Int) < (n : Int) := by omega
    go_wp2
    go_ret
    exact ⟨ret_bool (by rw [HR.out, decide_eq_false (p := (n ≤ 400)) (by omega)]; simp), HB.out.2⟩
  have c1' : ¬ (400 : Int) < (n : Int) := by omega
  by_cases c2 : 4000 < m
  · have c2' : (4000 : Int) < (m : Int) := by omega
    go_wp2
    go_ret
    exact ⟨ret_bool (by rw [HR.out, decide_eq_false (p := (m ≤ 4000)) (by omega)]; simp), HB.out.2⟩
  have c2' : ¬ (4000 : Int) < (m : Int) := by omega
  have HR2 : Hid (validB p = (p.vars.all varB && p.rows.all (rowB n))) := Lib.hid (by rw [HR.out, decide_eq_true (p := (n ≤ 400)) (by omega), decide_eq_true (p := (m ≤ 4000)) (by omega)]; simp)
  clear HR
  go_wp2_with fail
  go_loopg [3, 4] n (fun gg v3 v4 wr => ∃ i : Nat, i ≤ n ∧ gg = n - i ∧ v3 = .int .i64 i ∧ (p.vars.take i).all varB = true ∧ (wr.cell? ⟨pb, 0, none⟩ = some (.slice vo n vc) ∧ wr.cell? ⟨pb, 1, none⟩ = some (.slice ro m rc)) ∧ Ext (fun _ => False) w wr)
  case atStart => exact ⟨0, Nat.zero_le _, rfl, rfl, rfl, ⟨z0, z1⟩, HB.out.2⟩
  case round =>
    clear z0 z1
    obtain ⟨i, hi, rfl, rfl, hall, ⟨z0, z1⟩, hx⟩ := hrel
    have HX := Lib.hid (And.intro hall (And.intro hx (And.intro z0 z1)))
    clear hall
    by_cases hin : i < n
    · have i0 : (i : Int) < (n : Int) := by omega
      have i1 : (0 : Int) ≤ (i : Int) := by omega
      have HI : Hid (i < p.vars.length) := Lib.hid (by rw [HN.out.1]; exact hin)
      obtain ⟨b, off, rfl, -, e0, e1, e2, e3, e4, -⟩ := (HV.out.1.keep HX.out.2.1).atp i HI.out
      have hb1 := BoxV.new wr (p.v i)
      have hx1 := (Ext.refl (fun _ => False) wr).alloc (.cells #[.int .i64 (p.v i).lo, .int .i64 (p.v i).up, .bool (p.v i).op, .bool (p.v i).ig, .int .i64 (p.v i).co] 63)
      have HB1 := Lib.hid (And.intro hb1 hx1)
      have HVB := Lib.hid (show varB (p.vars.getD i var0) = (limB (p.v i).lo && limB (p.v i).up && limB (p.v i).co && !((p.v i).op && !decide ((p.v i).up = 0))) from rfl)
      clear hb1 hx1 hx
      go_upto_region 7 with fail
      generalize hw2 : wr.alloc (.cells #[.int .i64 (p.v i).lo, .int .i64 (p.v i).up, .bool (p.v i).op, .bool (p.v i).ig, .int .i64 (p.v i).co] 63) = w2 at *
      clear hw2 e0 e1 e2 e3 e4 z0 z1
      obtain ⟨vb, hvb⟩ : ∃ vb, wr.heap.size = vb := ⟨_, rfl⟩
      rw [hvb] at HB1 ⊢
      clear hvb
      generalize p.v i = vv at *
      obtain ⟨lo, up, o, ig, co⟩ := vv
      dsimp only at HVB
      have f0 : w2.cell? ⟨vb, 0, none⟩ = some (.int .i64 lo) := HB1.out.1.facts.1
      go_wp2_with fail
      refine (inn_any _ _).mono ?_
      rintro r3 w3 ⟨rfl, hx3⟩
      have HB3 := Lib.hid (And.intro (HB1.out.1.keep hx3) (HB1.out.2.trans hx3))
      clear hx3 HB1 f0
      cases hl : limB lo with
      | false =>
        rw [hl] at HVB
        go_wp2
        go_ret
        exact ⟨ret_bool (by rw [HR2.out, all_fails (d := var0) HI.out (HVB.out.trans rfl)]; rfl), HX.out.2.1.trans HB3.out.2⟩
      | true =>
      rw [hl] at HVB
      clear hl
      have f1 : w3.cell? ⟨vb, 1, none⟩ = some (.int .i64 up) := HB3.out.1.facts.2.1
      go_wp2_with fail
      refine (inn_any _ _).mono ?_
      rintro r4 w4 ⟨rfl, hx4⟩
      have HB4 := Lib.hid (And.intro (HB3.out.1.keep hx4) (HB3.out.2.trans hx4))
      clear hx4 HB3 f1
      cases hl : limB up with
      | false =>
        rw [hl] at HVB
        go_wp2
        go_ret
        exact ⟨ret_bool (by rw [HR2.out, all_fails (d := var0) HI.out (HVB.out.trans rfl)]; rfl), HX.out.2.1.trans HB4.out.2⟩
      | true =>
      rw [hl] at HVB
      clear hl
      have f4 : w4.cell? ⟨vb, 4, none⟩ = some (.int .i64 co) := HB4.out.1.facts.2.2.2.2
      go_wp2_with fail
      refine (inn_any _ _).mono ?_
      rintro r5 w5 ⟨rfl, hx5⟩
      have HB5 := Lib.hid (And.intro (HB4.out.1.keep hx5) (HB4.out.2.trans hx5))
      clear hx5 HB4 f4
      cases hl : limB co with
      | false =>
        rw [hl] at HVB
        go_wp2
        go_ret
        exact ⟨ret_bool (by rw [HR2.out, all_fails (d := var0) HI.out (HVB.out.trans rfl)]; rfl), HX.out.2.1.trans HB5.out.2⟩
      | true =>
      rw [hl] at HVB
      clear hl
      have f1 : w5.cell? ⟨vb, 1, none⟩ = some (.int .i64 up) := HB5.out.1.facts.2.1
      have f2 : w5.cell? ⟨vb, 2, none⟩ = some (.bool o) := HB5.out.1.facts.2.2.1
      have HZ := Lib.hid (And.intro (cell_keep HX.out.2.2.1 HB5.out.2) (cell_keep HX.out.2.2.2 HB5.out.2))
      cases o with
      | false =>
        go_wp2
        go_roundg (n - (i + 1))
        case measure => omega
        case rel => exact ⟨i + 1, by omega, rfl, by go_num, all_next (d := var0) HI.out HX.out.1 (HVB.out.trans rfl), HZ.out, HX.out.2.1.trans HB5.out.2⟩
      | true =>
        by_cases hu : up = 0
        · have HVB' := Lib.hid (HVB.out.trans (show _ = true by rw [decide_eq_true hu]; rfl))
          clear HVB
          subst hu
          go_wp2
          go_roundg (n - (i + 1))
          case measure => omega
          case rel => exact ⟨i + 1, by omega, rfl, by go_num, all_next (d := var0) HI.out HX.out.1 HVB'.out, HZ.out, HX.out.2.1.trans HB5.out.2⟩
        · have hu' : (up == 0) = false := by simpa using hu
          have hu2 : (up != 0) = true := by simpa using hu
          have HVB' := Lib.hid (HVB.out.trans (show _ = false by rw [decide_eq_false hu]; rfl))
          clear HVB
          go_wp2
          go_ret
          exact ⟨ret_bool (by rw [HR2.out, all_fails (d := var0) HI.out HVB'.out]; rfl), HX.out.2.1.trans HB5.out.2⟩
    · obtain rfl : n = i := by omega
      have HF : Hid (validB p = p.rows.all (rowB n)) := Lib.hid (by
        have := HX.out.1
        rw [List.take_of_length_le (by rw [HN.out.1]; exact Nat.le_refl _)] at this
        rw [HR2.out, this]; rfl)
      clear HR2 hi hin hx
      have HVr := Lib.hid (HV.out.2.keep HX.out.2.1)
      have HRow := Lib.hid (fun W (hW : Ext (fun _ => False) w W) (i : Nat) (hi : i < p.rows.length) ta tc (hok : RowOk (p.r i)) (ht : Tms w (.slice ta (p.r i).terms.length tc) (p.r i).terms) => ValidRow_any W n (by omega) (p.r i) ta tc hok (ht.keep hW))
      go_wp2_with fail
      go_loopg [5] m (fun gg v5 wr => ∃ i : Nat, i ≤ m ∧ gg = m - i ∧ v5 = .int .i64 i ∧ (p.rows.take i).all (rowB n) = true ∧ (wr.cell? ⟨pb, 0, none⟩ = some (.slice vo n vc) ∧ wr.cell? ⟨pb, 1, none⟩ = some (.slice ro m rc)) ∧ Ext (fun _ => False) w wr)
      case atStart => exact ⟨0, Nat.zero_le _, rfl, rfl, rfl, HX.out.2.2, HX.out.2.1⟩
      case round =>
        clear z0 z1 HX HVr
        obtain ⟨i, hi, rfl, rfl, hall, ⟨z0, z1⟩, hx⟩ := hrel
        have HX := Lib.hid (And.intro hall (And.intro hx (And.intro z0 z1)))
        clear hall
        by_cases hin : i < m
        · have i0 : (i : Int) < (m : Int) := by omega
          have i1 : (0 : Int) ≤ (i : Int) := by omega
          have HI : Hid (i < p.rows.length) := Lib.hid (by rw [HN.out.2]; exact hin)
          obtain ⟨b, off, ta, tc, rfl, -, e0, e1, e2, e3, e4, hrok, htm⟩ := HV.out.2.atp i HI.out
          replace e0 := cell_keep e0 hx
          replace e1 := cell_keep e1 hx
          replace e2 := cell_keep e2 hx
          replace e3 := cell_keep e3 hx
          replace e4 := cell_keep e4 hx
          have HH := Lib.hid (fun W (hW : Ext (fun _ => False) w W) => HRow.out W hW i HI.out ta tc hrok htm)
          clear hrok htm
          obtain ⟨hb, hhb⟩ : ∃ hb, rowB n (p.r i) = hb := ⟨_, rfl⟩
          have HHB := Lib.hid hhb
          rw [hhb] at HH
          clear hhb
          generalize (p.r i).terms.length = tl at *
          generalize (p.r i).name = nm at *
          generalize (p.r i).group = gr at *
          generalize (p.r i).kind = k at *
          generalize (p.r i).bound = bd at *
          have hS : S7 pb pb b b b b b 0 1 (off + i * 5) (off + i * 5 + 1) (off + i * 5 + 2) (off + i * 5 + 3) (off + i * 5 + 4) (.slice vo n vc) (.slice (some ⟨b, off, none⟩) m rc) (.string nm) (.int .i64 gr) (.int .i64 k) (.slice ta tl tc) (.int .i64 bd) wr := ⟨z0, z1, e0, e1, e2, e3, e4⟩
          have hxw := hx
          clear z0 z1 e0 e1 e2 e3 e4 hx
          go_upto_region 12 with fail
          refine wp_region_held_drew (S := (S7 pb pb b b b b b 0 1 (off + i * 5) (off + i * 5 + 1) (off + i * 5 + 2) (off + i * 5 + 3) (off + i * 5 + 4) (.slice vo n vc) (.slice (some ⟨b, off, none⟩) m rc) (.string nm) (.int .i64 gr) (.int .i64 k) (.slice ta tl tc) (.int .i64 bd))) (by kernel_rfl) (hS.drew) (fun hHeld => ?_)
          refine held_take 0 (v := ?_) rfl (by kernel_rfl) (by kernel_rfl) (by kernel_rfl) (fun _ _ _ h => h) (by rfl) ?_ (by assumption) ?_
          rotate_left
          · ((intro w hSw; (try dsimp only at hSw); go_simp) <;> with_reducible rfl)
          (try simp only [Act.put, List.setIfInBounds_toArray, List.set_cons_zero, List.set_cons_succ])
          refine held_take 1 (v := ?_) rfl (by kernel_rfl) (by kernel_rfl) (by kernel_rfl) (fun _ _ _ h => h) (by rfl) ?_ (by assumption) ?_
          rotate_left
          · ((intro w hSw; (try dsimp only at hSw); go_simp) <;> with_reducible rfl)
          (try simp only [Act.put, List.setIfInBounds_toArray, List.set_cons_zero, List.set_cons_succ])
          refine held_take 2 (v := ?_) rfl (by kernel_rfl) (by kernel_rfl) (by kernel_rfl) (fun _ _ _ h => h) (by rfl) ?_ (by assumption) ?_
          rotate_left
          · ((intro w hSw; (try dsimp only at hSw); go_simp) <;> with_reducible rfl)
          (try simp only [Act.put, List.setIfInBounds_toArray, List.set_cons_zero, List.set_cons_succ])
          refine held_take 3 (v := ?_) rfl (by kernel_rfl) (by kernel_rfl) (by kernel_rfl) (fun _ _ _ h => h) (by rfl) ?_ (by assumption) ?_
          rotate_left
          · ((intro w hSw; (try dsimp only at hSw); go_simp) <;> with_reducible rfl)
          (try simp only [Act.put, List.setIfInBounds_toArray, List.set_cons_zero, List.set_cons_succ])
          refine held_take 4 (v := ?_) rfl (by kernel_rfl) (by kernel_rfl) (by kernel_rfl) (fun _ _ _ h => h) (by rfl) ?_ (by assumption) ?_
          rotate_left
          · ((intro w hSw; (try dsimp only at hSw); go_simp) <;> with_reducible rfl)
          (try simp only [Act.put, List.setIfInBounds_toArray, List.set_cons_zero, List.set_cons_succ])
          refine held_take 5 (v := ?_) rfl (by kernel_rfl) (by kernel_rfl) (by kernel_rfl) (fun _ _ _ h => h) (by rfl) ?_ (by assumption) ?_
          rotate_left
          · ((intro w hSw; (try dsimp only at hSw); go_simp) <;> with_reducible rfl)
          (try simp only [Act.put, List.setIfInBounds_toArray, List.set_cons_zero, List.set_cons_succ])
          refine held_take 6 (v := ?_) rfl (by kernel_rfl) (by kernel_rfl) (by kernel_rfl) (fun _ _ _ h => h) (by rfl) ?_ (by assumption) ?_
          rotate_left
          · ((intro w hSw; (try dsimp only at hSw); go_simp) <;> with_reducible rfl)
          (try simp only [Act.put, List.setIfInBounds_toArray, List.set_cons_zero, List.set_cons_succ])
          refine held_take 7 (v := ?_) rfl (by kernel_rfl) (by kernel_rfl) (by kernel_rfl) (fun _ _ _ h => h) (by rfl) ?_ (by assumption) ?_
          rotate_left
          · ((intro w hSw; (try dsimp only at hSw); go_simp) <;> with_reducible rfl)
          (try simp only [Act.put, List.setIfInBounds_toArray, List.set_cons_zero, List.set_cons_succ])
          refine held_step 8 rfl (by kernel_rfl) (fun K hK => ?_)
          (go_simp; go_at_call 34; (with_reducible refine (HH.out _ (hxw.drew)).mono ?_); rintro q1 w11 ⟨rfl, hx11⟩; have hX1 := (Ext.refl (fun _ => False) wr).drew.trans hx11; have hK1 := hS.keep hX1)
          refine hK.out _ _ (hK1) (fun hHeld => ?_)
          clear hK K
          (try simp only [Act.put, List.setIfInBounds_toArray, List.set_cons_zero, List.set_cons_succ])
          refine held_take 9 (v := ?_) rfl (by kernel_rfl) (by kernel_rfl) (by kernel_rfl) (fun _ _ _ h => h) (by rfl) ?_ (by assumption) ?_
          rotate_left
          · ((intro w hSw; (try dsimp only at hSw); go_simp) <;> with_reducible rfl)
          (try simp only [Act.put, List.setIfInBounds_toArray, List.set_cons_zero, List.set_cons_succ])
          refine wpAnyH_done (by kernel_rfl) ?_ _
          have y0 := hK1.1
          have y1 := hK1.2.1
          have HXa := Lib.hid (And.intro (HX.out.2.1.trans hX1) (And.intro y0 y1))
          clear hX1 hK1 hS hx11 hxw hHeld y0 y1
          cases hb with
          | true =>
            go_wp2
            go_roundg (m - (i + 1))
            case measure => omega
            case rel => exact ⟨i + 1, by omega, rfl, by go_num, all_next (d := row0) HI.out HX.out.1 HHB.out, HXa.out.2, HXa.out.1⟩
          | false =>
            go_wp2
            go_ret
            exact ⟨ret_bool (by rw [HF.out, all_fails (d := row0) HI.out HHB.out]), HXa.out.1⟩
        · obtain rfl : i = m := by omega
          have HG : Hid (validB p = true) := Lib.hid (by
            have := HX.out.1
            rw [List.take_of_length_le (by rw [HN.out.2]; exact Nat.le_refl _)] at this
            rw [HF.out, this])
          go_wp2
          go_ret
          exact ⟨ret_bool (by rw [HG.out]), HX.out.2.1⟩
end Go.Proofs.YtbgienfcmdgaaaaGreat
/-
  The laws of a drawn region that is walked by hand, with their small conditions paid by themselves. Conditions: none beyond each lemma's own.
-/
namespace Go.Proofs.YtbgienfcmdgaaaaGreat
open Go.RowKit Go.MapKept

section
variable {P : Program} {md : Region.Mode} {l : List Oper} {Q : Exit → Act → World → Prop} {S : World → Prop} {k : Nat}
theorem ht (i : Nat) {oi : Oper} {v : Value} {fuel : Nat} {listed : Array Bool} {a : Act} {w : World} (hi : l[i]? = some oi := by rfl) (hs : Region.noSelect l.toArray = true := by kernel_rfl) (hf : Region.free md l.toArray listed i = true := by kernel_rfl)
    (hr : (Region.ready md l.toArray listed).contains i = true := by kernel_rfl) (hQ : ∀ c a w, Q (.panic c) (a.put oi.dst v) w → Q (.panic c) a w := by exact fun _ _ _ h => h) (hw : Region.wanted oi (yielded l.toArray a.tmps) = true := by rfl)
    (he : ∀ w, S w → (execOp a.eval oi).run P w = .ok (.value v) w := by (intro w hSw; (try simp only [Act.put, List.setIfInBounds_toArray, List.set_cons_zero, List.set_cons_succ]); (try dsimp only at hSw); go_simp) <;> with_reducible rfl) (hS : S w := by assumption) (h : wpAnyH P md l.toArray Q S fuel (listed.setIfInBounds i true) (a.put oi.dst v) w) : wpAnyH P md l.toArray Q S (fuel + 1) listed a w :=
  held_take i hi hs hf hr hQ hw he hS h
theorem hk (i : Nat) {oi : Oper} {fuel : Nat} {listed : Array Bool} {a : Act} {w : World} (hi : l[i]? = some oi := by rfl) (hs : Region.noSelect l.toArray = true := by kernel_rfl) (hf : Region.free md l.toArray listed i = true := by kernel_rfl)
    (hr : (Region.ready md l.toArray listed).contains i = true := by kernel_rfl) (hQ : ∀ c a w, Q (.panic c) (a.put oi.dst undef) w → Q (.panic c) a w := by exact fun _ _ _ h => h) (hw : Region.wanted oi (yielded l.toArray a.tmps) = false := by rfl)
    (hS : S w := by assumption) (h : wpAnyH P md l.toArray Q S fuel (listed.setIfInBounds i true) (a.put oi.dst undef) w) : wpAnyH P md l.toArray Q S (fuel + 1) listed a w :=
  held_skip i hi hs hf hr hQ hw hS h
theorem hst (i : Nat) {oi : Oper} {fuel : Nat} {listed : Array Bool} {a : Act} {w : World} (hi : l[i]? = some oi := by rfl) (hr : Region.ready md l.toArray listed = [i] := by kernel_rfl)
    (h : ∀ K' : Act → World → Prop, Shut (∀ a w, S w → (S w → wpAnyH P md l.toArray Q S fuel (listed.setIfInBounds i true) a w) → K' a w) → if Region.wanted oi (yielded l.toArray a.tmps) = true then Oper.wp P oi a w K' Q else K' (a.put oi.dst undef) w) :
    wpAnyH P md l.toArray Q S (fuel + 1) listed a w := held_step i hi hr h
theorem et (i : Nat) {oi : Oper} {v : Value} {fuel : Nat} {listed : Array Bool} {a : Act} {w : World} (hi : l[i]? = some oi := by rfl) (hs : Region.noSelect l.toArray = true := by kernel_rfl) (hf : Region.free md l.toArray listed i = true := by kernel_rfl)
    (hr : (Region.ready md l.toArray listed).contains i = true := by kernel_rfl) (hk : waits md l k i = true := by kernel_rfl) (hQ : ∀ c a w, Q (.panic c) (a.put oi.dst v) w → Q (.panic c) a w := by exact fun _ _ _ h => h) (hw : Region.wanted oi (yielded l.toArray a.tmps) = true := by rfl)
    (he : ∀ w, S w → (execOp a.eval oi).run P w = .ok (.value v) w := by (intro w hSw; (try simp only [Act.put, List.setIfInBounds_toArray, List.set_cons_zero, List.set_cons_succ]); (try dsimp only at hSw); go_simp) <;> with_reducible rfl) (hS : S w := by assumption) (h : Ends P md l.toArray Q S k fuel (listed.setIfInBounds i true) (a.put oi.dst v) w) : Ends P md l.toArray Q S k (fuel + 1) listed a w :=
  ends_take i hi hs hf hr hk hQ hw he hS h
theorem ek (i : Nat) {oi : Oper} {fuel : Nat} {listed : Array Bool} {a : Act} {w : World} (hi : l[i]? = some oi := by rfl) (hs : Region.noSelect l.toArray = true := by kernel_rfl) (hf : Region.free md l.toArray listed i = true := by kernel_rfl)
    (hr : (Region.ready md l.toArray listed).contains i = true := by kernel_rfl) (hk : waits md l k i = true := by kernel_rfl) (hQ : ∀ c a w, Q (.panic c) (a.put oi.dst undef) w → Q (.panic c) a w := by exact fun _ _ _ h => h) (hw : Region.wanted oi (yielded l.toArray a.tmps) = false := by rfl)
    (hS : S w := by assumption) (h : Ends P md l.toArray Q S k fuel (listed.setIfInBounds i true) (a.put oi.dst undef) w) : Ends P md l.toArray Q S k (fuel + 1) listed a w :=
  ends_skip i hi hs hf hr hk hQ hw hS h
theorem est (i : Nat) {oi : Oper} {fuel : Nat} {listed : Array Bool} {a : Act} {w : World} (hi : l[i]? = some oi := by rfl) (hr : Region.ready md l.toArray listed = [i] := by kernel_rfl)
    (h : ∀ K' : Act → World → Prop, Shut (∀ a w, S w → (S w → Ends P md l.toArray Q S k fuel (listed.setIfInBounds i true) a w) → K' a w) → if Region.wanted oi (yielded l.toArray a.tmps) = true then Oper.wp P oi a w K' Q else K' (a.put oi.dst undef) w) :
    Ends P md l.toArray Q S k (fuel + 1) listed a w := ends_step i hi hr h
end
section
variable {w0 W : World}
/-- a cell of an old block, in every world that has grown out of w0 -/
theorem cq {b i : Nat} {v : Value} (h : w0.cell? ⟨b, i, none⟩ = some v) : ∀ W, Ext (fun _ => False) w0 W → W.cell? ⟨b, i, none⟩ = some v := fun _ hx => cell_keep h hx
theorem cqo {S : Nat → Prop} {b i : Nat} {v : Value} (h : w0.cell? ⟨b, i, none⟩ = some v) (hn : ¬ S b) : ∀ W, Ext S w0 W → W.cell? ⟨b, i, none⟩ = some v := fun _ hx => (hx.cell (p := ⟨b, i, none⟩) (World.block_lt_of_cell? _ _ h) hn).trans h
theorem Ext.none {S : Nat → Prop} (h : Ext (fun _ => False) w0 W) : Ext S w0 W := h.mono (fun _ _ h => h.elim)
end
end Go.Proofs.YtbgienfcmdgaaaaGreat
/-
  The reference's Combine. Conditions: the arguments read as a program, multipliers.
-/
namespace Go.Proofs.YtbgienfcmdgaaaaGreat
open Go.RowKit Go.MapKept
open Go.ChangeMaps (setBlock)

/-- what the loops of Combine keep -/
structure CmSt (w wr : World) (pb rb bb B n : Nat) (va vb : Value) (f : Nat → Rat) (q : Rat) : Prop where
  ext : Ext (fun _ => False) w wr
  p0 : wr.cell? ⟨pb, 0, none⟩ = some va
  p1 : wr.cell? ⟨pb, 1, none⟩ = some vb
  res : BoxR wr rb false (.slice none 0 0) (.slice none 0 0)
  acc : ∃ sn s1 sm1 sc1 s2 sm2 sc2, BoxR wr bb sn (.slice s1 sm1 sc1) (.slice s2 sm2 sc2) ∧ IsRat wr (.agg #[.bool sn, .slice s1 sm1 sc1, .slice s2 sm2 sc2]) q
  arr : RArr wr B n f
  ord : w.heap.size ≤ pb ∧ pb < rb ∧ rb < B ∧ B < bb
section
variable {w wr w' : World} {pb rb bb B n : Nat} {va vb : Value} {f g : Nat → Rat} {q : Rat}
theorem CmSt.keep (h : CmSt w wr pb rb bb B n va vb f q) (hx : Ext (fun _ => False) wr w') : CmSt w w' pb rb bb B n va vb f q :=
  ⟨h.ext.trans hx, cell_keep h.p0 hx, cell_keep h.p1 hx, h.res.keep hx, (by obtain ⟨sn, s1, sm1, sc1, s2, sm2, sc2, h1, h2⟩ := h.acc; exact ⟨sn, s1, sm1, sc1, s2, sm2, sc2, h1.keep hx, h2.keep hx⟩), h.arr.keep hx, h.ord⟩
theorem CmSt.congr (h : CmSt w wr pb rb bb B n va vb f q) {q' : Rat} (hg : ∀ i, i < n → f i = g i) (hq : q = q') : CmSt w wr pb rb bb B n va vb g q' :=
  ⟨h.ext, h.p0, h.p1, h.res, hq ▸ h.acc, h.arr.congr hg, h.ord⟩
theorem IsRat.past {v : Value} (h : IsRat w v q) (hr : ∀ v l, Rds w v l → Rds w' v l) : IsRat w' v q := by
  obtain ⟨mag, dv', g1, g2, g3⟩ := h
  exact ⟨mag, dv', g1, hr _ _ g2, hr _ _ g3⟩
theorem CmSt.setArr (h : CmSt w wr pb rb bb B n va vb f q) {j : Nat} (hj : j < n) {neg : Bool} {a1 a2 : Option Addr} {m1 c1 m2 c2 : Nat} {u : Rat} (hu : IsRat wr (.agg #[.bool neg, .slice a1 m1 c1, .slice a2 m2 c2]) u) :
    CmSt w (((wr.setCell ⟨B, j * 3, none⟩ (.bool neg)).setCell ⟨B, j * 3 + 1, none⟩ (.slice a1 m1 c1)).setCell ⟨B, j * 3 + 2, none⟩ (.slice a2 m2 c2)) pb rb bb B n va vb (fun k => if k = j then u else f k) q ∧ Ext (fun k => k = B) wr (((wr.setCell ⟨B, j * 3, none⟩ (.bool neg)).setCell ⟨B, j * 3 + 1, none⟩ (.slice a1 m1 c1)).setCell ⟨B, j * 3 + 2, none⟩ (.slice a2 m2 c2)) := by
  obtain ⟨p1, p2, p3⟩ := h.arr.put hj hu
  obtain ⟨o1, o2, o3, o4⟩ := h.ord
  refine ⟨⟨h.ext.own p2 (fun k e => by omega), (p2.cell (p := ⟨pb, 0, none⟩) (World.block_lt_of_cell? _ _ h.p0) (fun e => by have : pb = B := e; omega)).trans h.p0, (p2.cell (p := ⟨pb, 1, none⟩) (World.block_lt_of_cell? _ _ h.p1) (fun e => by have : pb = B := e; omega)).trans h.p1, h.res.ext p2 (fun e => by omega), ?_, p1, h.ord⟩, p2⟩
  obtain ⟨sn, s1, sm1, sc1, s2, sm2, sc2, h1, h2⟩ := h.acc
  exact ⟨sn, s1, sm1, sc1, s2, sm2, sc2, h1.ext p2 (fun e => by omega), h2.past p3⟩
theorem CmSt.setAcc (h : CmSt w wr pb rb bb B n va vb f q) {n0 : Bool} {m0 d0 : Value} (hb : BoxR wr bb n0 m0 d0) {neg : Bool} {a1 a2 : Option Addr} {m1 c1 m2 c2 : Nat} {u : Rat} (hu : IsRat wr (.agg #[.bool neg, .slice a1 m1 c1, .slice a2 m2 c2]) u) :
    CmSt w (((wr.setCell ⟨bb, 0, none⟩ (.bool neg)).setCell ⟨bb, 1, none⟩ (.slice a1 m1 c1)).setCell ⟨bb, 2, none⟩ (.slice a2 m2 c2)) pb rb bb B n va vb f u := by
  have hp := hb.put (neg := neg) (no_int a1 m1 c1) (no_int a2 m2 c2)
  have p2 := hp.ext
  obtain ⟨o1, o2, o3, o4⟩ := h.ord
  exact ⟨h.ext.own p2 (fun k e => by omega), (p2.cell (p := ⟨pb, 0, none⟩) (World.block_lt_of_cell? _ _ h.p0) (fun e => by have : pb = bb := e; omega)).trans h.p0, (p2.cell (p := ⟨pb, 1, none⟩) (World.block_lt_of_cell? _ _ h.p1) (fun e => by have : pb = bb := e; omega)).trans h.p1, h.res.ext p2 (fun e => by omega), ⟨_, _, _, _, _, _, _, hp.box, hp.rat hu⟩, h.arr.past p2 (fun e => by omega) hp.rds, h.ord⟩
end
set_option maxRecDepth 100000 in
set_option maxHeartbeats 8000000 in
theorem Combine4_any (w : World) (pv yv : Value) (p : ProgV) (y : List Rat) (L T : Nat) (hp : IsPrg w pv p) (hy : Rats w yv y L) (h1 : 1 ≤ L) (hT : ∀ i, i < p.rows.length → (p.r i).terms.length ≤ T)
    (hL : 1 + p.rows.length * (T * (L + 3) + 2) + (1 + T * (L + 3)) + (L + 3) ≤ 4000000) (hL2 : 1 + p.rows.length * (L + 3) + (L + 3) ≤ 4000000) (hL3 : L ≤ 1000000) (hvn : p.vars.length ≤ 1000000) :
    Calls Tryz.prog 147 #[pv, yv] w (CombPost w p.vars.length (combA p y) (combB p y)) := by
  obtain ⟨vv, rv, rfl, hv, hr⟩ := hp
  obtain ⟨vo, vc, rfl, -, -, -⟩ := hv.shape
  obtain ⟨ro, rc, rfl, -, hn, -⟩ := hr.shape
  have HA := Lib.hid (fun W (hW : Ext (fun _ => False) w W) (i : Nat) => At_any W _ y L (hy.keep hW) i)
  have hsz : ∀ i j k, i < p.rows.length → k < (p.r i).terms.length → Sz (sumTo i (rowA p y j) + sumTo k (termA (p.r i) (atQ y i) j)) (1 + p.rows.length * (T * (L + 3) + 2) + (1 + T * (L + 3)) + 1) := fun i j k hi hk => by
    have hok : ∀ i, i < p.rows.length → ∀ k, k < (p.r i).terms.length → TermOk ((p.r i).t k) := fun i hi k hk => by
      obtain ⟨_, _, _, _, rfl, _, _, _, _, _, _, _, ht⟩ := hr.atp i hi
      exact ht.ok k hk
    have g1 : ∀ i, i < p.rows.length → ∀ k, k ≤ (p.r i).terms.length → Sz (sumTo k (termA (p.r i) (atQ y i) j)) (1 + T * (L + 3)) := fun i hi k hk =>
      (sumTo_sz (M := L + 2) (fun k' hk' => termA_sz (hy.sz h1 i) (hok i hi k' (by omega)) j)).mono (by
        have := Nat.mul_le_mul_right (L + 3) (Nat.le_trans hk (hT i hi))
        show 1 + k * (L + 3) ≤ _
        omega)
    have g2 : Sz (sumTo i (rowA p y j)) (1 + p.rows.length * (T * (L + 3) + 2)) :=
      (sumTo_sz (M := 1 + T * (L + 3)) (fun i' hi' => g1 i' (by omega) _ (Nat.le_refl _))).mono (by
        have := Nat.mul_le_mul_right (T * (L + 3) + 2) (Nat.le_of_lt hi)
        rw [show 1 + T * (L + 3) + 1 = T * (L + 3) + 2 from by omega]
        omega)
    exact g2.add (g1 i hi k (by omega))
  have hszb : ∀ i, i < p.rows.length → Sz (sumTo i fun k => ((p.r k).bound : Rat) * atQ y k) 4000000 := fun i hi =>
    (sum_size (f := fun k => (p.r k).bound) (g := fun k => atQ y k) (L := L) (n := p.rows.length) (fun k hk => (hr.ok k hk).bound) (fun k _ => hy.sz h1 _) i (Nat.le_of_lt hi)).mono (by have := Nat.mul_le_mul_right (L + 3) (Nat.le_of_lt hi); omega)
  have Hsz := Lib.hid (And.intro hsz hszb)
  have Hq := Lib.hid (fun i => hy.sz h1 i)
  generalize hM : 1 + p.rows.length * (T * (L + 3) + 2) + (1 + T * (L + 3)) + 1 = M at *
  have hML : M + (L + 2) ≤ 4000000 := by omega
  have HV := Lib.hid hr
  clear hv hr hy hsz hszb hL hL2 hM hT
  obtain ⟨m, hm'⟩ : ∃ m, p.rows.length = m := ⟨_, rfl⟩
  have HN := Lib.hid hm'
  have HQB := Lib.hid (show combB p y = sumTo m (fun k => ((p.r k).bound : Rat) * atQ y k) from by unfold combB; rw [hm'])
  rw [hm'] at hn ⊢ HV Hsz
  clear hm'
  obtain ⟨n, hn'⟩ : ∃ n, p.vars.length = n := ⟨_, rfl⟩
  rw [hn'] at hvn ⊢
  clear hn'
  have hb1 : blk ((w.alloc (.cells #[.slice vo n vc, .slice ro m rc] 25)).alloc (.cells #[.bool false, .slice none 0 0, .slice none 0 0] 31)) w.heap.size = some (.cells #[.slice vo n vc, .slice ro m rc] 25 (0, 0)) := (blk_alloc_past _ _ _ (by simp)).trans (blk_alloc_at _ _)
  have hb2 := boxR_of (blk_alloc_at (w.alloc (.cells #[.slice vo n vc, .slice ro m rc] 25)) (.cells #[.bool false, .slice none 0 0, .slice none 0 0] 31))
  rw [World.size_alloc] at hb2
  have hxx := ((Ext.refl (fun _ => False) w).alloc (.cells #[.slice vo n vc, .slice ro m rc] 25)).alloc (.cells #[.bool false, .slice none 0 0, .slice none 0 0] 31)
  have hsw : ((w.alloc (.cells #[.slice vo n vc, .slice ro m rc] 25)).alloc (.cells #[.bool false, .slice none 0 0, .slice none 0 0] 31)).heap.size = w.heap.size + 1 + 1 := by simp [World.size_alloc]
  obtain ⟨w2, hmk, hA, hx2⟩ := run_make_rats ((w.alloc (.cells #[.slice vo n vc, .slice ro m rc] 25)).alloc (.cells #[.bool false, .slice none 0 0, .slice none 0 0] 31)) n hvn
  rw [hsw] at hmk hA
  have hlt2 := hA.lt
  have hq : CmSt w (w2.alloc (.cells #[.bool false, .slice none 0 0, .slice none 0 0] 31)) w.heap.size (w.heap.size + 1) w2.heap.size (w.heap.size + 1 + 1) n (.slice vo n vc) (.slice ro m rc) (fun _ => 0) 0 := by
    have hx3 := (Ext.refl (fun _ => False) w2).alloc (.cells #[.bool false, .slice none 0 0, .slice none 0 0] 31)
    have hb := blk_keep hb1 (hx2.trans hx3)
    exact ⟨(hxx.trans hx2).trans hx3, cellq hb 0 rfl, cellq hb 1 rfl, (hb2.keep hx2).keep hx3, ⟨_, _, _, _, _, _, _, boxR_new rfl false none 0 0 none 0 0, IsRat.zero _⟩, hA.keep hx3, by omega⟩
  have HQ := Lib.hid hq
  have HB := Lib.hid (And.intro hb1 hx2)
  clear hb1 hb2 hxx hA hq
  go_enter Tryz.func147, Tryz.ntmps147
  go_upto_region 1 with fail
  generalize hw1 : (w.alloc (.cells #[.slice vo n vc, .slice ro m rc] 25)).alloc (.cells #[.bool false, .slice none 0 0, .slice none 0 0] 31) = w1 at *
  clear hw1
  obtain ⟨pb, hpb⟩ : ∃ pb, w.heap.size = pb := ⟨_, rfl⟩
  rw [hpb] at HB HQ hmk hlt2 ⊢
  clear hpb hsw
  have z0 := cellq HB.out.1 0 rfl
  go_upto_region 3 with fail
  clear z0 hmk hx2
  obtain ⟨B, hBe⟩ : ∃ B, pb + 1 + 1 = B := ⟨_, rfl⟩
  obtain ⟨rb, hrbe⟩ : ∃ rb, pb + 1 = rb := ⟨_, rfl⟩
  rw [hBe] at HQ hlt2 ⊢
  rw [hrbe] at HQ ⊢
  clear hBe hrbe
  generalize w2.alloc (.cells #[.bool false, .slice none 0 0, .slice none 0 0] 31) = w3 at *
  generalize w2.heap.size = bb at *
  have ord := HQ.out.ord
  have z1 := HQ.out.p1
  go_wp2_with fail
  go_loopg [8, 9, 10, 11] m (fun gg v8 v9 v10 v11 wr => ∃ i : Nat, i ≤ m ∧ gg = m - i ∧ v8 = .int .i64 i ∧ CmSt w wr pb rb bb B n (.slice vo n vc) (.slice ro m rc) (fun j => sumTo i (rowA p y j)) (sumTo i fun k => ((p.r k).bound : Rat) * atQ y k))
  case atStart => exact ⟨0, Nat.zero_le _, rfl, rfl, HQ.out.congr (fun _ _ => rfl) rfl⟩
  case round =>
    clear z1
    obtain ⟨i, hi, rfl, rfl, hst⟩ := hrel
    have HC := Lib.hid hst
    clear hst
    have z1 := HC.out.p1
    by_cases hin : i < m
    · have i0 : (i : Int) < (m : Int) := by omega
      have i1 : (0 : Int) ≤ (i : Int) := by omega
      obtain ⟨b, off, ta, tc, rfl, hlt, e0, e1, e2, e3, e4, hrok, htm⟩ := HV.out.atp i (by rw [HN.out]; exact hin)
      replace e0 := cell_keep e0 HC.out.ext
      replace e1 := cell_keep e1 HC.out.ext
      replace e2 := cell_keep e2 HC.out.ext
      replace e3 := cell_keep e3 HC.out.ext
      replace e4 := cell_keep e4 HC.out.ext
      have HTM := Lib.hid (And.intro htm hrok.bound)
      obtain ⟨-, -, -, -, htn, -⟩ := htm.shape
      have HA1 := Lib.hid (fun W (hW : Ext (fun _ => False) wr W) => HA.out W (HC.out.ext.trans hW) i)
      obtain ⟨tl, htl⟩ : ∃ tl, (p.r i).terms.length = tl := ⟨_, rfl⟩
      have HszI := Lib.hid (fun j k (hk : k < tl) => Hsz.out.1 i j k hin (by rw [htl]; exact hk))
      have HTL := Lib.hid htl
      rw [htl] at e3 htn HTM
      have HBI := Lib.hid (show ∀ q, (p.r i).bound = q → sumTo (i + 1) (fun k => ((p.r k).bound : Rat) * atQ y k) = sumTo i (fun k => ((p.r k).bound : Rat) * atQ y k) + (q : Rat) * atQ y i from fun q h => by rw [← h]; rfl)
      replace HBI := Lib.hid (HBI.out _ rfl)
      clear hrok htm htl hlt
      generalize hnm : (p.r i).name = nm at *
      generalize hgr : (p.r i).group = gr at *
      generalize hkd : (p.r i).kind = kd at *
      generalize hbd : (p.r i).bound = bd at *
      have hx3 := (Ext.refl (fun _ => False) wr).alloc (.cells #[.string nm, .int .i64 gr, .int .i64 kd, .slice ta tl tc, .int .i64 bd] 58)
      have hb3 := blk_alloc_at wr (.cells #[.string nm, .int .i64 gr, .int .i64 kd, .slice ta tl tc, .int .i64 bd] 58)
      have hrx : bb < wr.heap.size := by
        obtain ⟨_, _, _, _, _, _, _, hh, _⟩ := HC.out.acc
        exact hh.lt
      have HC3 := Lib.hid (And.intro (HC.out.keep hx3) hb3)
      clear hb3 hx3 hnm hgr hkd hbd
      go_upto_region 7 with fail
      generalize wr.alloc (.cells #[.string nm, .int .i64 gr, .int .i64 kd, .slice ta tl tc, .int .i64 bd] 58) = w4 at *
      generalize wr.heap.size = rx at *
      clear e0 e1 e2 e3 e4 z1
      have e3 := cellq HC3.out.2 3 rfl
      go_wp2_with fail
      go_loopg [10, 11] tl (fun gg v10 v11 wq => ∃ k : Nat, k ≤ tl ∧ gg = tl - k ∧ v10 = .int .i64 k ∧ CmSt w wq pb rb bb B n (.slice vo n vc) (.slice (some ⟨b, off, none⟩) m rc) (fun j => sumTo i (rowA p y j) + sumTo k (termA (p.r i) (atQ y i) j)) (sumTo i fun k => ((p.r k).bound : Rat) * atQ y k) ∧ blk wq rx = some (.cells #[.string nm, .int .i64 gr, .int .i64 kd, .slice ta tl tc, .int .i64 bd] 58 (0, 0)))
      case atStart => exact ⟨0, Nat.zero_le _, rfl, rfl, HC3.out.1.congr (fun j _ => (by show _ = _ + (0 : Rat); rw [Rat.add_zero])) rfl, HC3.out.2⟩
      case round =>
        clear e3
        obtain ⟨k, hk, rfl, rfl, hst, hbx⟩ := hrel
        have HCm := Lib.hid hst
        have HBX := Lib.hid hbx
        clear hst hbx
        have e3 := cellq HBX.out 3 rfl
        by_cases hkn : k < tl
        · have k0 : (k : Int) < (tl : Int) := by omega
          have k1 : (0 : Int) ≤ (k : Int) := by omega
          obtain ⟨bt, offt, rfl, -, f0, f1, hok⟩ := (HTM.out.1.keep HCm.out.ext).atr k (by rw [HTL.out]; exact hkn)
          have HTA := Lib.hid (show ∀ j, termA (p.r i) (atQ y i) j k = if ((p.r i).t k).var = (j : Int) then (((p.r i).t k).coef : Rat) * atQ y i else 0 from fun _ => rfl)
          have Hsz2 := Lib.hid (fun j => HszI.out j k hkn)
          have HOk := Lib.hid (And.intro hok.var hok.coef)
          clear hok
          generalize ((p.r i).t k).var = tv at *
          generalize ((p.r i).t k).coef = co at *
          by_cases hin3 : 0 ≤ tv ∧ tv < (n : Int)
          · obtain ⟨v, rfl⟩ : ∃ v : Nat, tv = v := ⟨tv.toNat, by omega⟩
            have hvn : v < n := by omega
            have v0 : (0 : Int) ≤ (v : Int) := by omega
            have v1 : (v : Int) < (n : Int) := by omega
            clear hin3
            obtain ⟨on, oa, ol, oc, oa2, ol2, oc2, o0, o1, o2, hoq⟩ := HCm.out.arr.cells v hvn
            have HAt := Lib.hid (fun W (hW : Ext (fun _ => False) wr W) => HA.out W (HCm.out.ext.trans hW) i)
            have HTm := Lib.hid (fun W u (hu : Rrat W u (atQ y i) L) => times_any W co u _ L HOk.out.2 hu hL3)
            have hpr := (Sz.int HOk.out.2).mul (Hq.out i)
            have HAd := Lib.hid (fun W u (hW : Ext (fun _ => False) wr W) (hu : IsRat W u ((co : Rat) * atQ y i)) => Rradd_any W _ u _ _ (M + (L + 2)) ((hoq.keep hW).reads ((Hsz2.out v).mono (by omega))) (hu.reads (hpr.mono (by omega))) (by omega) (by omega))
            have HTv := Lib.hid (show (fun j => if j = v then (sumTo i (rowA p y v) + sumTo k (termA (p.r i) (atQ y i) v)) + (co : Rat) * atQ y i else sumTo i (rowA p y j) + sumTo k (termA (p.r i) (atQ y i) j)) = fun j => sumTo i (rowA p y j) + sumTo (k + 1) (termA (p.r i) (atQ y i) j) from funext fun j => (by
              show _ = sumTo i (rowA p y j) + (sumTo k (termA (p.r i) (atQ y i) j) + termA (p.r i) (atQ y i) j k)
              rw [HTA.out]
              by_cases e : j = v
              · rw [if_pos e, e, if_pos rfl]; grind
              · rw [if_neg e, if_neg (by omega)]; grind))
            go_upto_region 12 with fail
            replace e3 := cq e3
            replace f0 := cq f0
            replace f1 := cq f1
            replace o0 := cq o0
            replace o1 := cq o1
            replace o2 := cq o2
            have Hv := Lib.hid hvn
            clear hpr hoq Hsz2 HTA hvn HA HA1
            generalize (co : Rat) * atQ y i = PR at *
            generalize atQ y i = AQ at *
            refine ends_begin 18 (Ext (fun _ => False) wr) (by kernel_rfl) ((Ext.refl _ wr).drew) (fun hHeld => ?_)
            refine et 0 (h := (et 1 (h := (et 2 (h := (et 3 (h := (et 4 (h := (et 5 (h := (et 6 (h := (et 7 (h := (et 8 (h := (et 9 (h := (et 10 (h := (et 11 (h := (et 12 (h := (et 13 (h := ?_)))))))))))))))))))))))))))
            (try simp only [Act.put, List.setIfInBounds_toArray, List.set_cons_zero, List.set_cons_succ])
            refine est 14 (h := fun K hK => ?_)
            (go_simp; go_at_call 30; (with_reducible refine (HAt.out _ hHeld).mono ?_); rintro q1 w11 ⟨v11, rfl, h11, hx11⟩; have hX1 := hHeld.trans hx11; have hT := HTm.out w11 _ h11; obtain ⟨n11, a11, l11, c11, a11', l11', c11', rfl⟩ := h11.shape)
            refine hK.out _ _ (hX1) (fun hHeld => ?_)
            clear hK K
            (try simp only [Act.put, List.setIfInBounds_toArray, List.set_cons_zero, List.set_cons_succ])
            refine est 15 (h := fun K hK => ?_)
            (go_simp; go_at_call 71; (with_reducible refine hT.mono ?_); rintro q2 w12 ⟨v12, rfl, h12, hx12⟩; have hX2 := hX1.trans hx12; have hA := HAd.out w12 _ hX2 h12; obtain ⟨n12, a12, l12, c12, a12', l12', c12', rfl⟩ := h12.shape)
            refine hK.out _ _ (hX2) (fun hHeld => ?_)
            clear hK K
            (try simp only [Act.put, List.setIfInBounds_toArray, List.set_cons_zero, List.set_cons_succ])
            refine est 16 (h := fun K hK => ?_)
            (go_simp; go_at_call 29; (with_reducible refine hA.mono ?_); rintro q3 w13 ⟨v13, rfl, h13, hx13⟩; have hX3 := hX2.trans hx13; obtain ⟨n13, a13, l13, c13, a13', l13', c13', rfl⟩ := h13.shape)
            refine hK.out _ _ (hX3) (fun hHeld => ?_)
            clear hK K
            (try simp only [Act.put, List.setIfInBounds_toArray, List.set_cons_zero, List.set_cons_succ])
            refine et 17 (h := ?_)
            (try simp only [Act.put, List.setIfInBounds_toArray, List.set_cons_zero, List.set_cons_succ])
            have HC := Lib.hid (HCm.out.keep hX3)
            have fz0 := HC.out.arr.free (v * 3)
            have fz1 := HC.out.arr.free (v * 3 + 1)
            have fz2 := HC.out.arr.free (v * 3 + 2)
            have t0 := o0 _ hX3
            have t1 := o1 _ hX3
            have t2 := o2 _ hX3
            refine ends_last rfl (by kernel_rfl) (fun K hK => ?_)
            go_simp
            refine hK.out _ _ ?_
            clear hK K
            (try simp only [Act.put, List.setIfInBounds_toArray, List.set_cons_zero, List.set_cons_succ])
            refine ends_done (by kernel_rfl) ?_ _
            have HP := Lib.hid (HC.out.setArr Hv.out h13)
            have HBX2 := Lib.hid ((HP.out.2.blk (blk_lt (blk_keep HBX.out hX3)) (fun e => by omega)).trans (blk_keep HBX.out hX3))
            have HPv := Lib.hid (show CmSt w _ pb rb bb B n (.slice vo n vc) (.slice (some ⟨b, off, none⟩) m rc) _ _ from (HTv.out ▸ HP.out.1))
            clear HP HTv HC h11 h12 h13 hx11 hx12 hx13 hX1 hX2 hX3 hT hA t0 t1 t2 fz0 fz1 fz2 o0 o1 o2 e3 f0 f1 hHeld HAd HTm HAt
            generalize ((w13.setCell ⟨B, v * 3, none⟩ (.bool n13)).setCell ⟨B, v * 3 + 1, none⟩ (.slice a13 l13 c13)).setCell ⟨B, v * 3 + 2, none⟩ (.slice a13' l13' c13') = w9 at *
            go_wp2
            go_roundg (tl - (k + 1))
            case measure => omega
            case rel => exact ⟨k + 1, by omega, rfl, by go_num, HPv.out, HBX2.out⟩
          · have hz : ∀ j, j < n → termA (p.r i) (atQ y i) j k = 0 := fun j hj => by
              rw [HTA.out, if_neg (by omega)]
            have HE := Lib.hid (HCm.out.congr (g := fun j => sumTo i (rowA p y j) + sumTo (k + 1) (termA (p.r i) (atQ y i) j)) (fun j hj => (by show _ = sumTo i (rowA p y j) + (sumTo k (termA (p.r i) (atQ y i) j) + termA (p.r i) (atQ y i) j k); rw [hz j hj, Rat.add_zero])) rfl)
            clear hz HTA
            by_cases hin4 : 0 ≤ tv
            · have hin5 : ¬ tv < (n : Int) := by omega
              go_wp2
              go_roundg (tl - (k + 1))
              case measure => omega
              case rel => exact ⟨k + 1, by omega, rfl, by go_num, HE.out, HBX.out⟩
            · go_wp2
              go_roundg (tl - (k + 1))
              case measure => omega
              case rel => exact ⟨k + 1, by omega, rfl, by go_num, HE.out, HBX.out⟩
        · obtain rfl : k = tl := by omega
          have HAt := Lib.hid (fun W (hW : Ext (fun _ => False) wr W) => HA.out W (HCm.out.ext.trans hW) i)
          have HTm := Lib.hid (fun W u (hu : Rrat W u (atQ y i) L) => times_any W bd u _ L HTM.out.2 hu hL3)
          obtain ⟨sn, s1, sm1, sc1, s2, sm2, sc2, hsb, hsq⟩ := HCm.out.acc
          have hpr := (Sz.int HTM.out.2).mul (Hq.out i)
          have HAd := Lib.hid (fun W u (hW : Ext (fun _ => False) wr W) (hu : IsRat W u ((bd : Rat) * atQ y i)) => Rradd_any W _ u _ _ 4000000 ((hsq.keep hW).reads (Hsz.out.2 i hin)) (hu.reads (hpr.mono (by omega))) (by omega) (by omega))
          rw [← HBI.out] at HAd
          obtain ⟨t0, t1, t2, -⟩ := hsb.facts
          replace t0 := cq t0
          replace t1 := cq t1
          replace t2 := cq t2
          have e4 := cq (cellq HBX.out 4 rfl)
          have HFn := Lib.hid (fun j (_ : j < n) => (show sumTo i (rowA p y j) + sumTo k (termA (p.r i) (atQ y i) j) = sumTo (i + 1) (rowA p y j) from (by show _ = sumTo i (rowA p y j) + rowA p y j i; unfold rowA; rw [HTL.out])))
          clear hpr hsq HBI HA HA1
          generalize (bd : Rat) * atQ y i = PR at *
          generalize atQ y i = AQ at *
          go_upto_region 13 with fail
          refine ends_begin 8 (Ext (fun _ => False) wr) (by kernel_rfl) ((Ext.refl _ wr).drew) (fun hHeld => ?_)
          refine et 0 (h := (et 1 (h := (et 2 (h := (et 3 (h := (et 4 (h := ?_)))))))))
          (try simp only [Act.put, List.setIfInBounds_toArray, List.set_cons_zero, List.set_cons_succ])
          refine est 5 (h := fun K hK => ?_)
          (go_simp; go_at_call 30; (with_reducible refine (HAt.out _ hHeld).mono ?_); rintro q1 w11 ⟨v11, rfl, h11, hx11⟩; have hX1 := hHeld.trans hx11; have hT := HTm.out w11 _ h11; obtain ⟨n11, a11, l11, c11, a11', l11', c11', rfl⟩ := h11.shape)
          refine hK.out _ _ (hX1) (fun hHeld => ?_)
          clear hK K
          (try simp only [Act.put, List.setIfInBounds_toArray, List.set_cons_zero, List.set_cons_succ])
          refine est 6 (h := fun K hK => ?_)
          (go_simp; go_at_call 71; (with_reducible refine hT.mono ?_); rintro q2 w12 ⟨v12, rfl, h12, hx12⟩; have hX2 := hX1.trans hx12; have hA := HAd.out w12 _ hX2 h12; obtain ⟨n12, a12, l12, c12, a12', l12', c12', rfl⟩ := h12.shape)
          refine hK.out _ _ (hX2) (fun hHeld => ?_)
          clear hK K
          (try simp only [Act.put, List.setIfInBounds_toArray, List.set_cons_zero, List.set_cons_succ])
          refine est 7 (h := fun K hK => ?_)
          (go_simp; go_at_call 29; (with_reducible refine hA.mono ?_); rintro q3 w13 ⟨v13, rfl, h13, hx13⟩; have hX3 := hX2.trans hx13; obtain ⟨n13, a13, l13, c13, a13', l13', c13', rfl⟩ := h13.shape)
          refine hK.out _ _ (hX3) (fun hHeld => ?_)
          clear hK K
          (try simp only [Act.put, List.setIfInBounds_toArray, List.set_cons_zero, List.set_cons_succ])
          have HC := Lib.hid (HCm.out.keep hX3)
          have hbr := hsb.keep hX3
          obtain ⟨d0, d1, d2, d3, d4, d5⟩ := hbr.facts
          refine ends_last rfl (by kernel_rfl) (fun K hK => ?_)
          go_simp
          refine hK.out _ _ ?_
          clear hK K
          (try simp only [Act.put, List.setIfInBounds_toArray, List.set_cons_zero, List.set_cons_succ])
          refine ends_done (by kernel_rfl) ?_ _
          have HP := Lib.hid ((HC.out.setAcc hbr h13).congr HFn.out rfl)
          clear HC h11 h12 h13 hx11 hx12 hx13 hX1 hX2 hX3 hT hA t0 t1 t2 e4 hHeld HAd HTm HAt hbr hsb d0 d1 d2 d3 d4 d5
          generalize ((w13.setCell ⟨bb, 0, none⟩ (.bool n13)).setCell ⟨bb, 1, none⟩ (.slice a13 l13 c13)).setCell ⟨bb, 2, none⟩ (.slice a13' l13' c13') = w9 at *
          go_wp2
          go_roundg (m - (i + 1))
          case measure => omega
          case rel => exact ⟨i + 1, by omega, rfl, by go_num, HP.out⟩
    · obtain rfl : i = m := by omega
      obtain ⟨sn, s1, sm1, sc1, s2, sm2, sc2, hsb, hsq⟩ := HC.out.acc
      obtain ⟨t0, t1, t2, -⟩ := hsb.facts
      have hbr := HC.out.res
      obtain ⟨d0, d1, d2, d3, d4, d5⟩ := hbr.facts
      have HW0 := Lib.hid HC.out.ext
      have hp := hbr.put (neg := sn) (no_int s1 sm1 sc1) (no_int s2 sm2 sc2)
      have hdr := (Ext.refl (fun _ => False) (((wr.setCell ⟨rb, 0, none⟩ (.bool sn)).setCell ⟨rb, 1, none⟩ (.slice s1 sm1 sc1)).setCell ⟨rb, 2, none⟩ (.slice s2 sm2 sc2))).drew
      have HR := Lib.hid (And.intro ((hp.rat hsq).keep hdr) (And.intro ((HC.out.ext.own hp.ext (fun k e => by omega)).drew) (And.intro (hp.box.keep hdr) ((HC.out.arr.past hp.ext (fun e => by omega) hp.rds).keep hdr))))
      clear hdr
      clear hp hsb hsq hbr
      go_upto_region 14 with fail
      go_region
      go_wp2
      generalize (((wr.setCell ⟨rb, 0, none⟩ (.bool sn)).setCell ⟨rb, 1, none⟩ (.slice s1 sm1 sc1)).setCell ⟨rb, 2, none⟩ (.slice s2 sm2 sc2)).drew = w9 at *
      obtain ⟨g0, g1, g2, _⟩ := HR.out.2.2.1.facts
      refine bodyPost_ret (v := .tuple #[.slice (some ⟨B, 0, none⟩) n n, .agg #[.bool sn, .slice s1 sm1 sc1, .slice s2 sm2 sc2]]) (by simp [results, Tryz.results147, go_sem, g0, g1, g2]) rfl ⟨B, _, rfl, by omega, HR.out.2.2.2.congr (fun j hj => (combA_eq p y j).symm ▸ HN.out ▸ rfl), HQB.out ▸ HR.out.1, HR.out.2.1⟩
end Go.Proofs.YtbgienfcmdgaaaaGreat
/-
  The reference's Least. Conditions: the arguments read as a program, coefficients.
-/
namespace Go.Proofs.YtbgienfcmdgaaaaGreat
open Go.RowKit Go.MapKept
open Go.ChangeMaps (setBlock)

/-- what a loop that adds up fractions keeps -/
structure AcSt (w wr : World) (pb rb sb : Nat) (va vb : Value) (q : Rat) : Prop where
  ext : Ext (fun _ => False) w wr
  p0 : wr.cell? ⟨pb, 0, none⟩ = some va
  p1 : wr.cell? ⟨pb, 1, none⟩ = some vb
  res : BoxR wr rb false (.slice none 0 0) (.slice none 0 0)
  acc : ∃ sn s1 sm1 sc1 s2 sm2 sc2, BoxR wr sb sn (.slice s1 sm1 sc1) (.slice s2 sm2 sc2) ∧ IsRat wr (.agg #[.bool sn, .slice s1 sm1 sc1, .slice s2 sm2 sc2]) q
  ord : w.heap.size ≤ pb ∧ pb < rb ∧ rb < sb
section
variable {w wr w' : World} {pb rb sb : Nat} {va vb : Value} {q : Rat}
theorem AcSt.keep (h : AcSt w wr pb rb sb va vb q) (hx : Ext (fun _ => False) wr w') : AcSt w w' pb rb sb va vb q :=
  ⟨h.ext.trans hx, cell_keep h.p0 hx, cell_keep h.p1 hx, h.res.keep hx, (by obtain ⟨sn, s1, sm1, sc1, s2, sm2, sc2, h1, h2⟩ := h.acc; exact ⟨sn, s1, sm1, sc1, s2, sm2, sc2, h1.keep hx, h2.keep hx⟩), h.ord⟩
theorem AcSt.congr (h : AcSt w wr pb rb sb va vb q) {q' : Rat} (hq : q = q') : AcSt w wr pb rb sb va vb q' := hq ▸ h
theorem AcSt.setAcc (h : AcSt w wr pb rb sb va vb q) {n0 : Bool} {m0 d0 : Value} (hb : BoxR wr sb n0 m0 d0) {neg : Bool} {a1 a2 : Option Addr} {m1 c1 m2 c2 : Nat} {u : Rat} (hu : IsRat wr (.agg #[.bool neg, .slice a1 m1 c1, .slice a2 m2 c2]) u) :
    AcSt w (((wr.setCell ⟨sb, 0, none⟩ (.bool neg)).setCell ⟨sb, 1, none⟩ (.slice a1 m1 c1)).setCell ⟨sb, 2, none⟩ (.slice a2 m2 c2)) pb rb sb va vb u := by
  have hp := hb.put (neg := neg) (no_int a1 m1 c1) (no_int a2 m2 c2)
  have p2 := hp.ext
  obtain ⟨o1, o2, o3⟩ := h.ord
  exact ⟨h.ext.own p2 (fun k e => by omega), (p2.cell (p := ⟨pb, 0, none⟩) (World.block_lt_of_cell? _ _ h.p0) (fun e => by have : pb = sb := e; omega)).trans h.p0, (p2.cell (p := ⟨pb, 1, none⟩) (World.block_lt_of_cell? _ _ h.p1) (fun e => by have : pb = sb := e; omega)).trans h.p1, h.res.ext p2 (fun e => by omega), ⟨_, _, _, _, _, _, _, hp.box, hp.rat hu⟩, h.ord⟩
end
def lwB (p : ProgV) (c : List Rat) (i : Nat) : Bool := !((p.v i).op && decide (atQ c i < 0))
set_option maxRecDepth 100000 in
set_option maxHeartbeats 8000000 in
theorem Least4_any (w : World) (pv xv : Value) (p : ProgV) (l : List Rat) (L : Nat) (hp : IsPrg w pv p) (hl : Rats w xv l L) (h1 : 1 ≤ L) (hL : 1 + p.vars.length * (L + 3) + (L + 3) ≤ 4000000) (hL3 : L ≤ 1000000) :
    Calls Tryz.prog 148 #[pv, xv] w (OptPost w (leastQ p l)) := by
  have HP := Lib.hid hp
  obtain ⟨vv, rv, rfl, hv, -⟩ := hp
  obtain ⟨vo, vc, rfl, -, hn, -⟩ := hv.shape
  have HA := Lib.hid (fun W (hW : Ext (fun _ => False) w W) (i : Nat) => At_any W _ l L (hl.keep hW) i)
  have HG := Lib.hid (fun W u q (hu : Rrat W u q L) => Rrsign_any W u q L hu (by omega))
  have hsz : ∀ i, i < p.vars.length → Sz (sumTo i fun k => (pickQ (p.v k) (atQ l k) : Rat) * atQ l k) 4000000 := fun i hi =>
    (sum_size (f := fun k => pickQ (p.v k) (atQ l k)) (g := fun k => atQ l k) (L := L) (n := p.vars.length) (fun k hk => pick_in hv l k hk) (fun k _ => hl.sz h1 _) i (Nat.le_of_lt hi)).mono (by have := Nat.mul_le_mul_right (L + 3) (Nat.le_of_lt hi); omega)
  have Hsz := Lib.hid hsz
  have Hq := Lib.hid (fun i => hl.sz h1 i)
  have HV := Lib.hid hv
  clear hv hl hsz hL
  obtain ⟨n, hn'⟩ : ∃ n, p.vars.length = n := ⟨_, rfl⟩
  have HN := Lib.hid hn'
  rw [hn'] at hn HP ⊢ HV Hsz
  clear hn'
  have HQn : Hid (∀ i, i < n → lwB p l i = false → leastQ p l = none) := Lib.hid (fun i hi h => by
    unfold leastQ lowB
    rw [HN.out, show allTo n (fun i => !((p.v i).op && decide (atQ l i < 0))) = false from allTo_false (f := lwB p l) hi h]
    simp)
  have HQs : Hid (emptyB p = false → allTo n (lwB p l) = true → leastQ p l = some (sumTo n fun k => (pickQ (p.v k) (atQ l k) : Rat) * atQ l k)) := Lib.hid (fun h0 h => by
    unfold leastQ lowB leastS
    rw [HN.out, h0, show allTo n (fun i => !((p.v i).op && decide (atQ l i < 0))) = true from h]
    simp)
  have hb1 : blk ((w.alloc (.cells #[.slice vo n vc, rv] 25)).alloc (.cells #[.bool false, .slice none 0 0, .slice none 0 0] 31)) w.heap.size = some (.cells #[.slice vo n vc, rv] 25 (0, 0)) := (blk_alloc_past _ _ _ (by simp)).trans (blk_alloc_at _ _)
  have hb2 := boxR_of (blk_alloc_at (w.alloc (.cells #[.slice vo n vc, rv] 25)) (.cells #[.bool false, .slice none 0 0, .slice none 0 0] 31))
  rw [World.size_alloc] at hb2
  have hxx := ((Ext.refl (fun _ => False) w).alloc (.cells #[.slice vo n vc, rv] 25)).alloc (.cells #[.bool false, .slice none 0 0, .slice none 0 0] 31)
  have HB := Lib.hid (And.intro hb1 (And.intro hb2 hxx))
  clear hb1 hb2 hxx
  go_enter Tryz.func148, Tryz.ntmps148
  go_upto_region 1 with fail
  generalize hw1 : (w.alloc (.cells #[.slice vo n vc, rv] 25)).alloc (.cells #[.bool false, .slice none 0 0, .slice none 0 0] 31) = w1 at *
  clear hw1
  obtain ⟨pb, hpb⟩ : ∃ pb, w.heap.size = pb := ⟨_, rfl⟩
  have hpw : w.heap.size ≤ pb := Nat.le_of_eq hpb
  rw [hpb] at HB ⊢
  clear hpb
  obtain ⟨rb, hrb⟩ : ∃ rb, pb + 1 = rb := ⟨_, rfl⟩
  have hpr0 : pb < rb := by omega
  rw [hrb] at HB ⊢
  clear hrb
  have z0 := cellq HB.out.1 0 rfl
  have z1 := cellq HB.out.1 1 rfl
  go_wp2_with fail
  refine (Empty4_any _ _ p (HP.out.keep HB.out.2.2)).mono ?_
  rintro r2 w2 ⟨rfl, hx2⟩
  have HB2 := Lib.hid (And.intro (blk_keep HB.out.1 hx2) (And.intro (HB.out.2.1.keep hx2) (HB.out.2.2.trans hx2)))
  clear hx2 HB z0 z1 HP
  cases hem : emptyB p with
  | true =>
    have HE := Lib.hid (show leastQ p l = none from by unfold leastQ; rw [hem]; rfl)
    clear hem
    have hbr := HB2.out.2.1
    obtain ⟨d0, d1, d2, d3, d4, d5⟩ := hbr.facts
    have hp := hbr.put (neg := false) (no_int none 0 0) (no_int none 0 0)
    have HR := Lib.hid (And.intro hp.box (HB2.out.2.2.own hp.ext (fun k e => by omega)))
    clear hp hbr
    go_wp2
    generalize ((w2.setCell ⟨rb, 0, none⟩ (.bool false)).setCell ⟨rb, 1, none⟩ (.slice none 0 0)).setCell ⟨rb, 2, none⟩ (.slice none 0 0) = w9 at *
    obtain ⟨g0, g1, g2, _⟩ := HR.out.1.facts
    exact bodyPost_ret (v := .tuple #[.agg #[.bool false, .slice none 0 0, .slice none 0 0], .bool false]) (by simp [results, Tryz.results148, go_sem, g0, g1, g2]) rfl (by rw [HE.out]; exact ⟨HR.out.2, _, rfl, IsRat.zero _⟩)
  | false =>
  replace HQs := Lib.hid (HQs.out hem)
  clear hem
  have hsz2 : rb < w2.heap.size := HB2.out.2.1.lt
  have hq : AcSt w (w2.alloc (.cells #[.bool false, .slice none 0 0, .slice none 0 0] 31)) pb rb w2.heap.size (.slice vo n vc) rv 0 := by
    have hx3 := (Ext.refl (fun _ => False) w2).alloc (.cells #[.bool false, .slice none 0 0, .slice none 0 0] 31)
    have hb := blk_keep HB2.out.1 hx3
    exact ⟨HB2.out.2.2.trans hx3, cellq hb 0 rfl, cellq hb 1 rfl, HB2.out.2.1.keep hx3, ⟨_, _, _, _, _, _, _, boxR_new rfl false none 0 0 none 0 0, IsRat.zero _⟩, by omega⟩
  have HQ := Lib.hid hq
  clear hq
  go_upto_region 4 with fail
  generalize w2.alloc (.cells #[.bool false, .slice none 0 0, .slice none 0 0] 31) = w3 at *
  generalize w2.heap.size = sb at *
  clear HB2
  have z0 := HQ.out.p0
  go_wp2_with fail
  go_loopg [7, 8, 9] n (fun gg v7 v8 v9 wr => ∃ i : Nat, i ≤ n ∧ gg = n - i ∧ v7 = .int .i64 i ∧ allTo i (lwB p l) = true ∧ AcSt w wr pb rb sb (.slice vo n vc) rv (sumTo i fun k => (pickQ (p.v k) (atQ l k) : Rat) * atQ l k))
  case atStart => exact ⟨0, Nat.zero_le _, rfl, rfl, rfl, HQ.out⟩
  case round =>
    clear z0 HQ
    obtain ⟨i, hi, rfl, rfl, hall, hst⟩ := hrel
    have HC := Lib.hid hst
    have HAll := Lib.hid hall
    clear hst hall
    have z0 := HC.out.p0
    have ord := HC.out.ord
    by_cases hin : i < n
    · have i0 : (i : Int) < (n : Int) := by omega
      have i1 : (0 : Int) ≤ (i : Int) := by omega
      obtain ⟨b, off, rfl, -, e0, e1, e2, e3, e4, hok⟩ := (HV.out.keep HC.out.ext).atp i (by rw [HN.out]; exact hin)
      have HNx := Lib.hid (show ∀ v, p.v i = v → sumTo (i + 1) (fun k => (pickQ (p.v k) (atQ l k) : Rat) * atQ l k) = sumTo i (fun k => (pickQ (p.v k) (atQ l k) : Rat) * atQ l k) + (pickQ v (atQ l i) : Rat) * atQ l i from fun v h => by rw [← h]; rfl)
      have HLw := Lib.hid (show ∀ v, p.v i = v → lwB p l i = !(v.op && decide (atQ l i < 0)) from fun v h => by rw [← h]; rfl)
      replace HNx := Lib.hid (HNx.out _ rfl)
      replace HLw := Lib.hid (HLw.out _ rfl)
      generalize p.v i = vv at *
      obtain ⟨lo, up, o, ig, co⟩ := vv
      dsimp only at e0 e1 e2 e3 e4 HLw
      have hinlo : InR lo := hok.lo
      have hinup : InR up := hok.up
      have hx3 := (Ext.refl (fun _ => False) wr).alloc (.cells #[.int .i64 lo, .int .i64 up, .bool o, .bool ig, .int .i64 co] 63)
      have hb3 := blk_alloc_at wr (.cells #[.int .i64 lo, .int .i64 up, .bool o, .bool ig, .int .i64 co] 63)
      have HC3 := Lib.hid (And.intro (HC.out.keep hx3) hb3)
      clear hb3 hx3 hok HC
      go_upto_region 8 with fail
      generalize wr.alloc (.cells #[.int .i64 lo, .int .i64 up, .bool o, .bool ig, .int .i64 co] 63) = w4 at *
      generalize wr.heap.size = vbx at *
      clear e0 e1 e2 e3 e4 z0
      have f0 := cellq HC3.out.2 0 rfl
      go_wp2_with fail
      refine (HA.out _ HC3.out.1.ext i).mono ?_
      rintro r5 w5 ⟨v5, rfl, h5, hx5⟩
      obtain ⟨n5, a5, l5, c5, a5', l5', c5', rfl⟩ := h5.shape
      have HG5 := Lib.hid (HG.out w5 _ _ h5)
      have HX5 := Lib.hid hx5
      clear h5 hx5 f0
      go_wp2_with fail
      refine HG5.out.mono ?_
      rintro r6 w6 ⟨rfl, hx6⟩
      have HCm := Lib.hid (HC3.out.1.keep (HX5.out.trans hx6))
      have HVb := Lib.hid (blk_keep HC3.out.2 (HX5.out.trans hx6))
      have HSl := Lib.hid (sign_lt (atQ l i))
      clear hx6 HX5 HG5 HC3
      generalize hsg : (atQ l i).num.sign = sg at *
      clear hsg
      by_cases hs : sg < 0
      · have hqn := HSl.out.1 hs
        cases o with
        | true =>
          have HE := Lib.hid (HQn.out i hin (by rw [HLw.out, decide_eq_true hqn]; rfl))
          have f2 := cellq HVb.out 2 rfl
          have hbr := HCm.out.res
          obtain ⟨d0, d1, d2, d3, d4, d5⟩ := hbr.facts
          have hp := hbr.put (neg := false) (no_int none 0 0) (no_int none 0 0)
          have HR := Lib.hid (And.intro hp.box (HCm.out.ext.own hp.ext (fun k e => by omega)))
          clear hp hbr
          go_wp2
          generalize ((w6.setCell ⟨rb, 0, none⟩ (.bool false)).setCell ⟨rb, 1, none⟩ (.slice none 0 0)).setCell ⟨rb, 2, none⟩ (.slice none 0 0) = w9 at *
          obtain ⟨g0, g1, g2, _⟩ := HR.out.1.facts
          exact bodyPost_ret (v := .tuple #[.agg #[.bool false, .slice none 0 0, .slice none 0 0], .bool false]) (by simp [results, Tryz.results148, go_sem, g0, g1, g2]) rfl (by rw [HE.out]; exact ⟨HR.out.2, _, rfl, IsRat.zero _⟩)
        | false =>
          replace HLw := Lib.hid (show lwB p l i = true from HLw.out)
          rw [show pickQ ⟨lo, up, false, ig, co⟩ (atQ l i) = up from if_pos hqn] at HNx
          have f1 := cellq HVb.out 1 rfl
          have f2 := cellq HVb.out 2 rfl
          clear hqn
          have hxi := HCm.out.ext
          have HAt := Lib.hid (fun W (hW : Ext (fun _ => False) w6 W) => HA.out W (hxi.trans hW) i)
          obtain ⟨sn, s1, sm1, sc1, s2, sm2, sc2, hsb, hsq⟩ := HCm.out.acc
          have HTm := Lib.hid (fun W u (hu : Rrat W u (atQ l i) L) => times_any W up u _ L hinup hu hL3)
          have hpr := (Sz.int hinup).mul (Hq.out i)
          have HAd := Lib.hid (fun W u (hW : Ext (fun _ => False) w6 W) (hu : IsRat W u ((up : Rat) * atQ l i)) => Rradd_any W _ u _ _ 4000000 ((hsq.keep hW).reads (Hsz.out i hin)) (hu.reads (hpr.mono (by omega))) (by omega) (by omega))
          rw [← HNx.out] at HAd
          obtain ⟨t0, t1, t2, -⟩ := hsb.facts
          replace t0 := cq t0
          replace t1 := cq t1
          replace t2 := cq t2
          clear hpr hsq
          generalize (up : Rat) * atQ l i = PR at *
          generalize hSR : sumTo (i + 1) (fun k => (pickQ (p.v k) (atQ l k) : Rat) * atQ l k) = SR at *
          have HSR := Lib.hid hSR
          clear hSR
          generalize hAQ : atQ l i = AQ at *
          clear hAQ
          go_upto_region 13 with fail
          refine ends_begin 7 (Ext (fun _ => False) w6) (by kernel_rfl) ((Ext.refl _ w6).drew) (fun hHeld => ?_)
          refine et 0 (h := (et 1 (h := (et 2 (h := (et 3 (h := ?_)))))))
          (try simp only [Act.put, List.setIfInBounds_toArray, List.set_cons_zero, List.set_cons_succ])
          refine est 4 (h := fun K hK => ?_)
          (go_simp; go_at_call 30; (with_reducible refine (HAt.out _ hHeld).mono ?_); rintro q1 w11 ⟨v11, rfl, h11, hx11⟩; have hX1 := hHeld.trans hx11; have hT := HTm.out w11 _ h11; obtain ⟨n11, a11, l11, c11, a11', l11', c11', rfl⟩ := h11.shape)
          refine hK.out _ _ (hX1) (fun hHeld => ?_)
          clear hK K
          (try simp only [Act.put, List.setIfInBounds_toArray, List.set_cons_zero, List.set_cons_succ])
          refine est 5 (h := fun K hK => ?_)
          (go_simp; go_at_call 71; (with_reducible refine hT.mono ?_); rintro q2 w12 ⟨v12, rfl, h12, hx12⟩; have hX2 := hX1.trans hx12; have hA := HAd.out w12 _ hX2 h12; obtain ⟨n12, a12, l12, c12, a12', l12', c12', rfl⟩ := h12.shape)
          refine hK.out _ _ (hX2) (fun hHeld => ?_)
          clear hK K
          (try simp only [Act.put, List.setIfInBounds_toArray, List.set_cons_zero, List.set_cons_succ])
          refine est 6 (h := fun K hK => ?_)
          (go_simp; go_at_call 29; (with_reducible refine hA.mono ?_); rintro q3 w13 ⟨v13, rfl, h13, hx13⟩; have hX3 := hX2.trans hx13; obtain ⟨n13, a13, l13, c13, a13', l13', c13', rfl⟩ := h13.shape)
          refine hK.out _ _ (hX3) (fun hHeld => ?_)
          clear hK K
          (try simp only [Act.put, List.setIfInBounds_toArray, List.set_cons_zero, List.set_cons_succ])
          have HC := Lib.hid (HCm.out.keep hX3)
          have hbr := hsb.keep hX3
          obtain ⟨d0, d1, d2, d3, d4, d5⟩ := hbr.facts
          refine ends_last rfl (by kernel_rfl) (fun K hK => ?_)
          go_simp
          refine hK.out _ _ ?_
          clear hK K
          (try simp only [Act.put, List.setIfInBounds_toArray, List.set_cons_zero, List.set_cons_succ])
          refine ends_done (by kernel_rfl) ?_ _
          have HP := Lib.hid (HC.out.setAcc hbr h13)
          clear HC h11 h12 h13 hx11 hx12 hx13 hX1 hX2 hX3 hT hA t0 t1 t2 hHeld HAd HTm HAt hbr hsb d0 d1 d2 d3 d4 d5 hxi
          generalize ((w13.setCell ⟨sb, 0, none⟩ (.bool n13)).setCell ⟨sb, 1, none⟩ (.slice a13 l13 c13)).setCell ⟨sb, 2, none⟩ (.slice a13' l13' c13') = w9 at *
          go_wp2
          go_roundg (n - (i + 1))
          case measure => omega
          case rel => exact ⟨i + 1, by omega, rfl, by go_num, allTo_next HAll.out HLw.out, HP.out.congr HSR.out.symm⟩
      · have hqn : ¬ atQ l i < 0 := fun h => hs (HSl.out.2 h)
        replace HLw := Lib.hid (show lwB p l i = true from by rw [HLw.out, decide_eq_false hqn]; simp)
        rw [show pickQ ⟨lo, up, o, ig, co⟩ (atQ l i) = lo from if_neg hqn] at HNx
        clear hqn
        have hxi := HCm.out.ext
        have HAt := Lib.hid (fun W (hW : Ext (fun _ => False) w6 W) => HA.out W (hxi.trans hW) i)
        obtain ⟨sn, s1, sm1, sc1, s2, sm2, sc2, hsb, hsq⟩ := HCm.out.acc
        have HTm := Lib.hid (fun W u (hu : Rrat W u (atQ l i) L) => times_any W lo u _ L hinlo hu hL3)
        have hpr := (Sz.int hinlo).mul (Hq.out i)
        have HAd := Lib.hid (fun W u (hW : Ext (fun _ => False) w6 W) (hu : IsRat W u ((lo : Rat) * atQ l i)) => Rradd_any W _ u _ _ 4000000 ((hsq.keep hW).reads (Hsz.out i hin)) (hu.reads (hpr.mono (by omega))) (by omega) (by omega))
        rw [← HNx.out] at HAd
        obtain ⟨t0, t1, t2, -⟩ := hsb.facts
        replace t0 := cq t0
        replace t1 := cq t1
        replace t2 := cq t2
        clear hpr hsq
        generalize (lo : Rat) * atQ l i = PR at *
        generalize hSR : sumTo (i + 1) (fun k => (pickQ (p.v k) (atQ l k) : Rat) * atQ l k) = SR at *
        have HSR := Lib.hid hSR
        clear hSR
        generalize hAQ : atQ l i = AQ at *
        clear hAQ
        go_upto_region 13 with fail
        refine ends_begin 7 (Ext (fun _ => False) w6) (by kernel_rfl) ((Ext.refl _ w6).drew) (fun hHeld => ?_)
        refine et 0 (h := (et 1 (h := (et 2 (h := (et 3 (h := ?_)))))))
        (try simp only [Act.put, List.setIfInBounds_toArray, List.set_cons_zero, List.set_cons_succ])
        refine est 4 (h := fun K hK => ?_)
        (go_simp; go_at_call 30; (with_reducible refine (HAt.out _ hHeld).mono ?_); rintro q1 w11 ⟨v11, rfl, h11, hx11⟩; have hX1 := hHeld.trans hx11; have hT := HTm.out w11 _ h11; obtain ⟨n11, a11, l11, c11, a11', l11', c11', rfl⟩ := h11.shape)
        refine hK.out _ _ (hX1) (fun hHeld => ?_)
        clear hK K
        (try simp only [Act.put, List.setIfInBounds_toArray, List.set_cons_zero, List.set_cons_succ])
        refine est 5 (h := fun K hK => ?_)
        (go_simp; go_at_call 71; (with_reducible refine hT.mono ?_); rintro q2 w12 ⟨v12, rfl, h12, hx12⟩; have hX2 := hX1.trans hx12; have hA := HAd.out w12 _ hX2 h12; obtain ⟨n12, a12, l12, c12, a12', l12', c12', rfl⟩ := h12.shape)
        refine hK.out _ _ (hX2) (fun hHeld => ?_)
        clear hK K
        (try simp only [Act.put, List.setIfInBounds_toArray, List.set_cons_zero, List.set_cons_succ])
        refine est 6 (h := fun K hK => ?_)
        (go_simp; go_at_call 29; (with_reducible refine hA.mono ?_); rintro q3 w13 ⟨v13, rfl, h13, hx13⟩; have hX3 := hX2.trans hx13; obtain ⟨n13, a13, l13, c13, a13', l13', c13', rfl⟩ := h13.shape)
        refine hK.out _ _ (hX3) (fun hHeld => ?_)
        clear hK K
        (try simp only [Act.put, List.setIfInBounds_toArray, List.set_cons_zero, List.set_cons_succ])
        have HC := Lib.hid (HCm.out.keep hX3)
        have hbr := hsb.keep hX3
        obtain ⟨d0, d1, d2, d3, d4, d5⟩ := hbr.facts
        refine ends_last rfl (by kernel_rfl) (fun K hK => ?_)
        go_simp
        refine hK.out _ _ ?_
        clear hK K
        (try simp only [Act.put, List.setIfInBounds_toArray, List.set_cons_zero, List.set_cons_succ])
        refine ends_done (by kernel_rfl) ?_ _
        have HP := Lib.hid (HC.out.setAcc hbr h13)
        clear HC h11 h12 h13 hx11 hx12 hx13 hX1 hX2 hX3 hT hA t0 t1 t2 hHeld HAd HTm HAt hbr hsb d0 d1 d2 d3 d4 d5 hxi
        generalize ((w13.setCell ⟨sb, 0, none⟩ (.bool n13)).setCell ⟨sb, 1, none⟩ (.slice a13 l13 c13)).setCell ⟨sb, 2, none⟩ (.slice a13' l13' c13') = w9 at *
        go_wp2
        go_roundg (n - (i + 1))
        case measure => omega
        case rel => exact ⟨i + 1, by omega, rfl, by go_num, allTo_next HAll.out HLw.out, HP.out.congr HSR.out.symm⟩
    · obtain rfl : i = n := by omega
      have HE := Lib.hid (HQs.out HAll.out)
      obtain ⟨sn, s1, sm1, sc1, s2, sm2, sc2, hsb, hsq⟩ := HC.out.acc
      obtain ⟨t0, t1, t2, -⟩ := hsb.facts
      have hbr := HC.out.res
      obtain ⟨d0, d1, d2, d3, d4, d5⟩ := hbr.facts
      have hp := hbr.put (neg := sn) (no_int s1 sm1 sc1) (no_int s2 sm2 sc2)
      have HR := Lib.hid (And.intro (hp.rat hsq) (And.intro (HC.out.ext.own hp.ext (fun k e => by omega)) hp.box))
      clear hp hsb hsq hbr
      go_wp2
      generalize ((wr.setCell ⟨rb, 0, none⟩ (.bool sn)).setCell ⟨rb, 1, none⟩ (.slice s1 sm1 sc1)).setCell ⟨rb, 2, none⟩ (.slice s2 sm2 sc2) = w9 at *
      obtain ⟨g0, g1, g2, _⟩ := HR.out.2.2.facts
      exact bodyPost_ret (v := .tuple #[.agg #[.bool sn, .slice s1 sm1 sc1, .slice s2 sm2 sc2], .bool true]) (by simp [results, Tryz.results148, go_sem, g0, g1, g2]) rfl (by rw [HE.out]; exact ⟨HR.out.2.1, _, rfl, HR.out.1⟩)
end Go.Proofs.YtbgienfcmdgaaaaGreat
