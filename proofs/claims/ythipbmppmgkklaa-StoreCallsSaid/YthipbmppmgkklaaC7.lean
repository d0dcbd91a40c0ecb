/-
  StoreCalls: the walk. Conditions: the argument's cells are as given.
-/
import Derived.Test.YthipbmppmgkklaaB6
import Derived.Test.YthipbmppmgkklaaC6
import Derived.Test.YthipbmppmgkklaaD1
import Derived.Test.YthipbmppmgkklaaTM
import Derived.Test.YthipbmppmgkklaaQ8
namespace Go.Proofs.Ythipbmppmgkklaa
open Go.RowKit Go.MapKept
open Go.ChangeMaps (setBlock)

theorem applyM_enc (m : KM) (x : OpV) (hk : InR x.k) (hv : InR x.v) (ho : InR x.o) (hs : x.key.size ≤ 1000) : applyM m (encOpM x) = ((doM m x).1, encResM (doM m x).2) := by
  have h := decOp_enc x.k x.key x.v x.o hk hv ho hs
  unfold applyM
  rw [show decOpM ⟨encOpM x, 0⟩ = (x, ⟨[], 0⟩) from h]
  rfl
theorem doM_len (m : KM) (x : OpV) : (doM m x).1.length ≤ m.length + 1 := doM_length m x
/-- the law's state: two stores and the reference's rows, all of one state -/
structure CaSt (w wi : World) (sb mb tb nb : Nat) (v : Value) (m : KM) : Prop where
  two : TwoS w wi sb mb m tb nb m
  rows : IsRows wi v (ksort leS m)
theorem rows_ne {w : World} {v : Value} {R : KM} {sb mb : Nat} {m : KM} (hr : IsRows w v R) (hs : IsStore w sb mb m) : ∀ g, v.ownBlock = some g → ¬ g = mb := fun g hg e => by
  obtain ⟨cur, hc⟩ := row_type hr hg
  obtain ⟨_, es, c, hb, _⟩ := hs
  rw [e, hb] at hc; cases hc
/-- inside the round: the operation's cells, the answer's box, the stores, the new rows -/
structure RoSt (w wi : World) (sb mb tb nb : Nat) (m m' : KM) (v : Value) (R : KM) (bb o X : Nat) (x : OpV) (y : Rs) : Prop where
  two : TwoS w wi sb mb m tb nb m'
  rows : IsRows wi v R
  op : wi.cell? ⟨bb, o, none⟩ = some (.int .i64 x.k) ∧ wi.cell? ⟨bb, o + 1, none⟩ = some (.string x.key) ∧ wi.cell? ⟨bb, o + 2, none⟩ = some (.int .i64 x.v) ∧ wi.cell? ⟨bb, o + 3, none⟩ = some (.int .i64 x.o)
  box : blk wi X = some (.cells #[.int .i64 y.c, .bool y.f, .int .i64 y.v] 31 (0, 0))
  lt : bb < wi.heap.size
  ne1 : ¬ bb = mb
  ne2 : ¬ bb = nb
theorem RoSt.keep {w wi w' : World} {sb mb tb nb : Nat} {m m' : KM} {v : Value} {R : KM} {bb o X : Nat} {x : OpV} {y : Rs} (h : RoSt w wi sb mb tb nb m m' v R bb o X x y) (hx : Ext (fun _ => False) wi w') : RoSt w w' sb mb tb nb m m' v R bb o X x y :=
  ⟨h.two.keep hx, h.rows.keep hx, ⟨(hx.cell (p := ⟨bb, o, none⟩) h.lt id).trans h.op.1, (hx.cell (p := ⟨bb, o + 1, none⟩) h.lt id).trans h.op.2.1, (hx.cell (p := ⟨bb, o + 2, none⟩) h.lt id).trans h.op.2.2.1, (hx.cell (p := ⟨bb, o + 3, none⟩) h.lt id).trans h.op.2.2.2⟩, (hx.blk (blk_lt h.box) id).trans h.box, Nat.lt_of_lt_of_le h.lt hx.size, h.ne1, h.ne2⟩
theorem RoSt.box_ne {w wi : World} {sb mb tb nb : Nat} {m m' : KM} {v : Value} {R : KM} {bb o X : Nat} {x : OpV} {y : Rs} (h : RoSt w wi sb mb tb nb m m' v R bb o X x y) : ¬ X = mb ∧ ¬ X = nb := by
  have hb := h.box
  obtain ⟨_, es, c, h1, _⟩ := h.two.s
  obtain ⟨_, es2, c2, h2, _⟩ := h.two.t
  exact ⟨fun e => (by rw [e, h1] at hb; cases hb), fun e => (by rw [e, h2] at hb; cases hb)⟩
theorem RoSt.doS {w wi w' : World} {sb mb tb nb : Nat} {m m' p : KM} {v : Value} {R : KM} {bb o X : Nat} {x : OpV} {y : Rs} (h : RoSt w wi sb mb tb nb m m' v R bb o X x y) (hs : IsStore w' sb mb p) (hx : Ext (fun b => b = mb) wi w') : RoSt w w' sb mb tb nb p m' v R bb o X x y :=
  ⟨h.two.doS hs hx, ownsRow_ext h.rows hx (rows_ne h.rows h.two.s), ⟨(hx.cell (p := ⟨bb, o, none⟩) h.lt h.ne1).trans h.op.1, (hx.cell (p := ⟨bb, o + 1, none⟩) h.lt h.ne1).trans h.op.2.1, (hx.cell (p := ⟨bb, o + 2, none⟩) h.lt h.ne1).trans h.op.2.2.1, (hx.cell (p := ⟨bb, o + 3, none⟩) h.lt h.ne1).trans h.op.2.2.2⟩, (hx.blk (blk_lt h.box) h.box_ne.1).trans h.box, Nat.lt_of_lt_of_le h.lt hx.size, h.ne1, h.ne2⟩
theorem RoSt.doT {w wi w' : World} {sb mb tb nb : Nat} {m m' p : KM} {v : Value} {R : KM} {bb o X : Nat} {x : OpV} {y : Rs} (h : RoSt w wi sb mb tb nb m m' v R bb o X x y) (hs : IsStore w' tb nb p) (hx : Ext (fun b => b = nb) wi w') : RoSt w w' sb mb tb nb m p v R bb o X x y :=
  ⟨h.two.doT hs hx, ownsRow_ext h.rows hx (rows_ne h.rows h.two.t), ⟨(hx.cell (p := ⟨bb, o, none⟩) h.lt h.ne2).trans h.op.1, (hx.cell (p := ⟨bb, o + 1, none⟩) h.lt h.ne2).trans h.op.2.1, (hx.cell (p := ⟨bb, o + 2, none⟩) h.lt h.ne2).trans h.op.2.2.1, (hx.cell (p := ⟨bb, o + 3, none⟩) h.lt h.ne2).trans h.op.2.2.2⟩, (hx.blk (blk_lt h.box) h.box_ne.2).trans h.box, Nat.lt_of_lt_of_le h.lt hx.size, h.ne1, h.ne2⟩
set_option maxRecDepth 100000 in
set_option maxHeartbeats 4000000 in
theorem calls_core (w : World) (ao : Option Addr) (n cap : Nat) (l : List OpV)
    (hfew : ∀ W, Ext (fun _ => False) w W → Calls Try.prog 11 #[.slice ao n cap, .int .i64 40] W fun r w' => r = .returned (.bool (fewB l 40)) ∧ w' = W)
    (hok : ∀ x ∈ l, InR x.k ∧ InR x.v ∧ InR x.o) (hn : n = l.length) (hcells : 0 < l.length → ∃ b off, ao = some ⟨b, off, none⟩ ∧ Ops w b off l ∧ b < w.heap.size) :
    Calls Try.prog 6 #[.slice ao n cap] w (AwakePost w) := by
  subst hn
  have Hfew := Lib.hid hfew
  have Hok := Lib.hid hok
  have Hcells := Lib.hid hcells
  clear hfew hok hcells
  go_enter Try.func6, Try.ntmps6
  go_wp2_with fail
  refine (awake_any _).mono ?_
  rintro r w1 ⟨rfl, hx1⟩
  have Hx1 := Lib.hid hx1
  clear hx1
  go_wp2_with fail
  refine (Hfew.out _ Hx1.out).mono ?_
  rintro r w' ⟨rfl, hw⟩; obtain rfl := hw.symm; clear hw
  cases hf : fewB l 40 with
  | false =>
    clear hf
    go_wp2
    go_ret
    exact ⟨rfl, Hx1.out⟩
  | true =>
    obtain ⟨hl, hbd⟩ := fewB_true' hf
    have Hbd := Lib.hid hbd
    clear hf hbd Hfew
    go_wp2_with fail
    refine (new_any w1).mono ?_
    rintro r w2 ⟨sb, mb, rfl, hs2, hx2, hsb, hmb⟩
    have Hs2 := Lib.hid (And.intro hs2 (And.intro hx2 (And.intro hsb hmb)))
    clear hs2 hx2 hsb hmb
    go_wp2_with fail
    refine (new_any w2).mono ?_
    rintro r w3 ⟨tb, nb, rfl, ht3, hx3, htb, hnb⟩
    have HT3 := Lib.hid (TwoS.mk' Hs2.out.2.1 Hs2.out.1 Hs2.out.2.2.1 Hs2.out.2.2.2 hx3 ht3 htb hnb)
    clear ht3 hx3 htb hnb Hs2
    go_upto_region 7 with fail
    obtain ⟨w4, hw4⟩ : ∃ w4, w4 = w3.alloc (.cells #[] 89) := ⟨_, rfl⟩
    have hx4 : Ext (fun _ => False) w3 w4 := by rw [hw4]; exact (Ext.refl _ w3).alloc _
    have hb4 : blk w4 w3.heap.size = some (.cells #[] 89 (0, 0)) := by rw [hw4]; exact blk_alloc_at _ _
    have hI4 : CaSt w1 w4 sb mb tb nb (.slice (some ⟨w3.heap.size, 0, none⟩) 0 0) [] := ⟨HT3.out.keep hx4, by rw [show ksort leS ([] : KM) = [] from List.eq_nil_of_length_eq_zero (ksort_length [])]; exact ownsRow_empty 2 hb4⟩
    rw [← hw4]
    generalize w3.heap.size = RB at *
    have HI4 := Lib.hid hI4
    clear hw4 hx4 hb4 hI4 HT3
    go_wp2_with fail
    go_loopg [5, 6] l.length (fun q v5 v6 wr => ∃ (j : Nat) (m : KM), j ≤ l.length ∧ q = l.length - j ∧ v6 = .int .i64 j ∧ CaSt w1 wr sb mb tb nb v5 m ∧ Good m ∧ m.length ≤ j)
    case atStart => exact ⟨0, [], Nat.zero_le _, rfl, rfl, HI4.out, Good.nil, Nat.le_refl _⟩
    case round =>
      obtain ⟨j, m, hj, rfl, rfl, hI, hg, hm⟩ := hrel
      clear HI4
      by_cases hjl : j < l.length
      · obtain ⟨bb, off, rfl, ho, hb⟩ := Hcells.out (by omega)
        obtain ⟨x, hxe⟩ : ∃ x, l[j] = x := ⟨_, rfl⟩
        have hxm : x ∈ l := by rw [← hxe]; exact List.getElem_mem hjl
        have hlr := (ho.ext (Hx1.out.trans hI.two.ext) (fun _ => ⟨hb, id⟩))
        have hat := hlr.at j hjl
        rw [hxe] at hat
        have hbb : bb < wr.heap.size := Nat.lt_of_lt_of_le hb (Hx1.out.trans hI.two.ext).size
        have hne : ¬ bb = mb := fun e => by have := hI.two.gm; have := Hx1.out.size; omega
        have hne' : ¬ bb = nb := fun e => by have := hI.two.gn; have := Hx1.out.size; omega
        obtain ⟨o1, o2, o3⟩ := Hok.out x hxm
        have hks := Hbd.out x hxm
        have hpl := doM_len m x
        have hgd := hg.doM (x := x) o2
        have hri := doM_in hg (x := x) o2
        have hdo := fun (W : World) (h : IsStore W sb mb m) => do_any W sb mb m h (by omega) x (by omega)
        have hrdo := fun (W : World) (v : Value) (h : IsRows W v (ksort leS m)) => rdo_any W v m h hg (by omega) x (by omega)
        have henc := fun (W : World) => rencodeOp_any W x.k x.key x.v x.o o1 o2 o3 (by omega)
        have hap := fun (W : World) (h : IsStore W tb nb m) => apply_any W tb nb m h hg (by omega) ⟨(encOpM x).toArray⟩ (encOp_size x.k x.key x.v x.o o1 o2 o3 (by omega))
        have hel : (⟨(encOpM x).toArray⟩ : ByteArray).data.toList = encOpM x := by simp
        rw [hel, applyM_enc m x o1 o2 o3 (by omega)] at hap
        have hsame := fun (W : World) (sb' mb' : Nat) (v : Value) (h : IsStore W sb' mb' (doM m x).1) (hr : IsRows W v (ksort leS (doM m x).1)) => same_any W sb' mb' (doM m x).1 v h hr hgd (by omega)
        unfold OpPost at hdo
        unfold RDoPost at hrdo
        unfold EncPost at henc
        unfold ApPost at hap
        unfold StayPost at hsame
        rw [show (⟨x.k, x.key, x.v, x.o⟩ : OpV) = x from rfl] at henc
        generalize (⟨(encOpM x).toArray⟩ : ByteArray) = EO at *
        generalize doM m x = dp at *
        obtain ⟨dm, dc, df, dv⟩ := dp
        simp only at hpl hgd hri hdo hrdo hap hsame
        obtain ⟨r1, r2⟩ := hri
        have hencR := fun (W : World) => rencodeResult_any W dc df dv r1 r2
        unfold EncPost at hencR
        generalize (⟨(encResM ⟨dc, df, dv⟩).toArray⟩ : ByteArray) = ER at *
        obtain ⟨xk, key, xv, xo⟩ := x
        obtain ⟨c0, c1, c2, c3⟩ := hat
        simp only at c0 c1 c2 c3 henc
        simp only [OpV.val, Rs.val] at hdo hrdo
        have j0 : (0 : Int) ≤ (j : Int) := by omega
        have j1 : (j : Int) < (l.length : Int) := by omega
        have hpl' : dm.length ≤ j + 1 := by omega
        have hrdo1 := hrdo wr u5 hI.rows
        obtain ⟨va, vn, vc, rfl, _⟩ := row_shape' hI.rows
        have Hrdo := Lib.hid hrdo1
        have Hdo := Lib.hid hdo
        have Henc := Lib.hid henc
        have HencR := Lib.hid hencR
        have Hap := Lib.hid hap
        have Hsame := Lib.hid hsame
        have HI := Lib.hid hI
        have Hpl := Lib.hid (And.intro hgd hpl')
        have Hc := Lib.hid (And.intro c0 (And.intro c1 (And.intro c2 c3)))
        clear hrdo hrdo1 hdo henc hencR hap hsame hI hpl hpl' hgd hxe hxm ho hlr hks hg hm hel o1 o2 o3 r1 r2
        go_wp2_with fail
        refine Hrdo.out.mono ?_
        rintro r w5 ⟨v5, rfl, hr5, hx5⟩
        have hT5 := HI.out.two.keep hx5
        obtain ⟨a5, n5, c5, rfl, _⟩ := row_shape' hr5
        obtain ⟨w6, hw6⟩ : ∃ w6, w6 = w5.alloc (.cells #[.int .i64 dc, .bool df, .int .i64 dv] 31) := ⟨_, rfl⟩
        have hx6 : Ext (fun _ => False) w5 w6 := by rw [hw6]; exact (Ext.refl _ w5).alloc _
        have hb6 : blk w6 w5.heap.size = some (.cells #[.int .i64 dc, .bool df, .int .i64 dv] 31 (0, 0)) := by rw [hw6]; exact blk_alloc_at _ _
        have hxx := hx5.trans hx6
        have hQ6 : RoSt w1 w6 sb mb tb nb m m (.slice a5 n5 c5) (ksort leS dm) bb (off + j * 4) w5.heap.size ⟨xk, key, xv, xo⟩ ⟨dc, df, dv⟩ :=
          ⟨hT5.keep hx6, hr5.keep hx6, ⟨(hxx.cell (p := ⟨bb, off + j * 4, none⟩) hbb id).trans Hc.out.1, (hxx.cell (p := ⟨bb, off + j * 4 + 1, none⟩) hbb id).trans Hc.out.2.1, (hxx.cell (p := ⟨bb, off + j * 4 + 2, none⟩) hbb id).trans Hc.out.2.2.1, (hxx.cell (p := ⟨bb, off + j * 4 + 3, none⟩) hbb id).trans Hc.out.2.2.2⟩, hb6, Nat.lt_of_lt_of_le hbb hxx.size, hne, hne'⟩
        go_upto_region 12 with fail
        rw [← hw6]
        generalize w5.heap.size = X at *
        clear hw6 hx6 hb6 hxx hx5 hr5 hT5 c0 c1 c2 c3 Hc HI Hrdo hbb
        obtain ⟨c0, c1, c2, c3⟩ := hQ6.op; obtain ⟨e0, e1, e2⟩ := box_cells hQ6.box; simp only at c0 c1 c2 c3 e0 e1 e2; have hltb := hQ6.lt; have hltX := blk_lt hQ6.box; have HQ6 := Lib.hid hQ6
        clear hQ6
        go_region_held3 (fun w' => w'.cell? ⟨bb, off + j * 4, none⟩ = some (.int .i64 xk) ∧ w'.cell? ⟨bb, off + j * 4 + 1, none⟩ = some (.string key) ∧ w'.cell? ⟨bb, off + j * 4 + 2, none⟩ = some (.int .i64 xv) ∧ w'.cell? ⟨bb, off + j * 4 + 3, none⟩ = some (.int .i64 xo) ∧ w'.cell? ⟨X, 0, none⟩ = some (.int .i64 dc) ∧ w'.cell? ⟨X, 1, none⟩ = some (.bool df) ∧ w'.cell? ⟨X, 2, none⟩ = some (.int .i64 dv) ∧ X < w'.heap.size)
          (first | exact ⟨by assumption, by assumption, by assumption, by assumption, by assumption, by assumption, by assumption, by assumption⟩ | go_keep)
          (first
            | (go_at_call 13; (with_reducible refine (Hdo.out _ (HQ6.out.keep ((Ext.refl (fun _ => False) w6).drew)).two.s).mono ?_); rintro r w7 ⟨rfl, hs7, hx7⟩; have hQ7 := (HQ6.out.keep ((Ext.refl (fun _ => False) w6).drew)).doS hs7 hx7; obtain ⟨c0, c1, c2, c3⟩ := hQ7.op; obtain ⟨e0, e1, e2⟩ := box_cells hQ7.box; simp only at c0 c1 c2 c3 e0 e1 e2; have hltb := hQ7.lt; have hltX := blk_lt hQ7.box; have HQ7 := Lib.hid hQ7; clear hs7 hx7 hQ7)
            | (go_at_call 22; (with_reducible refine (Henc.out _).mono ?_); rintro r w8 ⟨rfl, hx8⟩; have hQ8 := HQ7.out.keep hx8; obtain ⟨c0, c1, c2, c3⟩ := hQ8.op; obtain ⟨e0, e1, e2⟩ := box_cells hQ8.box; simp only at c0 c1 c2 c3 e0 e1 e2; have hltb := hQ8.lt; have hltX := blk_lt hQ8.box; have HQ8 := Lib.hid hQ8; clear hx8 hQ8)
            | (go_at_call 21; (with_reducible refine (Hap.out _ HQ8.out.two.t).mono ?_); rintro r w9 ⟨rfl, hs9, hx9⟩; have hQ9 := HQ8.out.doT hs9 hx9; obtain ⟨c0, c1, c2, c3⟩ := hQ9.op; obtain ⟨e0, e1, e2⟩ := box_cells hQ9.box; simp only at c0 c1 c2 c3 e0 e1 e2; have hltb := hQ9.lt; have hltX := blk_lt hQ9.box; have HQ9 := Lib.hid hQ9; clear hs9 hx9 hQ9)
            | (go_at_call 23; (with_reducible refine (HencR.out _).mono ?_); rintro r w10 ⟨rfl, hx10⟩; have hQ10 := HQ9.out.keep hx10; obtain ⟨c0, c1, c2, c3⟩ := hQ10.op; obtain ⟨e0, e1, e2⟩ := box_cells hQ10.box; simp only at c0 c1 c2 c3 e0 e1 e2; have hltb := hQ10.lt; have hltX := blk_lt hQ10.box; have HQ10 := Lib.hid hQ10; clear hx10 hQ10)
            | (go_at_call 24; (with_reducible refine (Hsame.out _ sb mb _ HQ10.out.two.s HQ10.out.rows).mono ?_); rintro r w11 ⟨rfl, hx11⟩; have hQ11 := HQ10.out.keep hx11; obtain ⟨c0, c1, c2, c3⟩ := hQ11.op; obtain ⟨e0, e1, e2⟩ := box_cells hQ11.box; simp only at c0 c1 c2 c3 e0 e1 e2; have hltb := hQ11.lt; have hltX := blk_lt hQ11.box; have HQ11 := Lib.hid hQ11; clear hx11 hQ11)
            | (go_at_call 24; (with_reducible refine (Hsame.out _ tb nb _ HQ11.out.two.t HQ11.out.rows).mono ?_); rintro r w12 ⟨rfl, hx12⟩; have hQ12 := HQ11.out.keep hx12; obtain ⟨c0, c1, c2, c3⟩ := hQ12.op; obtain ⟨e0, e1, e2⟩ := box_cells hQ12.box; simp only at c0 c1 c2 c3 e0 e1 e2; have hltb := hQ12.lt; have hltX := blk_lt hQ12.box; have HQ12 := Lib.hid hQ12; clear hx12 hQ12))
        all_goals go_wp2
        all_goals go_roundg (l.length - (j + 1))
        case measure => omega
        case rel => exact ⟨j + 1, dm, by omega, rfl, by go_num, ⟨HQ12.out.two, HQ12.out.rows⟩, Hpl.out.1, Hpl.out.2⟩
      · have Hx := Lib.hid (Hx1.out.trans hI.two.ext)
        clear hI hg hm
        go_wp2
        go_ret
        exact ⟨rfl, Hx.out⟩
end Go.Proofs.Ythipbmppmgkklaa
