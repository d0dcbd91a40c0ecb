/-
  SessionCalls: the walk. Conditions: the arguments' cells are as given.
-/
import Derived.Test.YthligdgkhmgagaaUF
namespace Go.Proofs.Ythligdgkhmgagaa
open Go.RowKit Go.MapKept
open Go.ChangeMaps (setBlock)

theorem box_table {w : World} {tb cb sb B : Nat} {T : Tbl} {cs : Array Value} {f : Nat × Nat} (ht : IsTable w tb cb sb T) (hb : blk w B = some (.cells cs 39 f)) : ¬ tset tb cb sb B := by
  obtain ⟨t1, ⟨e1, c1, t2, _⟩, ⟨e2, c2, t3, _⟩, _⟩ := ht
  rintro (rfl | rfl | rfl)
  · rw [t1] at hb; cases hb
  · rw [t2] at hb; cases hb
  · rw [t3] at hb; cases hb
theorem set3_blk {w : World} {R : Nat} {v0 v1 v2 : Value} {t : TypeId} (h : blk w R = some (.cells #[v0, v1, v2] t (0, 0))) (u0 u1 u2 : Value) :
    blk (set3 w R u0 u1 u2) R = some (.cells #[u0, u1, u2] t (0, 0)) := by
  simpa [set3] using blk_setCell_same (blk_setCell_same (blk_setCell_same h 0 u0) 1 u1) 2 u2
/-- behind a call of step: the reference's table lies in a block of its own -/
def Stepped (w : World) (tb cb B : Nat) (T : Tbl) (v6 v7 : Value) (wx : World) : Prop :=
  ∃ (q sb : Nat) (a4 : Option Addr) (m4 p4 : Nat) (a5 : Option Addr) (m5 p5 : Nat) (u0 u1 u2 : Value), v6 = .pointer (some ⟨q, 0, none⟩) ∧ v7 = .bool true ∧ ¬ q = B ∧ blk wx q = some (.cells #[.slice a4 m4 p4, .int .i64 T.gen, .slice a5 m5 p5] 39 (0, 0)) ∧
    blk wx B = some (.cells #[u0, u1, u2] 39 (0, 0)) ∧ IsTable wx tb cb sb T ∧ IsRef wx (.agg #[.slice a4 m4 p4, .int .i64 T.gen, .slice a5 m5 p5]) T ∧ w.heap.size ≤ sb ∧ Ext (fun _ => False) w wx
set_option maxRecDepth 100000 in
set_option maxHeartbeats 4000000 in
theorem calls_core (w : World) (ao : Option Addr) (n cap : Nat) (l : List SOp) (hok : ∀ x ∈ l, InR x.c)
    (hfew : ∀ W, Ext (fun _ => False) w W → Calls Try.prog 9 #[.slice ao n cap, .int .i64 40] W fun r w' => r = .returned (.bool (fewB l 40)) ∧ w' = W)
    (hn : n = l.length) (hcells : 0 < l.length → ∃ b off, ao = some ⟨b, off, none⟩ ∧ Ops w b off l ∧ b < w.heap.size) :
    Calls Try.prog 4 #[.slice ao n cap] w (AwakePost w) := by
  subst hn
  have Hfew := Lib.hid hfew
  have Hcells := Lib.hid hcells
  have Hok := Lib.hid hok
  clear hfew hcells hok
  go_enter Try.func4, Try.ntmps4
  go_wp2_with fail
  refine (awake_any _).mono ?_
  rintro r w1 ⟨rfl, hx1⟩
  go_wp2_with fail
  refine (Hfew.out _ hx1).mono ?_
  rintro r w' ⟨rfl, hw⟩; obtain rfl := hw.symm
  cases hf : fewB l 40 with
  | false =>
    have Hx1 := Lib.hid hx1
    clear hf hx1
    go_wp2
    go_ret
    exact ⟨rfl, Hx1.out⟩
  | true =>
    have hl40 : l.length ≤ 40 := by unfold fewB at hf; simp at hf; exact hf.2
    have hbody : ∀ x ∈ l, x.s.size ≤ 1000 := fun x hx => by
      unfold fewB at hf; simp at hf
      have := hf.1 x hx
      unfold fewX at this; simp at this; omega
    have Hbody := Lib.hid hbody
    clear hbody
    go_wp2_with fail
    refine (new_any w1).mono ?_
    rintro r w2 ⟨tb, cb, sb, rfl, hs2, hx2, h1, h2, h3⟩
    have hz1 := hx1.size
    have hxw := hx1.trans hx2
    have Hs2 := Lib.hid hs2
    have Hxw := Lib.hid hxw
    clear hf hs2 hx1 hx2 hxw
    go_wp2_with fail
    have hb3 : blk (w2.alloc (.cells #[.slice none 0 0, .int .i64 0, .slice none 0 0] 39)) w2.heap.size = some (.cells #[.slice none 0 0, .int .i64 0, .slice none 0 0] 39 (0, 0)) := blk_alloc_at _ _
    have hs3 := Hs2.out.keep ((Ext.refl (fun _ => False) w2).alloc (.cells #[.slice none 0 0, .int .i64 0, .slice none 0 0] 39))
    have hx3 := Hxw.out.alloc (.cells #[.slice none 0 0, .int .i64 0, .slice none 0 0] 39)
    have k1 : w.heap.size ≤ tb := Nat.le_trans hz1 h1
    have k2 : w.heap.size ≤ cb := Nat.le_trans hz1 h2
    have k3 : w.heap.size ≤ sb := Nat.le_trans hz1 h3
    have k4 : w.heap.size ≤ w2.heap.size := Hxw.out.size
    generalize w2.heap.size = B at *
    generalize w2.alloc (.cells #[.slice none 0 0, .int .i64 0, .slice none 0 0] 39) = w3 at *
    have Hs3 := Lib.hid hs3
    have Hb3 := Lib.hid hb3
    have Hx3 := Lib.hid hx3
    clear hs3 hb3 hx3 Hs2 Hxw h1 h2 h3 hz1 hw
    go_loopg [5] l.length (fun g v5 wr => ∃ (j : Nat) (T : Tbl) (sb' : Nat) (a1 : Option Addr) (m1 p1 : Nat) (a2 : Option Addr) (m2 p2 : Nat), j ≤ l.length ∧ g = l.length - j ∧ v5 = .int .i64 j ∧ IsTable wr tb cb sb' T ∧ IsRef wr (.agg #[.slice a1 m1 p1, .int .i64 T.gen, .slice a2 m2 p2]) T ∧ blk wr B = some (.cells #[.slice a1 m1 p1, .int .i64 T.gen, .slice a2 m2 p2] 39 (0, 0)) ∧ Inv T j ∧ w.heap.size ≤ sb' ∧ Ext (fun _ => False) w wr)
    case atStart => exact ⟨0, T0, sb, none, 0, 0, none, 0, 0, Nat.zero_le _, rfl, rfl, Hs3.out, ref_zero _, Hb3.out, Inv.zero, k3, Hx3.out⟩
    case round =>
      obtain ⟨j, T, sb', a1, m1, p1, a2, m2, p2, hj, rfl, rfl, hs, hr, hbx, hinv, hsb, hx⟩ := hrel
      clear Hs3 Hb3 Hx3 k3
      by_cases hjl : j < l.length
      · obtain ⟨b, off, rfl, ho, hb⟩ := Hcells.out (by omega)
        obtain ⟨x, hxe⟩ : ∃ x, l[j] = x := ⟨_, rfl⟩
        have hxm : x ∈ l := by rw [← hxe]; exact List.getElem_mem hjl
        have hlr : ∀ W, Ext (fun _ => False) w W → _ := fun W hW => (ho.ext hW (fun _ => ⟨hb, id⟩)).at j hjl
        rw [hxe] at hlr
        obtain ⟨c0, c1, c2, c3, c4⟩ := hlr wr hx
        have hinv' := hinv.step x (Hbody.out x hxm) (Hok.out x hxm)
        obtain ⟨d0, d1, d2⟩ := box_cells hbx
        have j0 : (0 : Int) ≤ (j : Int) := by omega
        have j1 : (j : Int) < (l.length : Int) := by omega
        have Hs := Lib.hid hs
        have Hr := Lib.hid hr
        have Hbx := Lib.hid hbx
        have HT := Lib.hid (hinv.small (by omega))
        have Hinv := Lib.hid hinv'
        have Hlr := Lib.hid hlr
        have Hx := Lib.hid hx
        have hnB := box_table hs hbx
        have hnQ : ¬ tset tb cb sb' wr.heap.size := fun e => by
          have := hs.lt
          rcases e with e | e | e <;> omega
        have hQB : ¬ wr.heap.size = B := by have := blk_lt hbx; omega
        have hQb : ¬ wr.heap.size = b := by have := hx.size; omega
        have hTS : ∀ k, tset tb cb sb' k → w.heap.size ≤ k := fun k e => by
          rcases e with rfl | rfl | rfl
          · exact k1
          · exact k2
          · exact hsb
        clear hs hr hbx hinv hinv' hlr hx hxe hxm ho
        go_upto_region 10 with fail
        go_cut [6, 7] (fun v6 v7 wx => Stepped w tb cb B (stepM T x) v6 v7 wx)
        case first =>
          go_region_held3 (fun w' => w'.cell? ⟨B, 0, none⟩ = some (.slice a1 m1 p1) ∧ w'.cell? ⟨B, 1, none⟩ = some (.int .i64 T.gen) ∧ w'.cell? ⟨B, 2, none⟩ = some (.slice a2 m2 p2) ∧ w'.cell? ⟨b, off + j * 5, none⟩ = some (.int .i64 x.k) ∧ w'.cell? ⟨b, off + j * 5 + 1, none⟩ = some (.int .i64 x.a) ∧ w'.cell? ⟨b, off + j * 5 + 2, none⟩ = some (.int .i64 x.b) ∧ w'.cell? ⟨b, off + j * 5 + 3, none⟩ = some (.string x.s) ∧ w'.cell? ⟨b, off + j * 5 + 4, none⟩ = some (.int .i64 x.c))
            (first | exact ⟨by assumption, by assumption, by assumption, by assumption, by assumption, by assumption, by assumption, by assumption⟩ | go_keep)
            (first
              | (go_at_call 14; (with_reducible refine (step_any _ tb cb sb' _ T (Hs.out.keep ((Ext.refl (fun _ => False) wr).drew)) (Hr.out.keep ((Ext.refl (fun _ => False) wr).drew)) HT.out x).mono ?_); rintro r w5 ⟨sb5, v5, rfl, ht5, hr5, hx5, hs5⟩; obtain ⟨a4, m4, p4, a5, m5, p5, rfl⟩ := hr5.shape; have hX5 : Ext (tset tb cb sb') wr w5 := (ext_any ((Ext.refl (fun _ => False) wr).drew) _).trans hx5; have hb5 := (hX5.blk (blk_lt Hbx.out) hnB).trans Hbx.out; have hxw5 : Ext (fun _ => False) w w5 := Hx.out.own hX5 hTS; obtain ⟨d0, d1, d2⟩ := box_cells hb5; obtain ⟨c0, c1, c2, c3, c4⟩ := Hlr.out w5 hxw5; have hlt5 := blk_lt hb5; have hsb5 : w.heap.size ≤ sb5 := hs5.elim (fun e => e ▸ hsb) (fun h => Nat.le_trans (Nat.le_trans Hx.out.size ((Ext.refl (fun _ => False) wr).drew).size) h); have Ht5 := Lib.hid ht5; have Hr5 := Lib.hid hr5; have Hx5 := Lib.hid hxw5; have Hb5 := Lib.hid hb5; clear ht5 hr5 hx5 hX5 hb5 hxw5 hs5)
              | (go_at_call 14; (with_reducible refine (step_any _ tb cb sb' _ T (Hs.out.keep (((Ext.refl (fun _ => False) wr).alloc (.cells #[.slice none 0 0, .int .i64 0, .slice none 0 0] 39)).drew)) (Hr.out.keep (((Ext.refl (fun _ => False) wr).alloc (.cells #[.slice none 0 0, .int .i64 0, .slice none 0 0] 39)).drew)) HT.out x).mono ?_); rintro r w5 ⟨sb5, v5, rfl, ht5, hr5, hx5, hs5⟩; obtain ⟨a4, m4, p4, a5, m5, p5, rfl⟩ := hr5.shape; have hX5 : Ext (tset tb cb sb') wr w5 := (ext_any (((Ext.refl (fun _ => False) wr).alloc (.cells #[.slice none 0 0, .int .i64 0, .slice none 0 0] 39)).drew) _).trans hx5; have hb5 := (hX5.blk (blk_lt Hbx.out) hnB).trans Hbx.out; have hxw5 : Ext (fun _ => False) w w5 := Hx.out.own hX5 hTS; obtain ⟨d0, d1, d2⟩ := box_cells hb5; obtain ⟨c0, c1, c2, c3, c4⟩ := Hlr.out w5 hxw5; have hlt5 := blk_lt hb5; have hsb5 : w.heap.size ≤ sb5 := hs5.elim (fun e => e ▸ hsb) (fun h => Nat.le_trans (Nat.le_trans Hx.out.size (((Ext.refl (fun _ => False) wr).alloc (.cells #[.slice none 0 0, .int .i64 0, .slice none 0 0] 39)).drew).size) h); have hq5 : blk w5 wr.heap.size = some (.cells #[.slice none 0 0, .int .i64 0, .slice none 0 0] 39 (0, 0)) := (hx5.blk (by simp) hnQ).trans (blk_alloc_at wr (.cells #[.slice none 0 0, .int .i64 0, .slice none 0 0] 39)); obtain ⟨e0, e1, e2⟩ := box_cells hq5; have g0 := free_of_cells hq5 0; have g1 := free_of_cells hq5 1; have g2 := free_of_cells hq5 2; have hltq := blk_lt hq5; have Hq5 := Lib.hid hq5; clear hq5; have Ht5 := Lib.hid ht5; have Hr5 := Lib.hid hr5; have Hx5 := Lib.hid hxw5; have Hb5 := Lib.hid hb5; clear ht5 hr5 hx5 hX5 hb5 hxw5 hs5))
          · go_wp2_with fail
            go_meet
            exact ⟨w5.heap.size, sb5, a4, m4, p4, a5, m5, p5, _, _, _, rfl, rfl, by omega, blk_alloc_at _ _, (blk_alloc_past _ _ _ hlt5).trans Hb5.out, Ht5.out.keep ((Ext.refl _ w5).alloc _), Hr5.out.keep ((Ext.refl _ w5).alloc _), hsb5, Hx5.out.alloc _⟩
          · have hx9 := (set3_done Hq5.out (.slice a4 m4 p4) (.int .i64 (stepM T x).gen) (.slice a5 m5 p5)).2.2.2
            have hb9 := set3_blk Hq5.out (.slice a4 m4 p4) (.int .i64 (stepM T x).gen) (.slice a5 m5 p5)
            have Hst : Hid (Stepped w tb cb B (stepM T x) (.pointer (some ⟨wr.heap.size, 0, none⟩)) (.bool true) (set3 w5 wr.heap.size (.slice a4 m4 p4) (.int .i64 (stepM T x).gen) (.slice a5 m5 p5))) :=
              Lib.hid ⟨wr.heap.size, sb5, a4, m4, p4, a5, m5, p5, _, _, _, rfl, rfl, hQB, hb9, (hx9.blk hlt5 (fun e => hQB e.symm)).trans Hb5.out, Ht5.out.ext hx9 (fun k hk e => box_table Ht5.out Hq5.out (e ▸ hk)), Hr5.out.box Hq5.out hx9, hsb5, Hx5.out.own hx9 (fun k e => by subst e; exact Hx.out.size)⟩
            clear hx9 hb9
            go_wp2_with fail
            go_meet
            exact Hst.out
        case rest =>
          obtain ⟨q, sb5, a4, m4, p4, a5, m5, p5, y0, y1, y2, rfl, rfl, hqB, hq, hB, ht, hr, hsb5, hx⟩ := hcut
          obtain ⟨d0, d1, d2⟩ := box_cells hq
          obtain ⟨e0, e1, e2⟩ := box_cells hB
          have g0 := free_of_cells hB 0
          have g1 := free_of_cells hB 1
          have g2 := free_of_cells hB 2
          have hltB := blk_lt hB
          have hx9 := (set3_done hB (.slice a4 m4 p4) (.int .i64 (stepM T x).gen) (.slice a5 m5 p5)).2.2.2
          have Hb9 := Lib.hid (set3_blk hB (.slice a4 m4 p4) (.int .i64 (stepM T x).gen) (.slice a5 m5 p5))
          have Ht9 := Lib.hid (ht.ext hx9 (fun k hk e => box_table ht hB (e ▸ hk)))
          have Hr9 := Lib.hid (hr.box hB hx9)
          have Hx9 := Lib.hid (hx.own hx9 (fun k e => by subst e; exact k4))
          unfold set3 at Hb9 Ht9 Hr9 Hx9
          clear hx9 hq hB ht hr hx
          go_upto_region 12 with fail
          generalize ((wc.setCell ⟨B, 0, none⟩ (.slice a4 m4 p4)).setCell ⟨B, 1, none⟩ (.int .i64 (stepM T x).gen)).setCell ⟨B, 2, none⟩ (.slice a5 m5 p5) = w9 at *
          clear d0 d1 d2 e0 e1 e2 g0 g1 g2
          obtain ⟨d0, d1, d2⟩ := box_cells Hb9.out
          go_wp2_with fail
          refine (same_any w9 tb cb sb5 _ _ Ht9.out Hr9.out (Inv.small Hinv.out (by omega))).mono ?_
          rintro r w10 ⟨rfl, hx10⟩
          have Hx10 := Lib.hid hx10
          clear hx10
          go_wp2
          go_roundg (l.length - (j + 1))
          case measure => omega
          case rel => exact ⟨j + 1, stepM T x, sb5, a4, m4, p4, a5, m5, p5, by omega, rfl, by go_num, Ht9.out.keep Hx10.out, Hr9.out.keep Hx10.out, (Hx10.out.blk (blk_lt Hb9.out) id).trans Hb9.out, Hinv.out, hsb5, Hx9.out.trans Hx10.out⟩
      · have Hx := Lib.hid hx
        clear hs hr hbx hinv hx
        go_wp2
        go_ret
        exact ⟨rfl, Hx.out⟩
end Go.Proofs.Ythligdgkhmgagaa
