/-
  The laws on package session: run, with the tables' generation (UJ's proof over Inv2). Conditions: the arguments' cells are as given.
-/
import Derived.Test.YthligdgkhmgagaaUI
import Derived.Test.YthligdgkhmgagaaUG
import Derived.Test.YthligdgkhmgagaaV9
namespace Go.Proofs.Ythligdgkhmgagaa
open Go.RowKit Go.MapKept
open Go.ChangeMaps (setBlock)

/-- after j calls, the generation kept in step -/
structure Inv2 (T : Tbl) (j : Nat) : Prop where
  inv : Inv T j
  gen : GenOk T
theorem Inv2.small {T : Tbl} {j : Nat} (h : Inv2 T j) (hj : j ≤ 1000) : Small T := h.inv.small hj
theorem Inv2.zero : Inv2 T0 0 := ⟨Inv.zero, by simp [GenOk, T0]⟩
theorem GenOk.answer {T : Tbl} (h : GenOk T) (a b : Int) (s : ByteArray) : GenOk (answerM T a b s).1 := by
  rcases answer_cases T a b s with ⟨code, _, hans⟩ | ⟨q1, q2, q3, q4, q5, hans⟩
  · rw [hans]; exact h
  · rw [hans]; exact h
theorem GenOk.note {T : Tbl} {j : Nat} (h : GenOk T) (hi : Inv T j) (g s c : Int) : GenOk (noteM T g s c).1 := by
  unfold noteM
  split
  · exact h
  rename_i h0
  have hin : inB g s = true := by simpa using h0
  unfold inB inI at hin
  simp at hin
  split
  · exact h
  split
  · unfold GenOk; simp; omega
  rename_i h1 h2
  split
  · exact h
  · have hgen : T.gen = g := by omega
    have hp : 0 < (iput T.st s c).length := by
      have he := iget_iput_same T.st s c
      cases hq : iput T.st s c with
      | nil => rw [hq] at he; cases he
      | cons a r => simp
    unfold GenOk; simp only
    exact ⟨fun _ => hp, fun _ => by omega⟩
theorem Inv2.step {T : Tbl} {j : Nat} (h : Inv2 T j) (x : SOp) (hs : x.s.size ≤ 1000) (hc : InR x.c) : Inv2 (stepM T x) (j + 1) := by
  refine ⟨h.inv.step x hs hc, ?_⟩
  unfold stepM
  split
  · exact h.gen.answer _ _ _
  split
  · exact h.gen.note h.inv _ _ _
  · exact h.gen
def RunPost2 (w : World) (j : Nat) (r : Ending) (w' : World) : Prop :=
  ∃ tb cb sb v T, r = .returned (.tuple #[.pointer (some ⟨tb, 0, none⟩), v, .bool true]) ∧ IsTable w' tb cb sb T ∧ IsRef w' v T ∧ Inv2 T j ∧ Ext (fun _ => False) w w' ∧ w.heap.size ≤ tb ∧ w.heap.size ≤ cb ∧ w.heap.size ≤ sb
set_option maxRecDepth 100000 in
set_option maxHeartbeats 4000000 in
theorem run2_any (w : World) (ao : Option Addr) (n cap : Nat) (l : List SOp) (hok : ∀ x ∈ l, InR x.c) (hbody : ∀ x ∈ l, x.s.size ≤ 1000) (hl40 : l.length ≤ 40)
    (hn : n = l.length) (hcells : 0 < l.length → ∃ b off, ao = some ⟨b, off, none⟩ ∧ Ops w b off l ∧ b < w.heap.size) :
    Calls Try.prog 16 #[.slice ao n cap] w (RunPost2 w l.length) := by
  subst hn
  have Hcells := Lib.hid hcells
  have Hok := Lib.hid hok
  have Hbody := Lib.hid hbody
  clear hcells hok hbody
  go_enter Try.func16, Try.ntmps16
  obtain ⟨w0, hw0⟩ : ∃ w0, w0 = w.alloc (.cells #[.slice none 0 0, .int .i64 0, .slice none 0 0] 39) := ⟨_, rfl⟩
  have hC : blk w0 w.heap.size = some (.cells #[.slice none 0 0, .int .i64 0, .slice none 0 0] 39 (0, 0)) := by rw [hw0]; exact blk_alloc_at _ _
  have hx0 : Ext (fun _ => False) w w0 := by rw [hw0]; exact (Ext.refl _ w).alloc _
  go_upto_region 1 with fail
  rw [← hw0]
  have Hw := Lib.hid hx0
  have HC := Lib.hid hC
  have Hcells : Hid (0 < l.length → ∃ b off, ao = some ⟨b, off, none⟩ ∧ Ops w0 b off l ∧ b < w0.heap.size) := Lib.hid (fun h => by
    obtain ⟨b, off, h1, h2, h3⟩ := Hcells.out h
    exact ⟨b, off, h1, h2.ext hx0 (fun _ => ⟨h3, id⟩), Nat.lt_of_lt_of_le h3 hx0.size⟩)
  have hc0 := blk_lt hC
  clear hx0 hC hw0
  go_wp2_with fail
  refine (new_any w0).mono ?_
  rintro r w2 ⟨tb, cb, sb, rfl, hs2, hx2, h1, h2, h3⟩
  have hz1 : w0.heap.size ≤ w0.heap.size := Nat.le_refl _
  have hw : True := trivial
  have Hs2 := Lib.hid hs2
  have Hxw := Lib.hid hx2
  clear hs2 hx2
  go_wp2_with fail
  have hb3 : blk (w2.alloc (.cells #[.slice none 0 0, .int .i64 0, .slice none 0 0] 39)) w2.heap.size = some (.cells #[.slice none 0 0, .int .i64 0, .slice none 0 0] 39 (0, 0)) := blk_alloc_at _ _
  have hs3 := Hs2.out.keep ((Ext.refl (fun _ => False) w2).alloc (.cells #[.slice none 0 0, .int .i64 0, .slice none 0 0] 39))
  have hx3 := Hxw.out.alloc (.cells #[.slice none 0 0, .int .i64 0, .slice none 0 0] 39)
  have k1 : w0.heap.size ≤ tb := Nat.le_trans hz1 h1
  have k2 : w0.heap.size ≤ cb := Nat.le_trans hz1 h2
  have k3 : w0.heap.size ≤ sb := Nat.le_trans hz1 h3
  have k4 : w0.heap.size ≤ w2.heap.size := Hxw.out.size
  generalize w2.heap.size = B at *
  generalize w2.alloc (.cells #[.slice none 0 0, .int .i64 0, .slice none 0 0] 39) = w3 at *
  have Hs3 := Lib.hid hs3
  have Hb3 := Lib.hid hb3
  have Hx3 := Lib.hid hx3
  clear hs3 hb3 hx3 Hs2 Hxw h1 h2 h3 hz1 hw
  go_loopg [7] l.length (fun g v7 wr => ∃ (j : Nat) (T : Tbl) (sb' : Nat) (a1 : Option Addr) (m1 p1 : Nat) (a2 : Option Addr) (m2 p2 : Nat), j ≤ l.length ∧ g = l.length - j ∧ v7 = .int .i64 j ∧ IsTable wr tb cb sb' T ∧ IsRef wr (.agg #[.slice a1 m1 p1, .int .i64 T.gen, .slice a2 m2 p2]) T ∧ blk wr B = some (.cells #[.slice a1 m1 p1, .int .i64 T.gen, .slice a2 m2 p2] 39 (0, 0)) ∧ Inv2 T j ∧ w0.heap.size ≤ sb' ∧ Ext (fun _ => False) w0 wr)
  case atStart => exact ⟨0, T0, sb, none, 0, 0, none, 0, 0, Nat.zero_le _, rfl, rfl, Hs3.out, ref_zero _, Hb3.out, Inv2.zero, k3, Hx3.out⟩
  case round =>
    obtain ⟨j, T, sb', a1, m1, p1, a2, m2, p2, hj, rfl, rfl, hs, hr, hbx, hinv, hsb, hx⟩ := hrel
    clear Hs3 Hb3 Hx3 k3
    by_cases hjl : j < l.length
    · obtain ⟨b, off, rfl, ho, hb⟩ := Hcells.out (by omega)
      obtain ⟨x, hxe⟩ : ∃ x, l[j] = x := ⟨_, rfl⟩
      have hxm : x ∈ l := by rw [← hxe]; exact List.getElem_mem hjl
      have hlr : ∀ W, Ext (fun _ => False) w0 W → _ := fun W hW => (ho.ext hW (fun _ => ⟨hb, id⟩)).at j hjl
      rw [hxe] at hlr
      obtain ⟨c0, c1, c2, c3, c4⟩ := hlr wr hx
      have hinv' := hinv.step x (Hbody.out x hxm) (Hok.out x hxm)
      obtain ⟨d0, d1, d2⟩ := box_cells hbx
      have j0 : (0 : Int) ≤ (j : Int) := by omega
      have j1 : (j : Int) < (l.length : Int) := by omega
      have Hs := Lib.hid hs
      have Hr := Lib.hid hr
      have Hbx := Lib.hid hbx
      have HT := Lib.hid (hinv.small (by omega))
      have Hinv := Lib.hid hinv'
      have Hlr := Lib.hid hlr
      have Hx := Lib.hid hx
      have hnB := box_table hs hbx
      have hnQ : ¬ tset tb cb sb' wr.heap.size := fun e => by
        have := hs.lt
        rcases e with e | e | e <;> omega
      have hQB : ¬ wr.heap.size = B := by have := blk_lt hbx; omega
      have hQb : ¬ wr.heap.size = b := by have := hx.size; omega
      have hTS : ∀ k, tset tb cb sb' k → w0.heap.size ≤ k := fun k e => by
        rcases e with rfl | rfl | rfl
        · exact k1
        · exact k2
        · exact hsb
      clear hs hr hbx hinv hinv' hlr hx hxe hxm ho
      go_upto_region 8 with fail
      go_cut [8, 9] (fun v8 v9 wx => Stepped w0 tb cb B (stepM T x) v8 v9 wx)
      case first =>
        go_region_held3 (fun w' => w'.cell? ⟨B, 0, none⟩ = some (.slice a1 m1 p1) ∧ w'.cell? ⟨B, 1, none⟩ = some (.int .i64 T.gen) ∧ w'.cell? ⟨B, 2, none⟩ = some (.slice a2 m2 p2) ∧ w'.cell? ⟨b, off + j * 5, none⟩ = some (.int .i64 x.k) ∧ w'.cell? ⟨b, off + j * 5 + 1, none⟩ = some (.int .i64 x.a) ∧ w'.cell? ⟨b, off + j * 5 + 2, none⟩ = some (.int .i64 x.b) ∧ w'.cell? ⟨b, off + j * 5 + 3, none⟩ = some (.string x.s) ∧ w'.cell? ⟨b, off + j * 5 + 4, none⟩ = some (.int .i64 x.c))
          (first | exact ⟨by assumption, by assumption, by assumption, by assumption, by assumption, by assumption, by assumption, by assumption⟩ | go_keep)
          (first
            | (go_at_call 14; (with_reducible refine (step_any _ tb cb sb' _ T (Hs.out.keep ((Ext.refl (fun _ => False) wr).drew)) (Hr.out.keep ((Ext.refl (fun _ => False) wr).drew)) HT.out x).mono ?_); rintro r w5 ⟨sb5, v7, rfl, ht5, hr5, hx5, hs5⟩; obtain ⟨a4, m4, p4, a5, m5, p5, rfl⟩ := hr5.shape; have hX5 : Ext (tset tb cb sb') wr w5 := (ext_any ((Ext.refl (fun _ => False) wr).drew) _).trans hx5; have hb5 := (hX5.blk (blk_lt Hbx.out) hnB).trans Hbx.out; have hxw5 : Ext (fun _ => False) w0 w5 := Hx.out.own hX5 hTS; obtain ⟨d0, d1, d2⟩ := box_cells hb5; obtain ⟨c0, c1, c2, c3, c4⟩ := Hlr.out w5 hxw5; have hlt5 := blk_lt hb5; have hsb5 : w0.heap.size ≤ sb5 := hs5.elim (fun e => e ▸ hsb) (fun h => Nat.le_trans (Nat.le_trans Hx.out.size ((Ext.refl (fun _ => False) wr).drew).size) h); have Ht5 := Lib.hid ht5; have Hr5 := Lib.hid hr5; have Hx5 := Lib.hid hxw5; have Hb5 := Lib.hid hb5; clear ht5 hr5 hx5 hX5 hb5 hxw5 hs5)
            | (go_at_call 14; (with_reducible refine (step_any _ tb cb sb' _ T (Hs.out.keep (((Ext.refl (fun _ => False) wr).alloc (.cells #[.slice none 0 0, .int .i64 0, .slice none 0 0] 39)).drew)) (Hr.out.keep (((Ext.refl (fun _ => False) wr).alloc (.cells #[.slice none 0 0, .int .i64 0, .slice none 0 0] 39)).drew)) HT.out x).mono ?_); rintro r w5 ⟨sb5, v7, rfl, ht5, hr5, hx5, hs5⟩; obtain ⟨a4, m4, p4, a5, m5, p5, rfl⟩ := hr5.shape; have hX5 : Ext (tset tb cb sb') wr w5 := (ext_any (((Ext.refl (fun _ => False) wr).alloc (.cells #[.slice none 0 0, .int .i64 0, .slice none 0 0] 39)).drew) _).trans hx5; have hb5 := (hX5.blk (blk_lt Hbx.out) hnB).trans Hbx.out; have hxw5 : Ext (fun _ => False) w0 w5 := Hx.out.own hX5 hTS; obtain ⟨d0, d1, d2⟩ := box_cells hb5; obtain ⟨c0, c1, c2, c3, c4⟩ := Hlr.out w5 hxw5; have hlt5 := blk_lt hb5; have hsb5 : w0.heap.size ≤ sb5 := hs5.elim (fun e => e ▸ hsb) (fun h => Nat.le_trans (Nat.le_trans Hx.out.size (((Ext.refl (fun _ => False) wr).alloc (.cells #[.slice none 0 0, .int .i64 0, .slice none 0 0] 39)).drew).size) h); have hq5 : blk w5 wr.heap.size = some (.cells #[.slice none 0 0, .int .i64 0, .slice none 0 0] 39 (0, 0)) := (hx5.blk (by simp) hnQ).trans (blk_alloc_at wr (.cells #[.slice none 0 0, .int .i64 0, .slice none 0 0] 39)); obtain ⟨e0, e1, e2⟩ := box_cells hq5; have g0 := free_of_cells hq5 0; have g1 := free_of_cells hq5 1; have g2 := free_of_cells hq5 2; have hltq := blk_lt hq5; have Hq5 := Lib.hid hq5; clear hq5; have Ht5 := Lib.hid ht5; have Hr5 := Lib.hid hr5; have Hx5 := Lib.hid hxw5; have Hb5 := Lib.hid hb5; clear ht5 hr5 hx5 hX5 hb5 hxw5 hs5))
        · go_wp2_with fail
          go_meet
          exact ⟨w5.heap.size, sb5, a4, m4, p4, a5, m5, p5, _, _, _, rfl, rfl, by omega, blk_alloc_at _ _, (blk_alloc_past _ _ _ hlt5).trans Hb5.out, Ht5.out.keep ((Ext.refl _ w5).alloc _), Hr5.out.keep ((Ext.refl _ w5).alloc _), hsb5, Hx5.out.alloc _⟩
        · have hx9 := (set3_done Hq5.out (.slice a4 m4 p4) (.int .i64 (stepM T x).gen) (.slice a5 m5 p5)).2.2.2
          have hb9 := set3_blk Hq5.out (.slice a4 m4 p4) (.int .i64 (stepM T x).gen) (.slice a5 m5 p5)
          have Hst : Hid (Stepped w0 tb cb B (stepM T x) (.pointer (some ⟨wr.heap.size, 0, none⟩)) (.bool true) (set3 w5 wr.heap.size (.slice a4 m4 p4) (.int .i64 (stepM T x).gen) (.slice a5 m5 p5))) :=
            Lib.hid ⟨wr.heap.size, sb5, a4, m4, p4, a5, m5, p5, _, _, _, rfl, rfl, hQB, hb9, (hx9.blk hlt5 (fun e => hQB e.symm)).trans Hb5.out, Ht5.out.ext hx9 (fun k hk e => box_table Ht5.out Hq5.out (e ▸ hk)), Hr5.out.box Hq5.out hx9, hsb5, Hx5.out.own hx9 (fun k e => by subst e; exact Hx.out.size)⟩
          clear hx9 hb9
          go_wp2_with fail
          go_meet
          exact Hst.out
      case rest =>
        obtain ⟨q, sb5, a4, m4, p4, a5, m5, p5, y0, y1, y2, rfl, rfl, hqB, hq, hB, ht, hr, hsb5, hx⟩ := hcut
        obtain ⟨d0, d1, d2⟩ := box_cells hq
        obtain ⟨e0, e1, e2⟩ := box_cells hB
        have g0 := free_of_cells hB 0
        have g1 := free_of_cells hB 1
        have g2 := free_of_cells hB 2
        have hltB := blk_lt hB
        have hx9 := (set3_done hB (.slice a4 m4 p4) (.int .i64 (stepM T x).gen) (.slice a5 m5 p5)).2.2.2
        have Hb9 := Lib.hid (set3_blk hB (.slice a4 m4 p4) (.int .i64 (stepM T x).gen) (.slice a5 m5 p5))
        have Ht9 := Lib.hid (ht.ext hx9 (fun k hk e => box_table ht hB (e ▸ hk)))
        have Hr9 := Lib.hid (hr.box hB hx9)
        have Hx9 := Lib.hid (hx.own hx9 (fun k e => by subst e; exact k4))
        unfold set3 at Hb9 Ht9 Hr9 Hx9
        clear hx9 hq hB ht hr hx
        go_upto_region 10 with fail
        generalize ((wc.setCell ⟨B, 0, none⟩ (.slice a4 m4 p4)).setCell ⟨B, 1, none⟩ (.int .i64 (stepM T x).gen)).setCell ⟨B, 2, none⟩ (.slice a5 m5 p5) = w9 at *
        clear d0 d1 d2 e0 e1 e2 g0 g1 g2
        go_wp2
        go_roundg (l.length - (j + 1))
        case measure => omega
        case rel => exact ⟨j + 1, stepM T x, sb5, a4, m4, p4, a5, m5, p5, by omega, rfl, by go_num, Ht9.out, Hr9.out, Hb9.out, Hinv.out, hsb5, Hx9.out⟩
    · have e : j = l.length := by omega
      subst e
      obtain ⟨d0, d1, d2⟩ := box_cells hbx
      have hC := (hx.blk hc0 id).trans HC.out
      obtain ⟨e0, e1, e2⟩ := box_cells hC
      have g0 := free_of_cells hC 0
      have g1 := free_of_cells hC 1
      have g2 := free_of_cells hC 2
      have hCB : ¬ w.heap.size = B := by omega
      have hBC : ¬ B = w.heap.size := by omega
      have Hs := Lib.hid hs
      have Hr := Lib.hid hr
      have Hbx := Lib.hid hbx
      have HT := Lib.hid (hinv.small (by omega))
      have Hinv := Lib.hid hinv
      have Hx := Lib.hid hx
      have HCr := Lib.hid hC
      have hltC := blk_lt hC
      clear hs hr hbx hinv hx hC
      go_upto_region 12 with fail
      go_region_held3 (fun w' => w'.cell? ⟨B, 0, none⟩ = some (.slice a1 m1 p1) ∧ w'.cell? ⟨B, 1, none⟩ = some (.int .i64 T.gen) ∧ w'.cell? ⟨B, 2, none⟩ = some (.slice a2 m2 p2))
        (first | exact ⟨by assumption, by assumption, by assumption⟩ | go_keep)
        ((go_at_call 15; have q3 := same_any wr.drew tb cb sb' _ T (Hs.out.keep ((Ext.refl _ wr).drew)) (Hr.out.keep ((Ext.refl _ wr).drew)) HT.out; (with_reducible refine q3.mono ?_); clear q3; rintro r w5 ⟨rfl, hx5⟩; have hX5 : Ext (fun _ => False) wr w5 := ((Ext.refl _ wr).drew).trans hx5; obtain ⟨d0, d1, d2⟩ := box_cells ((hX5.blk (blk_lt Hbx.out) id).trans Hbx.out); have hC5 := (hX5.blk hltC id).trans HCr.out; obtain ⟨e0, e1, e2⟩ := box_cells hC5; have g0 := free_of_cells hC5 0; have g1 := free_of_cells hC5 1; have g2 := free_of_cells hC5 2; have hlt5 := blk_lt hC5; have HX5 := Lib.hid hX5; have HC5 := Lib.hid hC5; clear hx5 hX5 hC5))
      obtain ⟨z0, z1, z2, hx9⟩ := set3_done HC5.out (.slice a1 m1 p1) (.int .i64 T.gen) (.slice a2 m2 p2)
      have hxw5 : Ext (fun _ => False) w w5 := (Hw.out.trans Hx.out).trans HX5.out
      have HX9 := Lib.hid (hxw5.own hx9 (fun k (e : k = w.heap.size) => by omega))
      have HT9 := Lib.hid ((Hs.out.keep HX5.out).ext hx9 (fun k hk e => box_table (Hs.out.keep HX5.out) HC5.out (e ▸ hk)))
      have HR9 := Lib.hid ((Hr.out.keep HX5.out).box HC5.out hx9)
      have HZ := Lib.hid (And.intro z0 (And.intro z1 z2))
      clear hx9 z0 z1 z2 hxw5
      unfold set3 at HX9 HT9 HR9 HZ
      go_wp2_with fail
      have HZ := HZ.out
      have HX9 := HX9.out
      have HT9 := HT9.out
      have HR9 := HR9.out
      generalize ((w5.setCell ⟨w.heap.size, 0, none⟩ (.slice a1 m1 p1)).setCell ⟨w.heap.size, 1, none⟩ (.int .i64 T.gen)).setCell ⟨w.heap.size, 2, none⟩ (.slice a2 m2 p2) = w9 at *
      obtain ⟨z0, z1, z2⟩ := HZ
      exact bodyPost_ret (v := .tuple #[.pointer (some ⟨tb, 0, none⟩), .agg #[.slice a1 m1 p1, .int .i64 T.gen, .slice a2 m2 p2], .bool true]) (by simp [results, Try.results16, go_sem, z0, z1, z2]) rfl ⟨tb, cb, sb', _, T, rfl, HT9, HR9, Hinv.out, HX9, by omega, by omega, by omega⟩
end Go.Proofs.Ythligdgkhmgagaa
