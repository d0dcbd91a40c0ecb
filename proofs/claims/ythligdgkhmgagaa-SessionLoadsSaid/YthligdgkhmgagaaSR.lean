/-
  The reference of package session: Note at a new generation. Conditions: none beyond IsRef.
-/
import Derived.Test.YthligdgkhmgagaaSP
import Derived.Outline
import Derived.Deep.DeepCutAuto
import Derived.Deep.CutBlock
namespace Go.Proofs.Ythligdgkhmgagaa
open Go.RowKit Go.MapKept
open Go.ChangeMaps (setBlock)

set_option maxRecDepth 100000 in
set_option maxHeartbeats 4000000 in
theorem rnote_high (w : World) (v : Value) (T : Tbl) (hr : IsRef w v T) (hg : TOk T) (hl : T.st.length ≤ 1000000) (g s c : Int) (hin : inB g s = true) (hgen : T.gen < g) :
    Calls Try.prog 30 #[v, .int .i64 g, .int .i64 s, .int .i64 c] w (RefPost w (⟨T.cl, g, [(s, c)]⟩, 0)) := by
  have hadm := fun (W : World) (hx : Ext (fun _ => False) w W) => radmin_any W v T (hr.keep hx) hg hl g s
  have had : adminM T g s = (0, false) := by
    unfold adminM; rw [if_neg (by simp [hin]), if_neg (by omega), if_pos hgen]
  rw [had] at hadm
  obtain ⟨vc, vs, rfl, hc, hs⟩ := hr
  obtain ⟨ao, cap, rfl⟩ := ownsRow_shape hs
  obtain ⟨a2, m2, p2, rfl, hc2⟩ := row_shape' hc
  obtain ⟨N, hN⟩ : ∃ N, (sS T).length = N := ⟨_, rfl⟩
  have hNl : N ≤ 1000000 := by rw [← hN]; unfold sS; rw [ksort_length]; exact hl
  rw [hN] at hadm ⊢
  rw [hN] at hs
  have h1 : inI g = true := by unfold inB at hin; simp at hin; exact hin.1
  have h2 : inI s = true := by unfold inB at hin; simp at hin; exact hin.2
  have H1 := Lib.hid (fun W => rin_yes h1 W)
  have H2 := Lib.hid (fun W => rin_yes h2 W)
  have Hadm := Lib.hid hadm
  obtain ⟨k1, k2, k3, k4⟩ := row_nil_cap hs
  obtain ⟨G, hG⟩ : ∃ G, T.gen = G := ⟨_, rfl⟩
  have hHS : sS ⟨T.cl, g, [(s, c)]⟩ = [(s, c)] := by unfold sS ksort; simp
  have HS' := Lib.hid hHS
  have Hc := Lib.hid hc
  rw [hG] at hgen Hadm ⊢
  clear hadm had h1 h2 hin hc hs hN hc2 hg hl hG hHS k1 k2 k3 k4
  go_enter Try.func30, Try.ntmps30
  go_wp2_with fail
  obtain ⟨hp0, hp1, hxw⟩ := boxes_laid w (.slice a2 m2 p2) (.int .i64 G) (.slice ao N cap) (.slice none 0 0) (.int .i64 0) (.slice none 0 0) 39
  generalize ((w.alloc (.cells #[.slice a2 m2 p2, .int .i64 G, .slice ao N cap] 39)).alloc (.cells #[.slice none 0 0, .int .i64 0, .slice none 0 0] 39)) = w1 at *
  refine (H1.out _).mono ?_
  rintro r w' ⟨rfl, hw⟩; obtain rfl := hw.symm
  go_wp2_with fail
  refine (H2.out _).mono ?_
  rintro r w' ⟨rfl, hw⟩; obtain rfl := hw.symm
  obtain ⟨b0, b1, b2⟩ := box_cells hp0
  go_wp2_with fail
  refine (Hadm.out _ hxw).mono ?_
  rintro r w2 ⟨rfl, hx2⟩
  have hp0 := (hx2.blk (blk_lt hp0) id).trans hp0
  have hp1 := (hx2.blk (blk_lt hp1) id).trans hp1
  have hxw := hxw.trans hx2
  obtain ⟨d0, d1, d2⟩ := box_cells hp0
  have hlt0 := blk_lt hp0
  have hlt1 := blk_lt hp1
  have Hp0 := Lib.hid hp0
  have Hp1 := Lib.hid hp1
  have Hxw := Lib.hid hxw
  clear hp0 hp1 hxw hx2 b0 b1 b2
  have hq0 := free_of_cells Hp0.out
  have hq1 := hq0 1
  have hq2 := hq0 2
  clear hq0
  go_upto_block 0 with fail
  have hp0 : blk ((w2.setCell ⟨w.heap.size, 1, none⟩ (.int .i64 g)).setCell ⟨w.heap.size, 2, none⟩ (.slice none 0 0)) w.heap.size = some (.cells #[.slice a2 m2 p2, .int .i64 g, .slice none 0 0] 39 (0, 0)) := by simpa using blk_setCell_same (blk_setCell_same Hp0.out 1 (.int .i64 g)) 2 (.slice none 0 0)
  have hp1 : blk ((w2.setCell ⟨w.heap.size, 1, none⟩ (.int .i64 g)).setCell ⟨w.heap.size, 2, none⟩ (.slice none 0 0)) (w.heap.size + 1) = some (.cells #[.slice none 0 0, .int .i64 0, .slice none 0 0] 39 (0, 0)) := (blk_setCell_other _ _ _ _ (by simp)).trans ((blk_setCell_other _ _ _ _ (by simp)).trans Hp1.out)
  have hxa : Ext (fun k => k = w.heap.size) w2 ((w2.setCell ⟨w.heap.size, 1, none⟩ (.int .i64 g)).setCell ⟨w.heap.size, 2, none⟩ (.slice none 0 0)) := ((Ext.refl (fun k => k = w.heap.size) w2).setCell (p := ⟨w.heap.size, 1, none⟩) _ (fun _ => rfl)).setCell (p := ⟨w.heap.size, 2, none⟩) _ (fun _ => rfl)
  have hxb := Hxw.out.own hxa (fun k (e : k = w.heap.size) => by omega)
  clear hq1 hq2 Hp0 Hp1 Hxw d0 d1 d2 hxa hlt0 hlt1
  generalize (w2.setCell ⟨w.heap.size, 1, none⟩ (.int .i64 g)).setCell ⟨w.heap.size, 2, none⟩ (.slice none 0 0) = w4 at *
  obtain ⟨d0, d1, d2⟩ := box_cells hp0
  have hlt0 := blk_lt hp0
  have hlt1 := blk_lt hp1
  have Hp0 := Lib.hid hp0
  have Hp1 := Lib.hid hp1
  have Hxw := Lib.hid hxb
  clear hp0 hp1 hxb
  have Hk3 : Hid ((none : Option Addr) = none → (0 : Nat) = 0) := Lib.hid (fun _ => rfl)
  have HL1 : Hid (Lies w4 (none : Option Addr) 0 []) := Lib.hid (.inl rfl)
  have Hgl : Hid (∀ ad, (none : Option Addr) = some ad → ad.block < w4.heap.size) := Lib.hid (fun ad e => by cases e)
  go_wp2_with fail
  refine wp_loop_rounds 1 ?_
  rw [rounds_succ]
  go_upto_region 13 with fail
  go_cut [12] (fun v12 wx => Laid w4 w.heap.size ([].take 0 ++ (s, c) :: [].drop 0) wx)
  case first =>
    go_region_law
      (first
        | (refine step_grows1 (by rfl) (.tmp 60) (.tmp 64) (by rfl) (.slice (some ⟨_, 0, none⟩) 0 0) 0 [] _ (.cells #[.int .i64 s, .int .i64 c] 104) (by rfl) (by with_reducible first | exact grows_a w4 _ | exact grows_b w4 _ | exact grows_c w4 _) none 0 0 (by rfl) (fun _ => rfl) ([] : List Value) (by rfl) (.inl rfl) (by intro ad e; cases e) (by intro u hu; cases hu) (by omega) ?_; intro a5 m5 c5 w5 hm5 H5; obtain ⟨hk5, hb5⟩ := H5.out.cell d2)
        | (refine step_grows (by rfl) (.tmp 65) (.tmp 69) (by rfl) (.slice a5 m5 c5) m5 _ none (.cells #[.int .i64 s, .int .i64 c] 104) (by rfl) (H5.out.alloc _) _ 1 1 (by rfl) (fun e => (by cases e)) (cellsS (s, c)) rfl (.inr ⟨_, rfl, cells_new (cellsS (s, c)) _ rfl⟩) (cellsS_one _) (by omega) ?_; intro a6 m6 c6 w6 hm6 H6; obtain ⟨hk6, hb6⟩ := H6.out.cell d2)
        | (refine step_grows (by rfl) (.tmp 65) (.tmp 69) (by rfl) (.slice a5 m5 c5) m5 _ (some _) (.cells #[.int .i64 s, .int .i64 c] 104) (by rfl) H5.out _ 1 1 (by rfl) (fun e => (by cases e)) (cellsS (s, c)) rfl (H5.out.xlies (cs := [.int .i64 s, .int .i64 c]) 1) (cellsS_one _) (by omega) ?_; intro a6 m6 c6 w6 hm6 H6; obtain ⟨hk6, hb6⟩ := H6.out.cell d2)
        | (refine step_grows1 (by rfl) (.tmp 70) (.tmp 74) (by rfl) (.slice a6 m6 c6) m6 _ _ (.cells #[.int .i64 s, .int .i64 c] 104) (by rfl) H6.out none 0 0 (by rfl) (fun _ => rfl) ([] : List Value) (by rfl) (.inl rfl) (by intro ad e; cases e) (by intro u hu; cases hu) (by omega) ?_; intro a7 m7 c7 w7 hm7 H7; have f0 := free_of_cells ((H7.out.ext.blk hlt0 (Nat.not_le.2 hlt0)).trans Hp0.out) 2; obtain ⟨hk7, hb7⟩ := H7.out.cell d2))
    all_goals
      go_wp2_with fail
      go_meet
      exact H7.out.laid rfl
  case rest =>
    obtain ⟨w7, a7, m7, p7, rfl, hx7, hrow7⟩ := hcut
    have hp2 := (hx7.blk hlt0 (Nat.not_le.2 hlt0)).trans Hp0.out
    have hp3 := (hx7.blk hlt1 (Nat.not_le.2 hlt1)).trans Hp1.out
    have hp4 : blk (w7.setCell ⟨w.heap.size, 2, none⟩ (.slice a7 m7 p7)) w.heap.size = some (.cells #[.slice a2 m2 p2, .int .i64 g, .slice a7 m7 p7] 39 (0, 0)) := by simpa using blk_setCell_same hp2 2 (.slice a7 m7 p7)
    have hp5 := (blk_setCell_other w7 ⟨w.heap.size, 2, none⟩ (.slice a7 m7 p7) (w.heap.size + 1) (by simp)).trans hp3
    have hx8 : Ext (fun b => b = w.heap.size) w7 (w7.setCell ⟨w.heap.size, 2, none⟩ (.slice a7 m7 p7)) := (Ext.refl _ w7).setCell (p := ⟨w.heap.size, 2, none⟩) _ (fun _ => rfl)
    have hrow8 : (w7.setCell ⟨w.heap.size, 2, none⟩ (.slice a7 m7 p7)).ownsRow 0 104 2 (.slice a7 m7 p7) m7 ((([] : List (Int × Int)).take 0 ++ (s, c) :: ([] : List (Int × Int)).drop 0).flatMap cellsS) := ownsRow_ext hrow7 hx8 (fun g hg e => by
      obtain ⟨cur, hcur⟩ := row_type hrow7 hg
      rw [show g = w.heap.size from e, hp2] at hcur; cases hcur)
    generalize w7.setCell ⟨w.heap.size, 2, none⟩ (.slice a7 m7 p7) = w8 at *
    obtain ⟨d0, d1, d2'⟩ := box_cells hp4
    obtain ⟨e0, e1, e2⟩ := box_cells hp5
    have g0 := free_of_cells hp5 0
    have g1 := free_of_cells hp5 1
    have g2 := free_of_cells hp5 2
    have hlt8 := blk_lt hp5
    obtain ⟨z0, z1, z2, hx9⟩ := set3_done hp5 (.slice a2 m2 p2) (.int .i64 g) (.slice a7 m7 p7)
    have hA : Ext (fun b => w.heap.size ≤ b) w4 w7 := hx7.mono (fun k _ (e : w4.heap.size ≤ k) => (by show w.heap.size ≤ k; omega))
    have hB : Ext (fun b => w.heap.size ≤ b) w7 w8 := hx8.mono (fun k _ (e : k = w.heap.size) => (by show w.heap.size ≤ k; omega))
    have hC : Ext (fun b => w.heap.size ≤ b) w8 (set3 w8 (w.heap.size + 1) (.slice a2 m2 p2) (.int .i64 g) (.slice a7 m7 p7)) := hx9.mono (fun k _ (e : k = w.heap.size + 1) => (by show w.heap.size ≤ k; omega))
    have hxf : Ext (fun _ => False) w (set3 w8 (w.heap.size + 1) (.slice a2 m2 p2) (.int .i64 g) (.slice a7 m7 p7)) := Hxw.out.trans' ((hA.trans hB).trans hC) (fun k hk (e : w.heap.size ≤ k) => absurd hk (by omega))
    have hrow9 := ownsRow_ext hrow8 hx9 (fun g hg e => by
      obtain ⟨cur, hcur⟩ := row_type hrow8 hg
      rw [show g = w.heap.size + 1 from e, hp5] at hcur; cases hcur)
    have hcount := row_count (by omega) cellsS_len hrow9
    have hrc := ownsRow_keep Hc.out hxf
    have HF : Hid (IsRef (set3 w8 (w.heap.size + 1) (.slice a2 m2 p2) (.int .i64 g) (.slice a7 m7 p7)) (.agg #[.slice a2 m2 p2, .int .i64 g, .slice a7 m7 p7]) ⟨T.cl, g, [(s, c)]⟩) := Lib.hid ⟨_, _, rfl, hrc, by rw [HS'.out, show [(s, c)].length = m7 from hcount.symm]; exact hrow9⟩
    have HX := Lib.hid hxf
    have HZ := Lib.hid (And.intro z0 (And.intro z1 z2))
    clear hp2 hp3 hp4 hp5 hx7 hx8 hx9 hA hB hC hxf hrow7 hrow8 hrow9 hcount hrc z0 z1 z2 d2 Hp0 Hp1
    unfold set3 at HF HX HZ
    go_wp2
    have HZ := HZ.out
    have HF := HF.out
    have HX := HX.out
    clear d0 d1 d2' e0 e1 e2 g0 g1 g2
    generalize ((w8.setCell ⟨w.heap.size + 1, 0, none⟩ (.slice a2 m2 p2)).setCell ⟨w.heap.size + 1, 1, none⟩ (.int .i64 g)).setCell ⟨w.heap.size + 1, 2, none⟩ (.slice a7 m7 p7) = w9 at *
    obtain ⟨z0, z1, z2⟩ := HZ
    exact bodyPost_ret (v := .tuple #[.agg #[.slice a2 m2 p2, .int .i64 g, .slice a7 m7 p7], .int .i64 0]) (by simp [results, Try.results30, go_sem, z0, z1, z2]) rfl ⟨_, rfl, HF, HX⟩
end Go.Proofs.Ythligdgkhmgagaa
