/-
  The reference of package session: Note where it lays a code. Conditions: none beyond IsRef.
-/
import Derived.Test.YthligdgkhmgagaaSP
import Derived.Outline
import Derived.Deep.DeepCutAuto
import Derived.Deep.CutBlock
namespace Go.Proofs.Ythligdgkhmgagaa
open Go.RowKit Go.MapKept
open Go.ChangeMaps (setBlock)

set_option maxRecDepth 100000 in
set_option maxHeartbeats 4000000 in
theorem rnote_put (w : World) (v : Value) (T : Tbl) (hr : IsRef w v T) (hg : TOk T) (hl : T.st.length ≤ 1000000) (g s c : Int) (hin : inB g s = true) (hgen : T.gen = g) (hnew : iget T.st s = none) :
    Calls Try.prog 30 #[v, .int .i64 g, .int .i64 s, .int .i64 c] w (RefPost w (⟨T.cl, T.gen, iput T.st s c⟩, 0)) := by
  have hadm := fun (W : World) (hx : Ext (fun _ => False) w W) => radmin_any W v T (hr.keep hx) hg hl g s
  have had : adminM T g s = (0, false) := by
    unfold adminM; rw [if_neg (by simp [hin]), if_neg (by omega), if_neg (by omega), hnew]; rfl
  rw [had] at hadm
  obtain ⟨vc, vs, rfl, hc, hs⟩ := hr
  obtain ⟨ao, cap, rfl⟩ := ownsRow_shape hs
  obtain ⟨a2, m2, p2, rfl, hc2⟩ := row_shape' hc
  have hS' : sS ⟨T.cl, T.gen, iput T.st s c⟩ = (sS T).take (posS (sS T) s) ++ (s, c) :: (sS T).drop (posS (sS T) s) := iput_sS hg.snod s c hnew
  obtain ⟨N, hN⟩ : ∃ N, (sS T).length = N := ⟨_, rfl⟩
  have hNl : N ≤ 1000000 := by rw [← hN]; unfold sS; rw [ksort_length]; exact hl
  rw [hN] at hadm ⊢
  rw [hN] at hs
  have h1 : inI g = true := by unfold inB at hin; simp at hin; exact hin.1
  have h2 : inI s = true := by unfold inB at hin; simp at hin; exact hin.2
  have H1 := Lib.hid (fun W => rin_yes h1 W)
  have H2 := Lib.hid (fun W => rin_yes h2 W)
  have Hadm := Lib.hid hadm
  obtain ⟨k1, k2, k3, k4⟩ := row_nil_cap hs
  obtain ⟨S, hS⟩ : ∃ S, sS T = S := ⟨_, rfl⟩
  rw [hS] at hs hN hS'
  have HS' := Lib.hid hS'
  have Hc := Lib.hid hc
  have Hs := Lib.hid hs
  have HN := Lib.hid hN
  subst hgen
  clear hadm had h1 h2 hin hc hs hN hc2 hS' hS hg hl hnew
  go_enter Try.func30, Try.ntmps30
  go_wp2_with fail
  obtain ⟨hp0, hp1, hxw⟩ := boxes_laid w (.slice a2 m2 p2) (.int .i64 T.gen) (.slice ao N cap) (.slice none 0 0) (.int .i64 0) (.slice none 0 0) 39
  generalize ((w.alloc (.cells #[.slice a2 m2 p2, .int .i64 T.gen, .slice ao N cap] 39)).alloc (.cells #[.slice none 0 0, .int .i64 0, .slice none 0 0] 39)) = w1 at *
  refine (H1.out _).mono ?_
  rintro r w' ⟨rfl, hw⟩; obtain rfl := hw.symm
  go_wp2_with fail
  refine (H2.out _).mono ?_
  rintro r w' ⟨rfl, hw⟩; obtain rfl := hw.symm
  obtain ⟨b0, b1, b2⟩ := box_cells hp0
  go_wp2_with fail
  refine (Hadm.out _ hxw).mono ?_
  rintro r w2 ⟨rfl, hx2⟩
  have hp0 := (hx2.blk (blk_lt hp0) id).trans hp0
  have hp1 := (hx2.blk (blk_lt hp1) id).trans hp1
  have hxw := hxw.trans hx2
  obtain ⟨d0, d1, d2⟩ := box_cells hp0
  have hlt0 := blk_lt hp0
  have hlt1 := blk_lt hp1
  have hs2 := ownsRow_keep Hs.out hxw
  have Hp0 := Lib.hid hp0
  have Hp1 := Lib.hid hp1
  have Hxw := Lib.hid hxw
  have Hs2 := Lib.hid hs2
  clear hp0 hp1 hxw hx2 b0 b1 b2 hs2
  go_upto_block 0 with fail
  go_cut [12] (fun v12 wx => wx = w2 ∧ v12 = .int .i64 (posS S s))
  case first =>
    go_wp2_with fail
    go_loopg [12] N (fun q v12 wr => wr = w2 ∧ ∃ j : Nat, j ≤ N ∧ q = N - j ∧ v12 = .int .i64 j ∧ ∀ i p, i < j → S[i]? = some p → p.1 < s)
    case atStart => exact ⟨rfl, 0, Nat.zero_le _, rfl, rfl, fun i p h => by omega⟩
    case round =>
      obtain ⟨rfl, j, hj, rfl, rfl, hlow⟩ := hrel
      have Hlow := Lib.hid hlow
      clear hlow
      by_cases hjN : j < N
      · obtain ⟨q, rfl, hg2⟩ := row_form Hs2.out (by omega)
        obtain ⟨p, hp⟩ : ∃ p, S[j]? = some p := ⟨_, List.getElem?_eq_getElem (by rw [HN.out]; exact hjN)⟩
        have hcell := row_at cellsS_len Hs2.out j hp 0 (by omega) rfl
        obtain ⟨k, a⟩ := p
        have Hp := Lib.hid hp
        simp only [Nat.add_zero] at hcell
        clear hp
        by_cases hk : k < s
        · go_wp2_with fail
          go_roundg (N - (j + 1))
          case measure => omega
          case rel =>
            refine ⟨rfl, j + 1, by omega, rfl, by go_num, fun i p hi hp => ?_⟩
            by_cases e : i = j
            · subst e; rw [Hp.out] at hp; cases hp; exact hk
            · exact Hlow.out i p (by omega) hp
        · have hP : posS S s = j := posS_step Hlow.out (by rw [HN.out]; exact hj) (fun p hp => by rw [Hp.out] at hp; cases hp; exact hk)
          have HP := Lib.hid hP
          clear hP
          go_wp2_with fail
          go_meet
          exact ⟨rfl, by rw [HP.out]⟩
      · have hP : posS S s = j := posS_step Hlow.out (by rw [HN.out]; exact hj) (fun p hp => by have := (List.getElem?_eq_some_iff.1 hp).1; rw [HN.out] at this; omega)
        have HP := Lib.hid hP
        clear hP
        go_wp2_with fail
        go_meet
        exact ⟨rfl, by rw [HP.out]⟩
  case rest =>
    obtain ⟨hwc, rfl⟩ := hcut
    obtain rfl := hwc.symm
    have hPN : posS S s ≤ N := by rw [← HN.out]; exact kpre_le S s
    generalize posS S s = P at *
    have Hl1 : Hid ((S.take P).length = P) := Lib.hid (by rw [List.length_take, HN.out]; omega)
    have Hl2 : Hid ((S.drop P).length = N - P) := Lib.hid (by rw [List.length_drop, HN.out])
    have hwr := Hxw.out.size
    have HL1 : Hid (Lies w2 ao P ((S.take P).flatMap cellsS)) := Lib.hid (by
      rcases k4 with h | ⟨g, rfl, _⟩
      · exact .inl (by have := k3 h; omega)
      · have := row_lies cellsS_len Hs2.out 0 P 0 (by omega)
        simpa using this)
    have HL2 : Hid (¬ P = cap → Lies w2 (Option.map (fun x => x.add (P * 2)) ao) (N - P) ((S.drop P).flatMap cellsS)) := Lib.hid (fun hne => by
      rcases k4 with h | ⟨g, rfl, _⟩
      · exact .inl (by have := k3 h; omega)
      · have := row_lies cellsS_len Hs2.out P (N - P) (P * 2) rfl
        rw [List.take_of_length_le (by rw [Hl2.out]; omega)] at this
        simpa [Addr.add_lit] using this)
    have Hgl : Hid (∀ ad, ao = some ad → ad.block < w2.heap.size) := Lib.hid (fun ad e => by
      rcases k4 with h | ⟨g, h, hlt⟩
      · rw [h] at e; cases e
      · rw [h] at e; cases e; exact Nat.lt_of_lt_of_le hlt hwr)
    have HglM : Hid (∀ ad, Option.map (fun x => x.add (P * 2)) ao = some ad → ad.block < w2.heap.size) := Lib.hid (fun ad e => by
      rcases k4 with h | ⟨g, h, hlt⟩
      · rw [h] at e; cases e
      · rw [h] at e; cases e; simpa [Addr.add_lit] using Nat.lt_of_lt_of_le hlt hwr)
    have Hk3 := Lib.hid k3
    have HcM : Hid (Option.map (fun x => x.add (P * 2)) ao = none → cap - P = 0) := Lib.hid (fun e => by have := k3 (Option.map_eq_none_iff.1 e); omega)
    have hx0 : (P : Int) ≤ (cap : Int) := by omega
    have hx1 : (P : Int) ≤ (N : Int) := by omega
    clear k3 k4 hwr d0 d1 hp0 hp1 hxw Hadm H1 H2
    have q1' : cap = P → P = cap := fun e => e.symm
    have Hq1' := Lib.hid q1'
    clear q1'
    by_cases q1 : P = cap
    · subst q1
      skip
      go_upto_region 13 with fail
      go_cut [12] (fun v12 wx => Laid w2 w.heap.size (S.take P ++ (s, c) :: S.drop P) wx)
      case first =>
        go_region_law
          (first
            | (refine step_grows1 (by rfl) (.tmp 60) (.tmp 64) (by rfl) (.slice (some ⟨_, 0, none⟩) 0 0) 0 [] _ (.cells #[.int .i64 s, .int .i64 c] 104) (by rfl) (by with_reducible first | exact grows_a w2 _ | exact grows_b w2 _ | exact grows_c w2 _) _ P _ (by rfl) Hk3.out ((S.take P).flatMap cellsS) (by rw [fm_length cellsS_len, Hl1.out]) HL1.out Hgl.out (rows_one cellsS_one _) (by omega) ?_; intro a5 m5 c5 w5 hm5 H5; obtain ⟨hk5, hb5⟩ := H5.out.cell d2)
            | (refine step_grows (by rfl) (.tmp 65) (.tmp 69) (by rfl) (.slice a5 m5 c5) m5 _ none (.cells #[.int .i64 s, .int .i64 c] 104) (by rfl) (H5.out.alloc _) _ 1 1 (by rfl) (fun e => (by cases e)) (cellsS (s, c)) rfl (.inr ⟨_, rfl, cells_new (cellsS (s, c)) _ rfl⟩) (cellsS_one _) (by omega) ?_; intro a6 m6 c6 w6 hm6 H6; obtain ⟨hk6, hb6⟩ := H6.out.cell d2)
            | (refine step_grows (by rfl) (.tmp 65) (.tmp 69) (by rfl) (.slice a5 m5 c5) m5 _ (some _) (.cells #[.int .i64 s, .int .i64 c] 104) (by rfl) H5.out _ 1 1 (by rfl) (fun e => (by cases e)) (cellsS (s, c)) rfl (H5.out.xlies (cs := [.int .i64 s, .int .i64 c]) 1) (cellsS_one _) (by omega) ?_; intro a6 m6 c6 w6 hm6 H6; obtain ⟨hk6, hb6⟩ := H6.out.cell d2)
            | (refine step_grows1 (by rfl) (.tmp 70) (.tmp 74) (by rfl) (.slice a6 m6 c6) m6 _ _ (.cells #[.int .i64 s, .int .i64 c] 104) (by rfl) H6.out ao 0 0 (by rfl) (fun _ => rfl) ((S.drop P).flatMap cellsS) (by rw [fm_length cellsS_len, Hl2.out]; try omega) (.inl (by omega)) Hgl.out (rows_one cellsS_one _) (by omega) ?_; intro a7 m7 c7 w7 hm7 H7; have f0 := free_of_cells ((H7.out.ext.blk hlt0 (Nat.not_le.2 hlt0)).trans Hp0.out) 2; obtain ⟨hk7, hb7⟩ := H7.out.cell d2))
        all_goals
          go_wp2_with fail
          go_meet
          exact H7.out.laid rfl
      case rest =>
        obtain ⟨w7, a7, m7, p7, rfl, hx7, hrow7⟩ := hcut
        have hp2 := (hx7.blk hlt0 (Nat.not_le.2 hlt0)).trans Hp0.out
        have hp3 := (hx7.blk hlt1 (Nat.not_le.2 hlt1)).trans Hp1.out
        have hp4 : blk (w7.setCell ⟨w.heap.size, 2, none⟩ (.slice a7 m7 p7)) w.heap.size = some (.cells #[.slice a2 m2 p2, .int .i64 T.gen, .slice a7 m7 p7] 39 (0, 0)) := by simpa using blk_setCell_same hp2 2 (.slice a7 m7 p7)
        have hp5 := (blk_setCell_other w7 ⟨w.heap.size, 2, none⟩ (.slice a7 m7 p7) (w.heap.size + 1) (by simp)).trans hp3
        have hx8 : Ext (fun b => b = w.heap.size) w7 (w7.setCell ⟨w.heap.size, 2, none⟩ (.slice a7 m7 p7)) := (Ext.refl _ w7).setCell (p := ⟨w.heap.size, 2, none⟩) _ (fun _ => rfl)
        have hrow8 : (w7.setCell ⟨w.heap.size, 2, none⟩ (.slice a7 m7 p7)).ownsRow 0 104 2 (.slice a7 m7 p7) m7 ((S.take P ++ (s, c) :: S.drop P).flatMap cellsS) := ownsRow_ext hrow7 hx8 (fun g hg e => by
          obtain ⟨cur, hcur⟩ := row_type hrow7 hg
          rw [show g = w.heap.size from e, hp2] at hcur; cases hcur)
        generalize w7.setCell ⟨w.heap.size, 2, none⟩ (.slice a7 m7 p7) = w8 at *
        obtain ⟨d0, d1, d2'⟩ := box_cells hp4
        obtain ⟨e0, e1, e2⟩ := box_cells hp5
        have g0 := free_of_cells hp5 0
        have g1 := free_of_cells hp5 1
        have g2 := free_of_cells hp5 2
        have hlt8 := blk_lt hp5
        obtain ⟨z0, z1, z2, hx9⟩ := set3_done hp5 (.slice a2 m2 p2) (.int .i64 T.gen) (.slice a7 m7 p7)
        have hA : Ext (fun b => w.heap.size ≤ b) w2 w7 := hx7.mono (fun k _ (e : w2.heap.size ≤ k) => (by show w.heap.size ≤ k; omega))
        have hB : Ext (fun b => w.heap.size ≤ b) w7 w8 := hx8.mono (fun k _ (e : k = w.heap.size) => (by show w.heap.size ≤ k; omega))
        have hC : Ext (fun b => w.heap.size ≤ b) w8 (set3 w8 (w.heap.size + 1) (.slice a2 m2 p2) (.int .i64 T.gen) (.slice a7 m7 p7)) := hx9.mono (fun k _ (e : k = w.heap.size + 1) => (by show w.heap.size ≤ k; omega))
        have hxf : Ext (fun _ => False) w (set3 w8 (w.heap.size + 1) (.slice a2 m2 p2) (.int .i64 T.gen) (.slice a7 m7 p7)) := Hxw.out.trans' ((hA.trans hB).trans hC) (fun k hk (e : w.heap.size ≤ k) => absurd hk (by omega))
        have hrow9 := ownsRow_ext hrow8 hx9 (fun g hg e => by
          obtain ⟨cur, hcur⟩ := row_type hrow8 hg
          rw [show g = w.heap.size + 1 from e, hp5] at hcur; cases hcur)
        have hcount := row_count (by omega) cellsS_len hrow9
        have hrc := ownsRow_keep Hc.out hxf
        have HF : Hid (IsRef (set3 w8 (w.heap.size + 1) (.slice a2 m2 p2) (.int .i64 T.gen) (.slice a7 m7 p7)) (.agg #[.slice a2 m2 p2, .int .i64 T.gen, .slice a7 m7 p7]) ⟨T.cl, T.gen, iput T.st s c⟩) := Lib.hid ⟨_, _, rfl, hrc, by rw [HS'.out]; rw [← hcount]; exact hrow9⟩
        have HX := Lib.hid hxf
        have HZ := Lib.hid (And.intro z0 (And.intro z1 z2))
        clear hp2 hp3 hp4 hp5 hx7 hx8 hx9 hA hB hC hxf hrow7 hrow8 hrow9 hcount hrc z0 z1 z2 d2 Hs2 Hp0 Hp1
        unfold set3 at HF HX HZ
        go_wp2
        have HZ := HZ.out
        have HF := HF.out
        have HX := HX.out
        clear d0 d1 d2' e0 e1 e2 g0 g1 g2
        generalize ((w8.setCell ⟨w.heap.size + 1, 0, none⟩ (.slice a2 m2 p2)).setCell ⟨w.heap.size + 1, 1, none⟩ (.int .i64 T.gen)).setCell ⟨w.heap.size + 1, 2, none⟩ (.slice a7 m7 p7) = w9 at *
        obtain ⟨z0, z1, z2⟩ := HZ
        exact bodyPost_ret (v := .tuple #[.agg #[.slice a2 m2 p2, .int .i64 T.gen, .slice a7 m7 p7], .int .i64 0]) (by simp [results, Try.results30, go_sem, z0, z1, z2]) rfl ⟨_, rfl, HF, HX⟩
    · have q2 : ¬ cap = P := fun e => q1 (Hq1'.out e)
      go_upto_region 13 with fail
      go_cut [12] (fun v12 wx => Laid w2 w.heap.size (S.take P ++ (s, c) :: S.drop P) wx)
      case first =>
        go_region_law
          (first
            | (refine step_grows1 (by rfl) (.tmp 60) (.tmp 64) (by rfl) (.slice (some ⟨_, 0, none⟩) 0 0) 0 [] _ (.cells #[.int .i64 s, .int .i64 c] 104) (by rfl) (by with_reducible first | exact grows_a w2 _ | exact grows_b w2 _ | exact grows_c w2 _) _ P _ (by rfl) Hk3.out ((S.take P).flatMap cellsS) (by rw [fm_length cellsS_len, Hl1.out]) HL1.out Hgl.out (rows_one cellsS_one _) (by omega) ?_; intro a5 m5 c5 w5 hm5 H5; obtain ⟨hk5, hb5⟩ := H5.out.cell d2)
            | (refine step_grows (by rfl) (.tmp 65) (.tmp 69) (by rfl) (.slice a5 m5 c5) m5 _ none (.cells #[.int .i64 s, .int .i64 c] 104) (by rfl) (H5.out.alloc _) _ 1 1 (by rfl) (fun e => (by cases e)) (cellsS (s, c)) rfl (.inr ⟨_, rfl, cells_new (cellsS (s, c)) _ rfl⟩) (cellsS_one _) (by omega) ?_; intro a6 m6 c6 w6 hm6 H6; obtain ⟨hk6, hb6⟩ := H6.out.cell d2)
            | (refine step_grows (by rfl) (.tmp 65) (.tmp 69) (by rfl) (.slice a5 m5 c5) m5 _ (some _) (.cells #[.int .i64 s, .int .i64 c] 104) (by rfl) H5.out _ 1 1 (by rfl) (fun e => (by cases e)) (cellsS (s, c)) rfl (H5.out.xlies (cs := [.int .i64 s, .int .i64 c]) 1) (cellsS_one _) (by omega) ?_; intro a6 m6 c6 w6 hm6 H6; obtain ⟨hk6, hb6⟩ := H6.out.cell d2)
            | (refine step_grows1 (by rfl) (.tmp 70) (.tmp 74) (by rfl) (.slice a6 m6 c6) m6 _ _ (.cells #[.int .i64 s, .int .i64 c] 104) (by rfl) H6.out (Option.map (fun x => x.add (P * 2)) ao) (N - P) (cap - P) (by first | rfl | (show Value.slice (if cap = P then ao else Option.map (fun x => x.add (P * 2)) ao) (N - P) (cap - P) = _; rw [if_neg q2])) HcM.out ((S.drop P).flatMap cellsS) (by rw [fm_length cellsS_len, Hl2.out]; try omega) (HL2.out q1) HglM.out (rows_one cellsS_one _) (by omega) ?_; intro a7 m7 c7 w7 hm7 H7; have f0 := free_of_cells ((H7.out.ext.blk hlt0 (Nat.not_le.2 hlt0)).trans Hp0.out) 2; obtain ⟨hk7, hb7⟩ := H7.out.cell d2))
        all_goals
          go_wp2_with fail
          go_meet
          exact H7.out.laid rfl
      case rest =>
        obtain ⟨w7, a7, m7, p7, rfl, hx7, hrow7⟩ := hcut
        have hp2 := (hx7.blk hlt0 (Nat.not_le.2 hlt0)).trans Hp0.out
        have hp3 := (hx7.blk hlt1 (Nat.not_le.2 hlt1)).trans Hp1.out
        have hp4 : blk (w7.setCell ⟨w.heap.size, 2, none⟩ (.slice a7 m7 p7)) w.heap.size = some (.cells #[.slice a2 m2 p2, .int .i64 T.gen, .slice a7 m7 p7] 39 (0, 0)) := by simpa using blk_setCell_same hp2 2 (.slice a7 m7 p7)
        have hp5 := (blk_setCell_other w7 ⟨w.heap.size, 2, none⟩ (.slice a7 m7 p7) (w.heap.size + 1) (by simp)).trans hp3
        have hx8 : Ext (fun b => b = w.heap.size) w7 (w7.setCell ⟨w.heap.size, 2, none⟩ (.slice a7 m7 p7)) := (Ext.refl _ w7).setCell (p := ⟨w.heap.size, 2, none⟩) _ (fun _ => rfl)
        have hrow8 : (w7.setCell ⟨w.heap.size, 2, none⟩ (.slice a7 m7 p7)).ownsRow 0 104 2 (.slice a7 m7 p7) m7 ((S.take P ++ (s, c) :: S.drop P).flatMap cellsS) := ownsRow_ext hrow7 hx8 (fun g hg e => by
          obtain ⟨cur, hcur⟩ := row_type hrow7 hg
          rw [show g = w.heap.size from e, hp2] at hcur; cases hcur)
        generalize w7.setCell ⟨w.heap.size, 2, none⟩ (.slice a7 m7 p7) = w8 at *
        obtain ⟨d0, d1, d2'⟩ := box_cells hp4
        obtain ⟨e0, e1, e2⟩ := box_cells hp5
        have g0 := free_of_cells hp5 0
        have g1 := free_of_cells hp5 1
        have g2 := free_of_cells hp5 2
        have hlt8 := blk_lt hp5
        obtain ⟨z0, z1, z2, hx9⟩ := set3_done hp5 (.slice a2 m2 p2) (.int .i64 T.gen) (.slice a7 m7 p7)
        have hA : Ext (fun b => w.heap.size ≤ b) w2 w7 := hx7.mono (fun k _ (e : w2.heap.size ≤ k) => (by show w.heap.size ≤ k; omega))
        have hB : Ext (fun b => w.heap.size ≤ b) w7 w8 := hx8.mono (fun k _ (e : k = w.heap.size) => (by show w.heap.size ≤ k; omega))
        have hC : Ext (fun b => w.heap.size ≤ b) w8 (set3 w8 (w.heap.size + 1) (.slice a2 m2 p2) (.int .i64 T.gen) (.slice a7 m7 p7)) := hx9.mono (fun k _ (e : k = w.heap.size + 1) => (by show w.heap.size ≤ k; omega))
        have hxf : Ext (fun _ => False) w (set3 w8 (w.heap.size + 1) (.slice a2 m2 p2) (.int .i64 T.gen) (.slice a7 m7 p7)) := Hxw.out.trans' ((hA.trans hB).trans hC) (fun k hk (e : w.heap.size ≤ k) => absurd hk (by omega))
        have hrow9 := ownsRow_ext hrow8 hx9 (fun g hg e => by
          obtain ⟨cur, hcur⟩ := row_type hrow8 hg
          rw [show g = w.heap.size + 1 from e, hp5] at hcur; cases hcur)
        have hcount := row_count (by omega) cellsS_len hrow9
        have hrc := ownsRow_keep Hc.out hxf
        have HF : Hid (IsRef (set3 w8 (w.heap.size + 1) (.slice a2 m2 p2) (.int .i64 T.gen) (.slice a7 m7 p7)) (.agg #[.slice a2 m2 p2, .int .i64 T.gen, .slice a7 m7 p7]) ⟨T.cl, T.gen, iput T.st s c⟩) := Lib.hid ⟨_, _, rfl, hrc, by rw [HS'.out]; rw [← hcount]; exact hrow9⟩
        have HX := Lib.hid hxf
        have HZ := Lib.hid (And.intro z0 (And.intro z1 z2))
        clear hp2 hp3 hp4 hp5 hx7 hx8 hx9 hA hB hC hxf hrow7 hrow8 hrow9 hcount hrc z0 z1 z2 d2 Hs2 Hp0 Hp1
        unfold set3 at HF HX HZ
        go_wp2
        have HZ := HZ.out
        have HF := HF.out
        have HX := HX.out
        clear d0 d1 d2' e0 e1 e2 g0 g1 g2
        generalize ((w8.setCell ⟨w.heap.size + 1, 0, none⟩ (.slice a2 m2 p2)).setCell ⟨w.heap.size + 1, 1, none⟩ (.int .i64 T.gen)).setCell ⟨w.heap.size + 1, 2, none⟩ (.slice a7 m7 p7) = w9 at *
        obtain ⟨z0, z1, z2⟩ := HZ
        exact bodyPost_ret (v := .tuple #[.agg #[.slice a2 m2 p2, .int .i64 T.gen, .slice a7 m7 p7], .int .i64 0]) (by simp [results, Try.results30, go_sem, z0, z1, z2]) rfl ⟨_, rfl, HF, HX⟩
end Go.Proofs.Ythligdgkhmgagaa
