/-
  The reference's Point, Holds, Violated, Inside. Conditions: the arguments read as programs, rows, points.
-/
import Derived.Test.YtbgienfcmdgaaaaGreatZ12
import Derived.Test.YtbgienfcmdgaaaaGreatZ8
set_option linter.unusedVariables false
namespace Go.Proofs.YtbgienfcmdgaaaaGreat
open Go.RowKit Go.MapKept
open Go.ChangeMaps (setBlock)

theorem ROwn.empty {w : World} {g base : Nat} (L : Nat) (h : blk w g = some (.cells #[] 31 (0, 0))) (hb : base ≤ g) : ROwn w base (.slice (some ⟨g, 0, none⟩) 0 0) [] L :=
  ⟨[], rfl, ownsRow_empty 3 hb h, (fun g' e => by cases e; exact noDig_cells h (fun u hu => by cases hu)), (fun i c q h => by simp at h)⟩
theorem Rrat.ratC {w : World} {v : Value} {q : Rat} {L : Nat} (h : Rrat w v q L) : ∃ e : RatC, v = e.v := by
  obtain ⟨ng, a1, m1, c1, a2, m2, c2, rfl⟩ := h.shape
  exact ⟨⟨ng, a1, m1, c1, a2, m2, c2⟩, rfl⟩
/-- a row of fractions is returned -/
def RatsPost (w : World) (l : List Rat) (L : Nat) (r : Ending) (w' : World) : Prop := ∃ v, r = .returned v ∧ Rats w' v l L ∧ Ext (fun _ => False) w w'
theorem ext_own {w0 w w' : World} {v : Value} (h : Ext (fun _ => False) w0 w) (hx : Ext (fun k => v.ownBlock = some k) w w') (hb : ∀ g, v.ownBlock = some g → w0.heap.size ≤ g) : Ext (fun _ => False) w0 w' :=
  h.own hx (fun k hk => hb k hk)
set_option maxRecDepth 100000 in
set_option maxHeartbeats 4000000 in
theorem Point_any (w : World) (pv xv : Value) (p : ProgV) (x : List Rat) (L : Nat) (hp : IsPrg w pv p) (hl : Rats w xv x L) (hn0 : p.vars.length ≤ 1000000) :
    Calls Tryz.prog 111 #[pv, xv] w (RatsPost w (listTo p.vars.length fun i => atQ x i) L) := by
  obtain ⟨vv, rv, rfl, hv, -⟩ := hp
  obtain ⟨vo, vc, rfl, -, hn, -⟩ := hv.shape
  have HA := Lib.hid (fun W (hW : Ext (fun _ => False) w W) (i : Int) => At_any W _ x L (hl.keep hW) i)
  clear hv hl
  obtain ⟨n, hn'⟩ : ∃ n, p.vars.length = n := ⟨_, rfl⟩
  rw [hn'] at hn hn0 ⊢
  clear hn'
  have hb1 : blk ((w.alloc (.cells #[.slice vo n vc, rv] 25)).alloc (.cells #[] 31)) w.heap.size = some (.cells #[.slice vo n vc, rv] 25 (0, 0)) := (blk_alloc_past _ _ _ (by simp)).trans (blk_alloc_at _ _)
  have hb2 := blk_alloc_at (w.alloc (.cells #[.slice vo n vc, rv] 25)) (.cells #[] 31)
  rw [World.size_alloc] at hb2
  have HB := Lib.hid (And.intro hb1 (And.intro (ROwn.empty (base := w.heap.size + 1) L hb2 (Nat.le_refl _)) (((Ext.refl (fun _ => False) w).alloc (.cells #[.slice vo n vc, rv] 25)).alloc (.cells #[] 31))))
  clear hb1 hb2
  go_enter Tryz.func111, Tryz.ntmps111
  go_upto_region 2 with fail
  generalize hw1 : (w.alloc (.cells #[.slice vo n vc, rv] 25)).alloc (.cells #[] 31) = w1 at *
  clear hw1
  have z0 := cellq HB.out.1 0 rfl
  obtain ⟨bs, hbs⟩ : ∃ bs, w.heap.size = bs := ⟨_, rfl⟩
  have HBs := Lib.hid hbs
  rw [hbs] at HB z0 ⊢
  clear hbs
  go_wp2_with fail
  go_loopg [6, 5] n (fun gg v6 v5 wr => ∃ (i : Nat) (v : Value), i ≤ n ∧ gg = n - i ∧ v6 = .int .i64 i ∧ v5 = v ∧ ROwn wr (bs + 1) v (listTo i fun k => atQ x k) L ∧ wr.cell? ⟨bs, 0, none⟩ = some (.slice vo n vc) ∧ Ext (fun _ => False) w wr)
  case atStart => exact ⟨0, _, Nat.zero_le _, rfl, rfl, rfl, HB.out.2.1, z0, HB.out.2.2⟩
  case round =>
    clear z0
    obtain ⟨i, v, hi, rfl, rfl, rfl, ho, z0, hx⟩ := hrel
    obtain ⟨ao, cap, rfl⟩ := ho.shape
    have hll : (listTo i fun k => atQ x k).length = i := listTo_length _ _
    rw [hll] at ho ⊢
    by_cases hin : i < n
    · have i0 : (i : Int) < (n : Int) := by omega
      have HA1 := Lib.hid (HA.out wr hx i)
      have HO := Lib.hid (And.intro ho (And.intro hx z0))
      have HLl := Lib.hid hll
      clear ho hx hll
      go_wp2_with fail
      refine HA1.out.mono ?_
      rintro r2 w2 ⟨v2, rfl, h2, hx2⟩
      obtain ⟨n2, a2, l2, c2, a2', l2', c2', rfl⟩ := h2.shape
      have hxa := (Ext.refl (fun _ => False) w2).alloc (.cells #[.bool n2, .slice a2 l2 c2, .slice a2' l2' c2'] 31)
      have HO2 := Lib.hid (And.intro (HO.out.1.keep (hx2.trans hxa)) (And.intro (h2.keep hxa) ((HO.out.2.1.trans hx2).trans hxa)))
      have HZ2 := Lib.hid (cell_keep (cell_keep HO.out.2.2 hx2) hxa)
      have HSz := Lib.hid (show bs + 1 ≤ (w2.alloc (.cells #[.bool n2, .slice a2 l2 c2, .slice a2' l2' c2'] 31)).heap.size from (by have := World.block_lt_of_cell? _ _ HZ2.out; exact this))
      have HG := Lib.hid (fun g e => (HO2.out.1.lt g e).1)
      clear h2 hx2 hxa HA1 z0
      go_wp2_with (at_builtin; refine wpList_append_rat rfl (.tmp 15) (.tmp 19) rfl (bs + 1) _ _ L rfl HO2.out.1 ⟨n2, a2, l2, c2, a2', l2', c2'⟩ (atQ x i) HO2.out.2.1 ⟨w2.heap.size, 0, none⟩ 1 rfl (cells_new (RatC.cells ⟨n2, a2, l2, c2, a2', l2', c2'⟩) _ rfl) (by rw [HLl.out]; omega) HSz.out ?_; intro v5 w5 hown5 hx5 hrd5; have HN : Hid (ROwn w5 (bs + 1) v5 (listTo (i + 1) fun k => atQ x k) L) := Lib.hid (by rw [listTo_succ]; exact hown5); have HX5 : Hid (Ext (fun _ => False) w w5) := Lib.hid (ext_own HO2.out.2.2 hx5 (fun g e => by have := HG.out g e; have := HBs.out; omega)); have HZ5 : Hid (w5.cell? ⟨bs, 0, none⟩ = some (.slice vo n vc)) := Lib.hid ((hx5.cell (p := ⟨bs, 0, none⟩) (World.block_lt_of_cell? _ _ HZ2.out) (fun e => absurd (HG.out bs e) (by omega))).trans HZ2.out); clear hown5 hx5 hrd5)
      go_roundg (n - (i + 1))
      case measure => omega
      case rel => exact ⟨i + 1, _, by omega, rfl, by go_num, rfl, HN.out, HZ5.out, HX5.out⟩
    · obtain rfl : i = n := by omega
      have HO := Lib.hid (And.intro ho hx)
      clear ho hx
      go_wp2
      go_ret
      exact ⟨_, rfl, by have := HO.out.1.rats; exact this, HO.out.2⟩
theorem dot_point (p : ProgV) (ts : List TermV) (x : List Rat) : dotQ ts (listTo p.vars.length fun i => atQ x i) = dotQ ts (clipQ p x) := by
  refine sumTo_congr fun k _ => ?_
  congr 1
  generalize (ts.getD k term0).var = i
  by_cases h0 : i < 0
  · rw [atQ_neg _ h0, atQ_neg _ h0]
  obtain ⟨j, rfl⟩ : ∃ j : Nat, i = j := ⟨i.toNat, by omega⟩
  by_cases hj : j < p.vars.length
  · rw [atQ_listTo _ hj, atQ_clip p x (by omega)]
  · rw [atQ_out _ (by rw [listTo_length]; omega), atQ_out (clipQ p x) (by unfold clipQ; rw [List.length_take]; omega)]
set_option maxRecDepth 100000 in
set_option maxHeartbeats 8000000 in
theorem Holds_any (w : World) (pv xv : Value) (p : ProgV) (r : RowV) (x : List Rat) (L T : Nat) (ta : Option Addr) (tc : Nat) (hp : IsPrg w pv p) (hok : RowOk r) (ht : Tms w (.slice ta r.terms.length tc) r.terms) (hl : Rats w xv x L) (h1 : 1 ≤ L) (hT : r.terms.length ≤ T) (hL : 1 + T * (L + 3) + (L + 3) ≤ 1000000) (hn0 : p.vars.length ≤ 1000000) :
    Calls Tryz.prog 59 #[pv, .agg #[.string r.name, .int .i64 r.group, .int .i64 r.kind, .slice ta r.terms.length tc, .int .i64 r.bound], xv] w (BoolPost w (holdsB r (clipQ p x))) := by
  have HPt := Lib.hid (fun W (hW : Ext (fun _ => False) w W) => Point_any W _ _ p x L (hp.keep hW) (hl.keep hW) hn0)
  obtain ⟨vv, rv, rfl, -, -⟩ := hp
  have hx := ((Ext.refl (fun _ => False) w).alloc (.cells #[vv, rv] 25)).alloc (.cells #[.string r.name, .int .i64 r.group, .int .i64 r.kind, .slice ta r.terms.length tc, .int .i64 r.bound] 58)
  have hle := Nat.mul_le_mul_right (L + 3) hT
  have HDo := Lib.hid (fun W u (hW : Ext (fun _ => False) w W) (hu : Rats W u (listTo p.vars.length fun i => atQ x i) L) => Dot4_any W _ u r.terms _ L (ht.keep hW) hu h1 (by omega))
  rw [dot_point] at HDo
  have hpz : ∀ i : Int, Sz (atQ (clipQ p x) i) L := fun i => by
    obtain ⟨yo, yc, e, _⟩ := hl.shape
    rw [e] at hl
    unfold clipQ
    by_cases h : p.vars.length ≤ x.length
    · exact (hl.take p.vars.length h).sz h1 i
    · rw [List.take_of_length_le (by omega)]; exact hl.sz h1 i
  have hdz := dot_sz (x := clipQ p x) (L := L) (T := T) (fun k hk => ht.ok k hk) hpz hT
  have HF := Lib.hid (fun W => Rrfrom_any W r.bound hok.bound.1 hok.bound.2)
  have HC := Lib.hid (fun W u u' (hu : IsRat W u (dotQ r.terms (clipQ p x))) (hu' : IsRat W u' ((r.bound : Int) : Rat)) => Rrcmp_any W u u' _ _ 1000002 (hu.reads (hdz.mono (by omega))) (hu'.reads ((Sz.int hok.bound).mono (by omega))) (by omega) (by omega))
  have HR0 := Lib.hid (show holdsB r (clipQ p x) = _ from kind_sign)
  have hk0 := hok.kind
  clear hl ht hok hdz hpz hle
  generalize listTo p.vars.length (fun i => atQ x i) = pt at *
  generalize dotQ r.terms (clipQ p x) = D at *
  generalize hZ : (D - (r.bound : Rat)).num.sign = sg at *
  have HR := HR0
  clear hZ HR0
  generalize r.terms.length = tl at *
  generalize r.name = nm at *
  generalize r.group = gr at *
  generalize ((r.bound : Int) : Rat) = bq at *
  generalize r.bound = bd at *
  obtain ⟨k, hk⟩ : ∃ k, r.kind = k := ⟨_, rfl⟩
  rw [hk] at HR hk0 hx ⊢
  clear hk
  have hb0 : blk ((w.alloc (.cells #[vv, rv] 25)).alloc (.cells #[.string nm, .int .i64 gr, .int .i64 k, .slice ta tl tc, .int .i64 bd] 58)) w.heap.size = some (.cells #[vv, rv] 25 (0, 0)) := (blk_alloc_past _ _ _ (by simp)).trans (blk_alloc_at _ _)
  have hb1 := blk_alloc_at (w.alloc (.cells #[vv, rv] 25)) (.cells #[.string nm, .int .i64 gr, .int .i64 k, .slice ta tl tc, .int .i64 bd] 58)
  rw [World.size_alloc] at hb1
  have HB := Lib.hid (And.intro hb0 (And.intro hb1 hx))
  clear hb0 hb1 hx
  go_enter Tryz.func59, Tryz.ntmps59
  go_upto_region 1 with fail
  generalize hw1 : (w.alloc (.cells #[vv, rv] 25)).alloc (.cells #[.string nm, .int .i64 gr, .int .i64 k, .slice ta tl tc, .int .i64 bd] 58) = w1 at *
  clear hw1
  obtain ⟨pb, hpb⟩ : ∃ pb, w.heap.size = pb := ⟨_, rfl⟩
  obtain ⟨rb, hrb⟩ : ∃ rb, pb + 1 = rb := ⟨_, rfl⟩
  rw [hpb, hrb] at HB ⊢
  clear hpb hrb
  have hS : S4 pb pb rb rb 0 1 3 4 vv rv (.slice ta tl tc) (.int .i64 bd) w1 := ⟨cellq HB.out.1 0 rfl, cellq HB.out.1 1 rfl, cellq HB.out.2.1 3 rfl, cellq HB.out.2.1 4 rfl⟩
  have hxw := HB.out.2.2
  have HD := Lib.hid (fun W u (hW : Ext (fun _ => False) w1 W) hu => HDo.out W u (HB.out.2.2.trans hW) hu)
  refine wp_region_held_drew (S := (S4 pb pb rb rb 0 1 3 4 vv rv (.slice ta tl tc) (.int .i64 bd))) (by kernel_rfl) (hS.drew) (fun hHeld => ?_)
  refine held_take 0 (v := ?_) rfl (by kernel_rfl) (by kernel_rfl) (by kernel_rfl) (fun _ _ _ h => h) (by rfl) ?_ (by assumption) ?_
  rotate_left
  · ((intro w hSw; (try dsimp only at hSw); go_simp) <;> with_reducible rfl)
  (try simp only [Act.put, List.setIfInBounds_toArray, List.set_cons_zero, List.set_cons_succ])
  refine held_take 1 (v := ?_) rfl (by kernel_rfl) (by kernel_rfl) (by kernel_rfl) (fun _ _ _ h => h) (by rfl) ?_ (by assumption) ?_
  rotate_left
  · ((intro w hSw; (try dsimp only at hSw); go_simp) <;> with_reducible rfl)
  (try simp only [Act.put, List.setIfInBounds_toArray, List.set_cons_zero, List.set_cons_succ])
  refine held_take 2 (v := ?_) rfl (by kernel_rfl) (by kernel_rfl) (by kernel_rfl) (fun _ _ _ h => h) (by rfl) ?_ (by assumption) ?_
  rotate_left
  · ((intro w hSw; (try dsimp only at hSw); go_simp) <;> with_reducible rfl)
  (try simp only [Act.put, List.setIfInBounds_toArray, List.set_cons_zero, List.set_cons_succ])
  refine held_take 3 (v := ?_) rfl (by kernel_rfl) (by kernel_rfl) (by kernel_rfl) (fun _ _ _ h => h) (by rfl) ?_ (by assumption) ?_
  rotate_left
  · ((intro w hSw; (try dsimp only at hSw); go_simp) <;> with_reducible rfl)
  (try simp only [Act.put, List.setIfInBounds_toArray, List.set_cons_zero, List.set_cons_succ])
  refine held_take 6 (v := ?_) rfl (by kernel_rfl) (by kernel_rfl) (by kernel_rfl) (fun _ _ _ h => h) (by rfl) ?_ (by assumption) ?_
  rotate_left
  · ((intro w hSw; (try dsimp only at hSw); go_simp) <;> with_reducible rfl)
  (try simp only [Act.put, List.setIfInBounds_toArray, List.set_cons_zero, List.set_cons_succ])
  refine held_take 7 (v := ?_) rfl (by kernel_rfl) (by kernel_rfl) (by kernel_rfl) (fun _ _ _ h => h) (by rfl) ?_ (by assumption) ?_
  rotate_left
  · ((intro w hSw; (try dsimp only at hSw); go_simp) <;> with_reducible rfl)
  (try simp only [Act.put, List.setIfInBounds_toArray, List.set_cons_zero, List.set_cons_succ])
  refine held_step 4 rfl (by kernel_rfl) (fun K hK => ?_)
  (go_simp; go_at_call 111; (with_reducible refine (HPt.out _ (hxw.drew)).mono ?_); rintro q0 w10 ⟨v10, rfl, h10, hx10⟩; have hX0 := (Ext.refl (fun _ => False) w1).drew.trans hx10; have hK0 := hS.keep hX0; have hD := HD.out w10 _ hX0 h10; obtain ⟨zo10, zc10, rfl, -, -, -⟩ := h10.shape)
  refine hK.out _ _ (hK0) (fun hHeld => ?_)
  clear hK K
  (try simp only [Act.put, List.setIfInBounds_toArray, List.set_cons_zero, List.set_cons_succ])
  refine held_step 5 rfl (by kernel_rfl) (fun K hK => ?_)
  (go_simp; go_at_call 110; (with_reducible refine hD.mono ?_); rintro q1 w11 ⟨v11, rfl, h11, hx11⟩; have hX1 := hX0.trans hx11; have hK1 := hS.keep hX1; obtain ⟨n11, a11, l11, c11, a11', l11', c11', rfl⟩ := h11.shape)
  refine hK.out _ _ (hK1) (fun hHeld => ?_)
  clear hK K
  (try simp only [Act.put, List.setIfInBounds_toArray, List.set_cons_zero, List.set_cons_succ])
  refine held_step 8 rfl (by kernel_rfl) (fun K hK => ?_)
  (go_simp; go_at_call 32; (with_reducible refine (HF.out _).mono ?_); rintro q2 w12 ⟨v12, rfl, h12, hx12⟩; have hX2 := hX1.trans hx12; have hK2 := hS.keep hX2; have hC2 := HC.out w12 _ _ (h11.keep hx12) h12; obtain ⟨n12, a12, l12, c12, a12', l12', c12', rfl⟩ := h12.shape)
  refine hK.out _ _ (hK2) (fun hHeld => ?_)
  clear hK K
  (try simp only [Act.put, List.setIfInBounds_toArray, List.set_cons_zero, List.set_cons_succ])
  refine held_step 9 rfl (by kernel_rfl) (fun K hK => ?_)
  (go_simp; go_at_call 25; (with_reducible refine hC2.mono ?_); rintro q3 w13 ⟨rfl, hx13⟩; have hX3 := hX2.trans hx13; have hK3 := hS.keep hX3)
  refine hK.out _ _ (hK3) (fun hHeld => ?_)
  clear hK K
  (try simp only [Act.put, List.setIfInBounds_toArray, List.set_cons_zero, List.set_cons_succ])
  refine held_take 10 (v := ?_) rfl (by kernel_rfl) (by kernel_rfl) (by kernel_rfl) (fun _ _ _ h => h) (by rfl) ?_ (by assumption) ?_
  rotate_left
  · ((intro w hSw; (try dsimp only at hSw); go_simp) <;> with_reducible rfl)
  (try simp only [Act.put, List.setIfInBounds_toArray, List.set_cons_zero, List.set_cons_succ])
  refine wpAnyH_done (by kernel_rfl) ?_ _
  have e2 := cell_keep (cellq HB.out.2.1 2 rfl) hX3
  have HX := Lib.hid (hxw.trans hX3)
  clear hX0 hX1 hX2 hX3 hK0 hK1 hK2 hK3 hS h10 h11 h12 hx10 hx11 hx12 hx13 hD hC2 hxw HB HD HF HC HPt HDo hHeld
  have hcase : (k = 0 ∧ 0 < sg) ∨ (k = 0 ∧ ¬ 0 < sg) ∨ (k = 1 ∧ sg < 0) ∨ (k = 1 ∧ ¬ sg < 0) ∨ (¬ k = 0 ∧ ¬ k = 1 ∧ ¬ sg = 0) ∨ (¬ k = 0 ∧ ¬ k = 1 ∧ sg = 0) := by omega
  rcases hcase with ⟨rfl, hs⟩ | ⟨rfl, hs⟩ | ⟨rfl, hs⟩ | ⟨rfl, hs⟩ | ⟨hk0', hk1, hs⟩ | ⟨hk0', hk1, hs⟩
  · have s1 : ¬ sg ≤ 0 := by omega
    go_wp2
    go_ret
    exact ⟨ret_bool (by rw [HR.out]; simp [hs]), HX.out⟩
  · have s1 : sg ≤ 0 := by omega
    go_wp2
    go_ret
    exact ⟨ret_bool (by rw [HR.out]; simp [hs]), HX.out⟩
  · have s1 : ¬ 0 ≤ sg := by omega
    go_wp2
    go_ret
    exact ⟨ret_bool (by rw [HR.out]; simp [hs]), HX.out⟩
  · have s1 : 0 ≤ sg := by omega
    go_wp2
    go_ret
    exact ⟨ret_bool (by rw [HR.out]; simp [hs]), HX.out⟩
  · have k1 : (k == 1) = false := by simpa using hk1
    have k2 : (k == 0) = false := by simpa using hk0'
    have s1 : (sg == 0) = false := by simpa using hs
    go_wp2
    go_ret
    exact ⟨ret_bool (by rw [HR.out]; simp [hk0', hk1, hs]), HX.out⟩
  · have k1 : (k == 1) = false := by simpa using hk1
    have k2 : (k == 0) = false := by simpa using hk0'
    subst hs
    go_wp2
    go_ret
    exact ⟨ret_bool (by rw [HR.out]; simp [hk0', hk1]), HX.out⟩
end Go.Proofs.YtbgienfcmdgaaaaGreat
/-
  The reference's Violated, Inside. Conditions: the arguments read as programs, points.
-/
namespace Go.Proofs.YtbgienfcmdgaaaaGreat
open Go.RowKit Go.MapKept
open Go.ChangeMaps (setBlock)

set_option maxRecDepth 100000 in
set_option maxHeartbeats 8000000 in
theorem Violated4_any (w : World) (pv xv : Value) (p : ProgV) (x : List Rat) (L T : Nat) (hp : IsPrg w pv p) (hl : Rats w xv x L) (h1 : 1 ≤ L) (hT : ∀ i, i < p.rows.length → (p.r i).terms.length ≤ T) (hL : 1 + T * (L + 3) + (L + 3) ≤ 1000000) (hn0 : p.vars.length ≤ 1000000) (hm : p.rows.length ≤ 1000000) :
    Calls Tryz.prog 22 #[pv, xv] w (NumsPost w (violQ p x)) := by
  obtain ⟨ti, hi0⟩ := info_parts Tryz.infoInt
  have Hi := Lib.hid hi0
  clear hi0
  have HP := Lib.hid hp
  obtain ⟨vv, rv, rfl, -, hr⟩ := hp
  obtain ⟨ro, rc, rfl, -, hn, -⟩ := hr.shape
  have HV := Lib.hid hr
  have HHo := Lib.hid (fun W (hW : Ext (fun _ => False) w W) i (hi : i < p.rows.length) ta tc (hok : RowOk (p.r i)) (htm : Tms w (.slice ta (p.r i).terms.length tc) (p.r i).terms) => Holds_any W _ _ p (p.r i) x L T ta tc (HP.out.keep hW) hok (htm.keep hW) (hl.keep hW) h1 (hT i hi) hL hn0)
  clear hl hr hT
  obtain ⟨n, hn'⟩ : ∃ n, p.rows.length = n := ⟨_, rfl⟩
  have HN := Lib.hid hn'
  rw [hn'] at hn hm HV HP HHo ⊢
  unfold violQ
  rw [hn']
  have hvl : ∀ i, (violN (fun i => holdsB (p.r i) (clipQ p x)) i).length ≤ i := fun i => by
    induction i with
    | zero => exact Nat.le_refl _
    | succ i ih =>
      unfold violN
      split
      · omega
      · rw [List.length_append]; simp; exact ih
  have HVL := Lib.hid hvl
  clear hn' hvl HP
  have hb1 : blk ((w.alloc (.cells #[vv, .slice ro n rc] 25)).alloc (.cells #[] 3)) w.heap.size = some (.cells #[vv, .slice ro n rc] 25 (0, 0)) := (blk_alloc_past _ _ _ (by simp)).trans (blk_alloc_at _ _)
  have hb2 := blk_alloc_at (w.alloc (.cells #[vv, .slice ro n rc] 25)) (.cells #[] 3)
  rw [World.size_alloc] at hb2
  have HB := Lib.hid (And.intro hb1 (And.intro (show NOwn _ (w.heap.size + 1) (.slice (some ⟨w.heap.size + 1, 0, none⟩) 0 0) [] from ownsRow_empty 1 (Nat.le_refl _) hb2) (((Ext.refl (fun _ => False) w).alloc (.cells #[vv, .slice ro n rc] 25)).alloc (.cells #[] 3))))
  clear hb1 hb2
  go_enter Tryz.func22, Tryz.ntmps22
  go_upto_region 2 with fail
  generalize hw1 : (w.alloc (.cells #[vv, .slice ro n rc] 25)).alloc (.cells #[] 3) = w1 at *
  clear hw1
  obtain ⟨pb, hpb⟩ : ∃ pb, w.heap.size = pb := ⟨_, rfl⟩
  have HPB := Lib.hid hpb
  rw [hpb] at HB ⊢
  clear hpb
  have z0 := cellq HB.out.1 0 rfl
  have z1 := cellq HB.out.1 1 rfl
  go_wp2_with fail
  go_loopg [6, 5] n (fun gg v6 v5 wr => ∃ (i : Nat) (ov : Value), i ≤ n ∧ gg = n - i ∧ v6 = .int .i64 i ∧ v5 = ov ∧ NOwn wr (pb + 1) ov (violN (fun i => holdsB (p.r i) (clipQ p x)) i) ∧ (wr.cell? ⟨pb, 0, none⟩ = some vv ∧ wr.cell? ⟨pb, 1, none⟩ = some (.slice ro n rc)) ∧ Ext (fun _ => False) w wr)
  case atStart => exact ⟨0, _, Nat.zero_le _, rfl, rfl, rfl, HB.out.2.1, ⟨z0, z1⟩, HB.out.2.2⟩
  case round =>
    clear z0 z1
    obtain ⟨i, ov, hi, rfl, rfl, rfl, ho, ⟨z0, z1⟩, hx⟩ := hrel
    have HX := Lib.hid hx
    obtain ⟨ao, cap, rfl⟩ := ho.shape
    have HO := Lib.hid ho
    obtain ⟨ln, hln⟩ : ∃ ln, (violN (fun i => holdsB (p.r i) (clipQ p x)) i).length = ln := ⟨_, rfl⟩
    have hlni : ln ≤ i := by have := HVL.out i; omega
    have Hlen := Lib.hid hln
    rw [hln] at HO ⊢
    clear hln ho
    by_cases hin : i < n
    · have i0 : (i : Int) < (n : Int) := by omega
      have i1 : (0 : Int) ≤ (i : Int) := by omega
      obtain ⟨b, off, ta, tc, rfl, -, e0, e1, e2, e3, e4, hrok, htm⟩ := HV.out.atp i (by rw [HN.out]; exact hin)
      replace e0 := cell_keep e0 HX.out
      replace e1 := cell_keep e1 HX.out
      replace e2 := cell_keep e2 HX.out
      replace e3 := cell_keep e3 HX.out
      replace e4 := cell_keep e4 HX.out
      have HH := Lib.hid (fun W (hW : Ext (fun _ => False) w W) => HHo.out W hW i hin ta tc hrok htm)
      have HR := Lib.hid (show ∀ b, holdsB (p.r i) (clipQ p x) = b → (if holdsB (p.r i) (clipQ p x) = true then violN (fun i => holdsB (p.r i) (clipQ p x)) i else violN (fun i => holdsB (p.r i) (clipQ p x)) i ++ [i]) = (if b = true then violN (fun i => holdsB (p.r i) (clipQ p x)) i else violN (fun i => holdsB (p.r i) (clipQ p x)) i ++ [i]) from fun b h => by rw [h])
      clear hrok htm
      obtain ⟨hb, hhb⟩ : ∃ hb, holdsB (p.r i) (clipQ p x) = hb := ⟨_, rfl⟩
      rw [hhb] at HH
      have HR2 := Lib.hid (HR.out hb hhb)
      clear hhb HR
      generalize (p.r i).terms.length = tl at *
      generalize (p.r i).name = nm at *
      generalize (p.r i).group = gr at *
      generalize (p.r i).kind = k at *
      generalize (p.r i).bound = bd at *
      have hS : S7 pb pb b b b b b 0 1 (off + i * 5) (off + i * 5 + 1) (off + i * 5 + 2) (off + i * 5 + 3) (off + i * 5 + 4) vv (.slice (some ⟨b, off, none⟩) n rc) (.string nm) (.int .i64 gr) (.int .i64 k) (.slice ta tl tc) (.int .i64 bd) wr := ⟨z0, z1, e0, e1, e2, e3, e4⟩
      have hxw := hx
      clear z0 z1 e0 e1 e2 e3 e4 hx
      go_upto_region 5 with fail
      refine wp_region_held_drew (S := (S7 pb pb b b b b b 0 1 (off + i * 5) (off + i * 5 + 1) (off + i * 5 + 2) (off + i * 5 + 3) (off + i * 5 + 4) vv (.slice (some ⟨b, off, none⟩) n rc) (.string nm) (.int .i64 gr) (.int .i64 k) (.slice ta tl tc) (.int .i64 bd))) (by kernel_rfl) (hS.drew) (fun hHeld => ?_)
      refine held_take 0 (v := ?_) rfl (by kernel_rfl) (by kernel_rfl) (by kernel_rfl) (fun _ _ _ h => h) (by rfl) ?_ (by assumption) ?_
      rotate_left
      · ((intro w hSw; (try dsimp only at hSw); go_simp) <;> with_reducible rfl)
      (try simp only [Act.put, List.setIfInBounds_toArray, List.set_cons_zero, List.set_cons_succ])
      refine held_take 1 (v := ?_) rfl (by kernel_rfl) (by kernel_rfl) (by kernel_rfl) (fun _ _ _ h => h) (by rfl) ?_ (by assumption) ?_
      rotate_left
      · ((intro w hSw; (try dsimp only at hSw); go_simp) <;> with_reducible rfl)
      (try simp only [Act.put, List.setIfInBounds_toArray, List.set_cons_zero, List.set_cons_succ])
      refine held_take 2 (v := ?_) rfl (by kernel_rfl) (by kernel_rfl) (by kernel_rfl) (fun _ _ _ h => h) (by rfl) ?_ (by assumption) ?_
      rotate_left
      · ((intro w hSw; (try dsimp only at hSw); go_simp) <;> with_reducible rfl)
      (try simp only [Act.put, List.setIfInBounds_toArray, List.set_cons_zero, List.set_cons_succ])
      refine held_take 3 (v := ?_) rfl (by kernel_rfl) (by kernel_rfl) (by kernel_rfl) (fun _ _ _ h => h) (by rfl) ?_ (by assumption) ?_
      rotate_left
      · ((intro w hSw; (try dsimp only at hSw); go_simp) <;> with_reducible rfl)
      (try simp only [Act.put, List.setIfInBounds_toArray, List.set_cons_zero, List.set_cons_succ])
      refine held_take 4 (v := ?_) rfl (by kernel_rfl) (by kernel_rfl) (by kernel_rfl) (fun _ _ _ h => h) (by rfl) ?_ (by assumption) ?_
      rotate_left
      · ((intro w hSw; (try dsimp only at hSw); go_simp) <;> with_reducible rfl)
      (try simp only [Act.put, List.setIfInBounds_toArray, List.set_cons_zero, List.set_cons_succ])
      refine held_take 5 (v := ?_) rfl (by kernel_rfl) (by kernel_rfl) (by kernel_rfl) (fun _ _ _ h => h) (by rfl) ?_ (by assumption) ?_
      rotate_left
      · ((intro w hSw; (try dsimp only at hSw); go_simp) <;> with_reducible rfl)
      (try simp only [Act.put, List.setIfInBounds_toArray, List.set_cons_zero, List.set_cons_succ])
      refine held_take 6 (v := ?_) rfl (by kernel_rfl) (by kernel_rfl) (by kernel_rfl) (fun _ _ _ h => h) (by rfl) ?_ (by assumption) ?_
      rotate_left
      · ((intro w hSw; (try dsimp only at hSw); go_simp) <;> with_reducible rfl)
      (try simp only [Act.put, List.setIfInBounds_toArray, List.set_cons_zero, List.set_cons_succ])
      refine held_step 7 rfl (by kernel_rfl) (fun K hK => ?_)
      (go_simp; go_at_call 59; (with_reducible refine (HH.out _ (hxw.drew)).mono ?_); rintro q1 w11 ⟨rfl, hx11⟩; have hX1 := (Ext.refl (fun _ => False) wr).drew.trans hx11; have hK1 := hS.keep hX1)
      refine hK.out _ _ (hK1) (fun hHeld => ?_)
      clear hK K
      (try simp only [Act.put, List.setIfInBounds_toArray, List.set_cons_zero, List.set_cons_succ])
      refine held_take 8 (v := ?_) rfl (by kernel_rfl) (by kernel_rfl) (by kernel_rfl) (fun _ _ _ h => h) (by rfl) ?_ (by assumption) ?_
      rotate_left
      · ((intro w hSw; (try dsimp only at hSw); go_simp) <;> with_reducible rfl)
      (try simp only [Act.put, List.setIfInBounds_toArray, List.set_cons_zero, List.set_cons_succ])
      refine wpAnyH_done (by kernel_rfl) ?_ _
      have y0 := hK1.1
      have y1 := hK1.2.1
      have HXa := Lib.hid (HX.out.trans hX1)
      have hok13 : NOwn w11 (pb + 1) (.slice ao ln cap) (violN (fun i => holdsB (p.r i) (clipQ p x)) i) := HO.out.keep hX1
      clear hX1 hK1 hS hx11 hxw hHeld
      cases hb with
      | true =>
        have HOk := Lib.hid hok13
        have HY := Lib.hid (And.intro y0 y1)
        clear hok13 y0 y1
        go_wp2
        go_roundg (n - (i + 1))
        case measure => omega
        case rel => exact ⟨i + 1, .slice ao ln cap, by omega, rfl, by go_num, rfl, (by show NOwn w11 (pb + 1) _ (if holdsB (p.r i) (clipQ p x) = true then _ else _); rw [HR2.out]; exact HOk.out), HY.out, HXa.out⟩
      | false =>
        have hxa := (Ext.refl (fun _ => False) w11).alloc (.cells #[.int .i64 (i : Int)] 3)
        have HO1 : Hid ((w11.alloc (.cells #[.int .i64 (i : Int)] 3)).ownsRow (pb + 1) 3 1 (.slice ao ln cap) ln ((violN (fun i => holdsB (p.r i) (clipQ p x)) i).map nv)) := Lib.hid (by have := hok13.keep hxa; unfold NOwn at this; rw [Hlen.out] at this; exact this)
        have HGe := Lib.hid (fun g e => (HO1.out.lt g e).1)
        have HY := Lib.hid (And.intro (cell_keep y0 hxa) (cell_keep y1 hxa))
        have HSz := Lib.hid (show pb + 1 ≤ (w11.alloc (.cells #[.int .i64 (i : Int)] 3)).heap.size from (by have := World.block_lt_of_cell? _ _ HY.out.1; exact this))
        clear hok13 hxa y0 y1
        go_wp2_with (at_builtin; refine wpList_append_any rfl (.tmp 24) (.tmp 26) 42 rfl (pb + 1) 3 ti _ 1 8 Tryz.underlying42 Hi.out.1 Hi.out.2.1 Hi.out.2.2.1 Hi.out.2.2.2 rfl (by decide) _ _ _ rfl HO1.out _ 1 1 (fun e => by cases e) [.int .i64 (i : Int)] rfl rfl (.inr ⟨_, rfl, cells_new [.int .i64 (i : Int)] _ rfl⟩) (nv_one _) (by simp only [maxLen]; omega) (by omega) HSz.out ?_; intro v5 w5 hown5 hgrow5 hat5; have HO5 : Hid (NOwn w5 (pb + 1) v5 (violN (fun i => holdsB (p.r i) (clipQ p x)) i ++ [i])) := Lib.hid (nown_app Hlen.out hown5); have HX5 : Hid (Ext (fun _ => False) w w5) := Lib.hid ((HXa.out.alloc (.cells #[.int .i64 (i : Int)] 3)).grown hgrow5 (fun k e h => absurd (HGe.out k e) (by have := HPB.out; omega))); have HY5 : Hid (w5.cell? ⟨pb, 0, none⟩ = some vv ∧ w5.cell? ⟨pb, 1, none⟩ = some (.slice (some ⟨b, off, none⟩) n rc)) := Lib.hid ⟨hgrow5.cell HY.out.1 (fun e => absurd (HGe.out pb e.symm) (by omega)), hgrow5.cell HY.out.2 (fun e => absurd (HGe.out pb e.symm) (by omega))⟩; clear hown5 hgrow5 hat5)
        go_roundg (n - (i + 1))
        case measure => omega
        case rel => exact ⟨i + 1, v5, by omega, rfl, by go_num, rfl, (by show NOwn w5 (pb + 1) v5 (if holdsB (p.r i) (clipQ p x) = true then _ else _); rw [HR2.out]; exact HO5.out), HY5.out, HX5.out⟩
    · obtain rfl : i = n := by omega
      go_wp2
      go_ret
      exact ⟨_, rfl, by have := ownsRow_mono HO.out (show w.heap.size ≤ pb + 1 from by have := HPB.out; omega); exact this, HX.out⟩
set_option maxRecDepth 100000 in
set_option maxHeartbeats 8000000 in
theorem Inside4_any (w : World) (pv xv : Value) (p : ProgV) (x : List Rat) (L : Nat) (hp : IsPrg w pv p) (hy : Rats w xv x L) (h1 : 1 ≤ L) (hL : L ≤ 1000000) :
    Calls Tryz.prog 21 #[pv, xv] w (BoolPost w (insideB p x)) := by
  obtain ⟨vv, rv, rfl, hr, -⟩ := hp
  obtain ⟨vo, vc, rfl, -, hn, -⟩ := hr.shape
  have HV := Lib.hid hr
  have HA := Lib.hid (fun W (hW : Ext (fun _ => False) w W) (i : Nat) => At_any W _ x L (hy.keep hW) i)
  have HC := Lib.hid (fun W u u' q (k : Int) (hk : InR k) (hu : Rrat W u q L) (hu' : IsRat W u' (k : Rat)) => Rrcmp_any W u u' q (k : Rat) (L + 2) (hu.mono (by omega)) (hu'.reads ((Sz.int hk).mono (by omega))) (by omega) (by omega))
  clear hr hy
  obtain ⟨n, hn'⟩ : ∃ n, p.vars.length = n := ⟨_, rfl⟩
  have HN := Lib.hid hn'
  rw [hn'] at hn ⊢ HV
  clear hn'
  have HB := Lib.hid (And.intro (blk_alloc_at w (.cells #[.slice vo n vc, rv] 25)) ((Ext.refl (fun _ => False) w).alloc (.cells #[.slice vo n vc, rv] 25)))
  go_enter Tryz.func21, Tryz.ntmps21
  go_upto_region 1 with fail
  generalize hw1 : w.alloc (.cells #[.slice vo n vc, rv] 25) = w1 at *
  clear hw1
  obtain ⟨pb, hpb⟩ : ∃ pb, w.heap.size = pb := ⟨_, rfl⟩
  rw [hpb] at HB ⊢
  clear hpb
  have z0 := cellq HB.out.1 0 rfl
  go_wp2_with fail
  go_loopg [5] n (fun gg v5 wr => ∃ i : Nat, i ≤ n ∧ gg = n - i ∧ v5 = .int .i64 i ∧ allTo i (insB p x) = true ∧ wr.cell? ⟨pb, 0, none⟩ = some (.slice vo n vc) ∧ Ext (fun _ => False) w wr)
  case atStart => exact ⟨0, Nat.zero_le _, rfl, rfl, rfl, z0, HB.out.2⟩
  case round =>
    clear z0
    obtain ⟨i, hi, rfl, rfl, hall, z0, hx⟩ := hrel
    have HX := Lib.hid hall
    clear hall
    by_cases hin : i < n
    · have i0 : (i : Int) < (n : Int) := by omega
      have i1 : (0 : Int) ≤ (i : Int) := by omega
      obtain ⟨b, off, rfl, -, e0, e1, e2, e3, e4, hok⟩ := (HV.out.keep hx).atp i (by rw [HN.out]; exact hin)
      have HAi := Lib.hid (fun W (hW : Ext (fun _ => False) w W) => HA.out W hW i)
      have hb3 := BoxV.new wr (p.v i)
      have hx3 := (Ext.refl (fun _ => False) wr).alloc (.cells #[.int .i64 (p.v i).lo, .int .i64 (p.v i).up, .bool (p.v i).op, .bool (p.v i).ig, .int .i64 (p.v i).co] 63)
      have HR := Lib.hid (insB_sign p x i)
      go_upto_region 5 with fail
      generalize hw3 : wr.alloc (.cells #[.int .i64 (p.v i).lo, .int .i64 (p.v i).up, .bool (p.v i).op, .bool (p.v i).ig, .int .i64 (p.v i).co] 63) = w3 at *
      clear hw3 e0 e1 e2 e3 e4
      obtain ⟨vb, hvb⟩ : ∃ vb, wr.heap.size = vb := ⟨_, rfl⟩
      rw [hvb] at hb3 ⊢
      clear hvb
      obtain ⟨f0, f1, f2, -, -⟩ := hb3.facts
      have hS : S3 vb vb vb 0 1 2 (.int .i64 (p.v i).lo) (.int .i64 (p.v i).up) (.bool (p.v i).op) w3 := ⟨f0, f1, f2⟩
      have HF1 := Lib.hid (fun W => Rrfrom_any W (p.v i).lo hok.lo.1 hok.lo.2)
      have HF2 := Lib.hid (fun W => Rrfrom_any W (p.v i).up hok.up.1 hok.up.2)
      have HC1 := Lib.hid (fun W u u' hu hu' => HC.out W u u' (atQ x i) _ hok.lo hu hu')
      have HC2 := Lib.hid (fun W u u' hu hu' => HC.out W u u' (atQ x i) _ hok.up hu hu')
      have hxw := hx.trans hx3
      clear f0 f1 f2 hb3 hok hx
      generalize (atQ x i - ((p.v i).lo : Rat)).num.sign = s1 at *
      generalize (atQ x i - ((p.v i).up : Rat)).num.sign = s2 at *
      generalize ((p.v i).lo : Rat) = lq at *
      generalize ((p.v i).up : Rat) = uq at *
      generalize (p.v i).lo = lo at *
      generalize (p.v i).up = up at *
      generalize (p.v i).op = o at *
      have hcase : s1 < 0 ∨ (¬ s1 < 0 ∧ o = true) ∨ (¬ s1 < 0 ∧ o = false ∧ 0 < s2) ∨ (¬ s1 < 0 ∧ o = false ∧ ¬ 0 < s2) := by cases o <;> simp <;> omega
      rcases hcase with hs | ⟨hs, rfl⟩ | ⟨hs0, rfl, hs⟩ | ⟨hs0, rfl, hs⟩
      · have hd : decide (s1 < 0) = true := decide_eq_true hs
        refine wp_region_held_drew (S := (S3 vb vb vb 0 1 2 (.int .i64 lo) (.int .i64 up) (.bool o))) (by kernel_rfl) (hS.drew) (fun hHeld => ?_)
        refine held_take 0 (v := ?_) rfl (by kernel_rfl) (by kernel_rfl) (by kernel_rfl) (fun _ _ _ h => h) (by rfl) ?_ (by assumption) ?_
        rotate_left
        · ((intro w hSw; (try dsimp only at hSw); go_simp) <;> with_reducible rfl)
        (try simp only [Act.put, List.setIfInBounds_toArray, List.set_cons_zero, List.set_cons_succ])
        refine held_take 1 (v := ?_) rfl (by kernel_rfl) (by kernel_rfl) (by kernel_rfl) (fun _ _ _ h => h) (by rfl) ?_ (by assumption) ?_
        rotate_left
        · ((intro w hSw; (try dsimp only at hSw); go_simp) <;> with_reducible rfl)
        (try simp only [Act.put, List.setIfInBounds_toArray, List.set_cons_zero, List.set_cons_succ])
        refine held_take 3 (v := ?_) rfl (by kernel_rfl) (by kernel_rfl) (by kernel_rfl) (fun _ _ _ h => h) (by rfl) ?_ (by assumption) ?_
        rotate_left
        · ((intro w hSw; (try dsimp only at hSw); go_simp) <;> with_reducible rfl)
        (try simp only [Act.put, List.setIfInBounds_toArray, List.set_cons_zero, List.set_cons_succ])
        refine held_take 4 (v := ?_) rfl (by kernel_rfl) (by kernel_rfl) (by kernel_rfl) (fun _ _ _ h => h) (by rfl) ?_ (by assumption) ?_
        rotate_left
        · ((intro w hSw; (try dsimp only at hSw); go_simp) <;> with_reducible rfl)
        (try simp only [Act.put, List.setIfInBounds_toArray, List.set_cons_zero, List.set_cons_succ])
        refine held_step 2 rfl (by kernel_rfl) (fun K hK => ?_)
        (go_simp; go_at_call 30; (with_reducible refine (HAi.out _ (hxw.drew)).mono ?_); rintro q0 w10 ⟨v10, rfl, h10, hx10⟩; have hX0 := (Ext.refl (fun _ => False) w3).drew.trans hx10; have hK0 := hS.keep hX0; obtain ⟨n10, a10, l10, c10, a10', l10', c10', rfl⟩ := h10.shape)
        refine hK.out _ _ (hK0) (fun hHeld => ?_)
        clear hK K
        (try simp only [Act.put, List.setIfInBounds_toArray, List.set_cons_zero, List.set_cons_succ])
        refine held_step 5 rfl (by kernel_rfl) (fun K hK => ?_)
        (go_simp; go_at_call 32; (with_reducible refine (HF1.out _).mono ?_); rintro q1 w11 ⟨v11, rfl, h11, hx11⟩; have hX1 := hX0.trans hx11; have hK1 := hS.keep hX1; have hC1 := HC1.out w11 _ _ (h10.keep hx11) h11; obtain ⟨n11, a11, l11, c11, a11', l11', c11', rfl⟩ := h11.shape)
        refine hK.out _ _ (hK1) (fun hHeld => ?_)
        clear hK K
        (try simp only [Act.put, List.setIfInBounds_toArray, List.set_cons_zero, List.set_cons_succ])
        refine held_step 6 rfl (by kernel_rfl) (fun K hK => ?_)
        (go_simp; go_at_call 25; (with_reducible refine hC1.mono ?_); rintro q2 w12 ⟨rfl, hx12⟩; have hX2 := hX1.trans hx12; have hK2 := hS.keep hX2)
        refine hK.out _ _ (hK2) (fun hHeld => ?_)
        clear hK K
        (try simp only [Act.put, List.setIfInBounds_toArray, List.set_cons_zero, List.set_cons_succ])
        refine held_take 7 (v := ?_) rfl (by kernel_rfl) (by kernel_rfl) (by kernel_rfl) (fun _ _ _ h => h) (by rfl) ?_ (by assumption) ?_
        rotate_left
        · ((intro w hSw; (try dsimp only at hSw); go_simp) <;> with_reducible rfl)
        (try simp only [Act.put, List.setIfInBounds_toArray, List.set_cons_zero, List.set_cons_succ])
        refine held_take 8 (v := ?_) rfl (by kernel_rfl) (by kernel_rfl) (by kernel_rfl) (fun _ _ _ h => h) (by rfl) ?_ (by assumption) ?_
        rotate_left
        · ((intro w hSw; (try dsimp only at hSw); go_simp) <;> with_reducible rfl)
        (try simp only [Act.put, List.setIfInBounds_toArray, List.set_cons_zero, List.set_cons_succ])
        refine held_skip 9 rfl (by kernel_rfl) (by kernel_rfl) (by kernel_rfl) (fun _ _ _ h => h) (by rfl) (by assumption) ?_
        (try simp only [Act.put, List.setIfInBounds_toArray, List.set_cons_zero, List.set_cons_succ])
        refine held_skip 10 rfl (by kernel_rfl) (by kernel_rfl) (by kernel_rfl) (fun _ _ _ h => h) (by rfl) (by assumption) ?_
        (try simp only [Act.put, List.setIfInBounds_toArray, List.set_cons_zero, List.set_cons_succ])
        refine held_skip 11 rfl (by kernel_rfl) (by kernel_rfl) (by kernel_rfl) (fun _ _ _ h => h) (by rfl) (by assumption) ?_
        (try simp only [Act.put, List.setIfInBounds_toArray, List.set_cons_zero, List.set_cons_succ])
        refine held_skip 12 rfl (by kernel_rfl) (by kernel_rfl) (by kernel_rfl) (fun _ _ _ h => h) (by rfl) (by assumption) ?_
        (try simp only [Act.put, List.setIfInBounds_toArray, List.set_cons_zero, List.set_cons_succ])
        refine held_skip 13 rfl (by kernel_rfl) (by kernel_rfl) (by kernel_rfl) (fun _ _ _ h => h) (by rfl) (by assumption) ?_
        (try simp only [Act.put, List.setIfInBounds_toArray, List.set_cons_zero, List.set_cons_succ])
        refine held_skip 14 rfl (by kernel_rfl) (by kernel_rfl) (by kernel_rfl) (fun _ _ _ h => h) (by rfl) (by assumption) ?_
        (try simp only [Act.put, List.setIfInBounds_toArray, List.set_cons_zero, List.set_cons_succ])
        refine held_skip 15 rfl (by kernel_rfl) (by kernel_rfl) (by kernel_rfl) (fun _ _ _ h => h) (by rfl) (by assumption) ?_
        (try simp only [Act.put, List.setIfInBounds_toArray, List.set_cons_zero, List.set_cons_succ])
        refine held_skip 16 rfl (by kernel_rfl) (by kernel_rfl) (by kernel_rfl) (fun _ _ _ h => h) (by rfl) (by assumption) ?_
        (try simp only [Act.put, List.setIfInBounds_toArray, List.set_cons_zero, List.set_cons_succ])
        refine held_skip 17 rfl (by kernel_rfl) (by kernel_rfl) (by kernel_rfl) (fun _ _ _ h => h) (by rfl) (by assumption) ?_
        (try simp only [Act.put, List.setIfInBounds_toArray, List.set_cons_zero, List.set_cons_succ])
        refine held_skip 18 rfl (by kernel_rfl) (by kernel_rfl) (by kernel_rfl) (fun _ _ _ h => h) (by rfl) (by assumption) ?_
        (try simp only [Act.put, List.setIfInBounds_toArray, List.set_cons_zero, List.set_cons_succ])
        refine held_skip 19 rfl (by kernel_rfl) (by kernel_rfl) (by kernel_rfl) (fun _ _ _ h => h) (by rfl) (by assumption) ?_
        (try simp only [Act.put, List.setIfInBounds_toArray, List.set_cons_zero, List.set_cons_succ])
        refine held_skip 20 rfl (by kernel_rfl) (by kernel_rfl) (by kernel_rfl) (fun _ _ _ h => h) (by rfl) (by assumption) ?_
        (try simp only [Act.put, List.setIfInBounds_toArray, List.set_cons_zero, List.set_cons_succ])
        refine held_skip 21 rfl (by kernel_rfl) (by kernel_rfl) (by kernel_rfl) (fun _ _ _ h => h) (by rfl) (by assumption) ?_
        (try simp only [Act.put, List.setIfInBounds_toArray, List.set_cons_zero, List.set_cons_succ])
        refine held_take 22 (v := ?_) rfl (by kernel_rfl) (by kernel_rfl) (by kernel_rfl) (fun _ _ _ h => h) (by rfl) ?_ (by assumption) ?_
        rotate_left
        · ((intro w hSw; (try dsimp only at hSw); go_simp) <;> with_reducible rfl)
        (try simp only [Act.put, List.setIfInBounds_toArray, List.set_cons_zero, List.set_cons_succ])
        refine wpAnyH_done (by kernel_rfl) ?_ _
        have HXX := Lib.hid (hxw.trans hX2)
        have z0' := cell_keep (cell_keep z0 hx3) hX2
        clear hX0 hX1 hX2 h10 h11 hx10 hx11 hx12 hC1 hK0 hK1 hK2 hS hHeld hxw z0 hx3
        go_wp2
        go_ret
        exact ⟨ret_bool (allTo_false (f := insB p x) (i := i) (by rw [HN.out]; exact hin) (by rw [HR.out]; simp [hs])).symm, HXX.out⟩
      · have hd : decide (s1 < 0) = false := decide_eq_false hs
        refine wp_region_held_drew (S := (S3 vb vb vb 0 1 2 (.int .i64 lo) (.int .i64 up) (.bool true))) (by kernel_rfl) (hS.drew) (fun hHeld => ?_)
        refine held_take 0 (v := ?_) rfl (by kernel_rfl) (by kernel_rfl) (by kernel_rfl) (fun _ _ _ h => h) (by rfl) ?_ (by assumption) ?_
        rotate_left
        · ((intro w hSw; (try dsimp only at hSw); go_simp) <;> with_reducible rfl)
        (try simp only [Act.put, List.setIfInBounds_toArray, List.set_cons_zero, List.set_cons_succ])
        refine held_take 1 (v := ?_) rfl (by kernel_rfl) (by kernel_rfl) (by kernel_rfl) (fun _ _ _ h => h) (by rfl) ?_ (by assumption) ?_
        rotate_left
        · ((intro w hSw; (try dsimp only at hSw); go_simp) <;> with_reducible rfl)
        (try simp only [Act.put, List.setIfInBounds_toArray, List.set_cons_zero, List.set_cons_succ])
        refine held_take 3 (v := ?_) rfl (by kernel_rfl) (by kernel_rfl) (by kernel_rfl) (fun _ _ _ h => h) (by rfl) ?_ (by assumption) ?_
        rotate_left
        · ((intro w hSw; (try dsimp only at hSw); go_simp) <;> with_reducible rfl)
        (try simp only [Act.put, List.setIfInBounds_toArray, List.set_cons_zero, List.set_cons_succ])
        refine held_take 4 (v := ?_) rfl (by kernel_rfl) (by kernel_rfl) (by kernel_rfl) (fun _ _ _ h => h) (by rfl) ?_ (by assumption) ?_
        rotate_left
        · ((intro w hSw; (try dsimp only at hSw); go_simp) <;> with_reducible rfl)
        (try simp only [Act.put, List.setIfInBounds_toArray, List.set_cons_zero, List.set_cons_succ])
        refine held_step 2 rfl (by kernel_rfl) (fun K hK => ?_)
        (go_simp; go_at_call 30; (with_reducible refine (HAi.out _ (hxw.drew)).mono ?_); rintro q0 w10 ⟨v10, rfl, h10, hx10⟩; have hX0 := (Ext.refl (fun _ => False) w3).drew.trans hx10; have hK0 := hS.keep hX0; obtain ⟨n10, a10, l10, c10, a10', l10', c10', rfl⟩ := h10.shape)
        refine hK.out _ _ (hK0) (fun hHeld => ?_)
        clear hK K
        (try simp only [Act.put, List.setIfInBounds_toArray, List.set_cons_zero, List.set_cons_succ])
        refine held_step 5 rfl (by kernel_rfl) (fun K hK => ?_)
        (go_simp; go_at_call 32; (with_reducible refine (HF1.out _).mono ?_); rintro q1 w11 ⟨v11, rfl, h11, hx11⟩; have hX1 := hX0.trans hx11; have hK1 := hS.keep hX1; have hC1 := HC1.out w11 _ _ (h10.keep hx11) h11; obtain ⟨n11, a11, l11, c11, a11', l11', c11', rfl⟩ := h11.shape)
        refine hK.out _ _ (hK1) (fun hHeld => ?_)
        clear hK K
        (try simp only [Act.put, List.setIfInBounds_toArray, List.set_cons_zero, List.set_cons_succ])
        refine held_step 6 rfl (by kernel_rfl) (fun K hK => ?_)
        (go_simp; go_at_call 25; (with_reducible refine hC1.mono ?_); rintro q2 w12 ⟨rfl, hx12⟩; have hX2 := hX1.trans hx12; have hK2 := hS.keep hX2)
        refine hK.out _ _ (hK2) (fun hHeld => ?_)
        clear hK K
        (try simp only [Act.put, List.setIfInBounds_toArray, List.set_cons_zero, List.set_cons_succ])
        refine held_take 7 (v := ?_) rfl (by kernel_rfl) (by kernel_rfl) (by kernel_rfl) (fun _ _ _ h => h) (by rfl) ?_ (by assumption) ?_
        rotate_left
        · ((intro w hSw; (try dsimp only at hSw); go_simp) <;> with_reducible rfl)
        (try simp only [Act.put, List.setIfInBounds_toArray, List.set_cons_zero, List.set_cons_succ])
        refine held_take 8 (v := ?_) rfl (by kernel_rfl) (by kernel_rfl) (by kernel_rfl) (fun _ _ _ h => h) (by rfl) ?_ (by assumption) ?_
        rotate_left
        · ((intro w hSw; (try dsimp only at hSw); go_simp) <;> with_reducible rfl)
        (try simp only [Act.put, List.setIfInBounds_toArray, List.set_cons_zero, List.set_cons_succ])
        refine held_take 9 (v := ?_) rfl (by kernel_rfl) (by kernel_rfl) (by kernel_rfl) (fun _ _ _ h => h) (by rfl) ?_ (by assumption) ?_
        rotate_left
        · ((intro w hSw; (try dsimp only at hSw); go_simp) <;> with_reducible rfl)
        (try simp only [Act.put, List.setIfInBounds_toArray, List.set_cons_zero, List.set_cons_succ])
        refine held_take 10 (v := ?_) rfl (by kernel_rfl) (by kernel_rfl) (by kernel_rfl) (fun _ _ _ h => h) (by rfl) ?_ (by assumption) ?_
        rotate_left
        · ((intro w hSw; (try dsimp only at hSw); go_simp) <;> with_reducible rfl)
        (try simp only [Act.put, List.setIfInBounds_toArray, List.set_cons_zero, List.set_cons_succ])
        refine held_take 11 (v := ?_) rfl (by kernel_rfl) (by kernel_rfl) (by kernel_rfl) (fun _ _ _ h => h) (by rfl) ?_ (by assumption) ?_
        rotate_left
        · ((intro w hSw; (try dsimp only at hSw); go_simp) <;> with_reducible rfl)
        (try simp only [Act.put, List.setIfInBounds_toArray, List.set_cons_zero, List.set_cons_succ])
        refine held_take 12 (v := ?_) rfl (by kernel_rfl) (by kernel_rfl) (by kernel_rfl) (fun _ _ _ h => h) (by rfl) ?_ (by assumption) ?_
        rotate_left
        · ((intro w hSw; (try dsimp only at hSw); go_simp) <;> with_reducible rfl)
        (try simp only [Act.put, List.setIfInBounds_toArray, List.set_cons_zero, List.set_cons_succ])
        refine held_skip 13 rfl (by kernel_rfl) (by kernel_rfl) (by kernel_rfl) (fun _ _ _ h => h) (by rfl) (by assumption) ?_
        (try simp only [Act.put, List.setIfInBounds_toArray, List.set_cons_zero, List.set_cons_succ])
        refine held_skip 14 rfl (by kernel_rfl) (by kernel_rfl) (by kernel_rfl) (fun _ _ _ h => h) (by rfl) (by assumption) ?_
        (try simp only [Act.put, List.setIfInBounds_toArray, List.set_cons_zero, List.set_cons_succ])
        refine held_skip 15 rfl (by kernel_rfl) (by kernel_rfl) (by kernel_rfl) (fun _ _ _ h => h) (by rfl) (by assumption) ?_
        (try simp only [Act.put, List.setIfInBounds_toArray, List.set_cons_zero, List.set_cons_succ])
        refine held_skip 16 rfl (by kernel_rfl) (by kernel_rfl) (by kernel_rfl) (fun _ _ _ h => h) (by rfl) (by assumption) ?_
        (try simp only [Act.put, List.setIfInBounds_toArray, List.set_cons_zero, List.set_cons_succ])
        refine held_skip 17 rfl (by kernel_rfl) (by kernel_rfl) (by kernel_rfl) (fun _ _ _ h => h) (by rfl) (by assumption) ?_
        (try simp only [Act.put, List.setIfInBounds_toArray, List.set_cons_zero, List.set_cons_succ])
        refine held_skip 18 rfl (by kernel_rfl) (by kernel_rfl) (by kernel_rfl) (fun _ _ _ h => h) (by rfl) (by assumption) ?_
        (try simp only [Act.put, List.setIfInBounds_toArray, List.set_cons_zero, List.set_cons_succ])
        refine held_skip 19 rfl (by kernel_rfl) (by kernel_rfl) (by kernel_rfl) (fun _ _ _ h => h) (by rfl) (by assumption) ?_
        (try simp only [Act.put, List.setIfInBounds_toArray, List.set_cons_zero, List.set_cons_succ])
        refine held_skip 20 rfl (by kernel_rfl) (by kernel_rfl) (by kernel_rfl) (fun _ _ _ h => h) (by rfl) (by assumption) ?_
        (try simp only [Act.put, List.setIfInBounds_toArray, List.set_cons_zero, List.set_cons_succ])
        refine held_take 21 (v := ?_) rfl (by kernel_rfl) (by kernel_rfl) (by kernel_rfl) (fun _ _ _ h => h) (by rfl) ?_ (by assumption) ?_
        rotate_left
        · ((intro w hSw; (try dsimp only at hSw); go_simp) <;> with_reducible rfl)
        (try simp only [Act.put, List.setIfInBounds_toArray, List.set_cons_zero, List.set_cons_succ])
        refine held_take 22 (v := ?_) rfl (by kernel_rfl) (by kernel_rfl) (by kernel_rfl) (fun _ _ _ h => h) (by rfl) ?_ (by assumption) ?_
        rotate_left
        · ((intro w hSw; (try dsimp only at hSw); go_simp) <;> with_reducible rfl)
        (try simp only [Act.put, List.setIfInBounds_toArray, List.set_cons_zero, List.set_cons_succ])
        refine wpAnyH_done (by kernel_rfl) ?_ _
        have HXX := Lib.hid (hxw.trans hX2)
        have z0' := cell_keep (cell_keep z0 hx3) hX2
        clear hX0 hX1 hX2 h10 h11 hx10 hx11 hx12 hC1 hK0 hK1 hK2 hS hHeld hxw z0 hx3
        go_wp2
        go_roundg (n - (i + 1))
        case measure => omega
        case rel => exact ⟨i + 1, by omega, rfl, by go_num, allTo_next HX.out (by rw [HR.out]; simp [hs]), z0', HXX.out⟩
      · have hd : decide (s1 < 0) = false := decide_eq_false hs0; have hd2 : decide (0 < s2) = true := decide_eq_true hs
        refine wp_region_held_drew (S := (S3 vb vb vb 0 1 2 (.int .i64 lo) (.int .i64 up) (.bool false))) (by kernel_rfl) (hS.drew) (fun hHeld => ?_)
        refine held_take 0 (v := ?_) rfl (by kernel_rfl) (by kernel_rfl) (by kernel_rfl) (fun _ _ _ h => h) (by rfl) ?_ (by assumption) ?_
        rotate_left
        · ((intro w hSw; (try dsimp only at hSw); go_simp) <;> with_reducible rfl)
        (try simp only [Act.put, List.setIfInBounds_toArray, List.set_cons_zero, List.set_cons_succ])
        refine held_take 1 (v := ?_) rfl (by kernel_rfl) (by kernel_rfl) (by kernel_rfl) (fun _ _ _ h => h) (by rfl) ?_ (by assumption) ?_
        rotate_left
        · ((intro w hSw; (try dsimp only at hSw); go_simp) <;> with_reducible rfl)
        (try simp only [Act.put, List.setIfInBounds_toArray, List.set_cons_zero, List.set_cons_succ])
        refine held_take 3 (v := ?_) rfl (by kernel_rfl) (by kernel_rfl) (by kernel_rfl) (fun _ _ _ h => h) (by rfl) ?_ (by assumption) ?_
        rotate_left
        · ((intro w hSw; (try dsimp only at hSw); go_simp) <;> with_reducible rfl)
        (try simp only [Act.put, List.setIfInBounds_toArray, List.set_cons_zero, List.set_cons_succ])
        refine held_take 4 (v := ?_) rfl (by kernel_rfl) (by kernel_rfl) (by kernel_rfl) (fun _ _ _ h => h) (by rfl) ?_ (by assumption) ?_
        rotate_left
        · ((intro w hSw; (try dsimp only at hSw); go_simp) <;> with_reducible rfl)
        (try simp only [Act.put, List.setIfInBounds_toArray, List.set_cons_zero, List.set_cons_succ])
        refine held_step 2 rfl (by kernel_rfl) (fun K hK => ?_)
        (go_simp; go_at_call 30; (with_reducible refine (HAi.out _ (hxw.drew)).mono ?_); rintro q0 w10 ⟨v10, rfl, h10, hx10⟩; have hX0 := (Ext.refl (fun _ => False) w3).drew.trans hx10; have hK0 := hS.keep hX0; obtain ⟨n10, a10, l10, c10, a10', l10', c10', rfl⟩ := h10.shape)
        refine hK.out _ _ (hK0) (fun hHeld => ?_)
        clear hK K
        (try simp only [Act.put, List.setIfInBounds_toArray, List.set_cons_zero, List.set_cons_succ])
        refine held_step 5 rfl (by kernel_rfl) (fun K hK => ?_)
        (go_simp; go_at_call 32; (with_reducible refine (HF1.out _).mono ?_); rintro q1 w11 ⟨v11, rfl, h11, hx11⟩; have hX1 := hX0.trans hx11; have hK1 := hS.keep hX1; have hC1 := HC1.out w11 _ _ (h10.keep hx11) h11; obtain ⟨n11, a11, l11, c11, a11', l11', c11', rfl⟩ := h11.shape)
        refine hK.out _ _ (hK1) (fun hHeld => ?_)
        clear hK K
        (try simp only [Act.put, List.setIfInBounds_toArray, List.set_cons_zero, List.set_cons_succ])
        refine held_step 6 rfl (by kernel_rfl) (fun K hK => ?_)
        (go_simp; go_at_call 25; (with_reducible refine hC1.mono ?_); rintro q2 w12 ⟨rfl, hx12⟩; have hX2 := hX1.trans hx12; have hK2 := hS.keep hX2)
        refine hK.out _ _ (hK2) (fun hHeld => ?_)
        clear hK K
        (try simp only [Act.put, List.setIfInBounds_toArray, List.set_cons_zero, List.set_cons_succ])
        refine held_take 7 (v := ?_) rfl (by kernel_rfl) (by kernel_rfl) (by kernel_rfl) (fun _ _ _ h => h) (by rfl) ?_ (by assumption) ?_
        rotate_left
        · ((intro w hSw; (try dsimp only at hSw); go_simp) <;> with_reducible rfl)
        (try simp only [Act.put, List.setIfInBounds_toArray, List.set_cons_zero, List.set_cons_succ])
        refine held_take 8 (v := ?_) rfl (by kernel_rfl) (by kernel_rfl) (by kernel_rfl) (fun _ _ _ h => h) (by rfl) ?_ (by assumption) ?_
        rotate_left
        · ((intro w hSw; (try dsimp only at hSw); go_simp) <;> with_reducible rfl)
        (try simp only [Act.put, List.setIfInBounds_toArray, List.set_cons_zero, List.set_cons_succ])
        refine held_take 9 (v := ?_) rfl (by kernel_rfl) (by kernel_rfl) (by kernel_rfl) (fun _ _ _ h => h) (by rfl) ?_ (by assumption) ?_
        rotate_left
        · ((intro w hSw; (try dsimp only at hSw); go_simp) <;> with_reducible rfl)
        (try simp only [Act.put, List.setIfInBounds_toArray, List.set_cons_zero, List.set_cons_succ])
        refine held_take 10 (v := ?_) rfl (by kernel_rfl) (by kernel_rfl) (by kernel_rfl) (fun _ _ _ h => h) (by rfl) ?_ (by assumption) ?_
        rotate_left
        · ((intro w hSw; (try dsimp only at hSw); go_simp) <;> with_reducible rfl)
        (try simp only [Act.put, List.setIfInBounds_toArray, List.set_cons_zero, List.set_cons_succ])
        refine held_take 11 (v := ?_) rfl (by kernel_rfl) (by kernel_rfl) (by kernel_rfl) (fun _ _ _ h => h) (by rfl) ?_ (by assumption) ?_
        rotate_left
        · ((intro w hSw; (try dsimp only at hSw); go_simp) <;> with_reducible rfl)
        (try simp only [Act.put, List.setIfInBounds_toArray, List.set_cons_zero, List.set_cons_succ])
        refine held_take 12 (v := ?_) rfl (by kernel_rfl) (by kernel_rfl) (by kernel_rfl) (fun _ _ _ h => h) (by rfl) ?_ (by assumption) ?_
        rotate_left
        · ((intro w hSw; (try dsimp only at hSw); go_simp) <;> with_reducible rfl)
        (try simp only [Act.put, List.setIfInBounds_toArray, List.set_cons_zero, List.set_cons_succ])
        refine held_take 13 (v := ?_) rfl (by kernel_rfl) (by kernel_rfl) (by kernel_rfl) (fun _ _ _ h => h) (by rfl) ?_ (by assumption) ?_
        rotate_left
        · ((intro w hSw; (try dsimp only at hSw); go_simp) <;> with_reducible rfl)
        (try simp only [Act.put, List.setIfInBounds_toArray, List.set_cons_zero, List.set_cons_succ])
        refine held_take 14 (v := ?_) rfl (by kernel_rfl) (by kernel_rfl) (by kernel_rfl) (fun _ _ _ h => h) (by rfl) ?_ (by assumption) ?_
        rotate_left
        · ((intro w hSw; (try dsimp only at hSw); go_simp) <;> with_reducible rfl)
        (try simp only [Act.put, List.setIfInBounds_toArray, List.set_cons_zero, List.set_cons_succ])
        refine held_take 16 (v := ?_) rfl (by kernel_rfl) (by kernel_rfl) (by kernel_rfl) (fun _ _ _ h => h) (by rfl) ?_ (by assumption) ?_
        rotate_left
        · ((intro w hSw; (try dsimp only at hSw); go_simp) <;> with_reducible rfl)
        (try simp only [Act.put, List.setIfInBounds_toArray, List.set_cons_zero, List.set_cons_succ])
        refine held_take 17 (v := ?_) rfl (by kernel_rfl) (by kernel_rfl) (by kernel_rfl) (fun _ _ _ h => h) (by rfl) ?_ (by assumption) ?_
        rotate_left
        · ((intro w hSw; (try dsimp only at hSw); go_simp) <;> with_reducible rfl)
        (try simp only [Act.put, List.setIfInBounds_toArray, List.set_cons_zero, List.set_cons_succ])
        refine held_step 15 rfl (by kernel_rfl) (fun K hK => ?_)
        (go_simp; go_at_call 30; (with_reducible refine (HAi.out _ (hxw.trans hX2)).mono ?_); rintro q3 w13 ⟨v13, rfl, h13, hx13⟩; have hX3 := hX2.trans hx13; have hK3 := hS.keep hX3; obtain ⟨n13, a13, l13, c13, a13', l13', c13', rfl⟩ := h13.shape)
        refine hK.out _ _ (hK3) (fun hHeld => ?_)
        clear hK K
        (try simp only [Act.put, List.setIfInBounds_toArray, List.set_cons_zero, List.set_cons_succ])
        refine held_step 18 rfl (by kernel_rfl) (fun K hK => ?_)
        (go_simp; go_at_call 32; (with_reducible refine (HF2.out _).mono ?_); rintro q4 w14 ⟨v14, rfl, h14, hx14⟩; have hX4 := hX3.trans hx14; have hK4 := hS.keep hX4; have hC2 := HC2.out w14 _ _ (h13.keep hx14) h14; obtain ⟨n14, a14, l14, c14, a14', l14', c14', rfl⟩ := h14.shape)
        refine hK.out _ _ (hK4) (fun hHeld => ?_)
        clear hK K
        (try simp only [Act.put, List.setIfInBounds_toArray, List.set_cons_zero, List.set_cons_succ])
        refine held_step 19 rfl (by kernel_rfl) (fun K hK => ?_)
        (go_simp; go_at_call 25; (with_reducible refine hC2.mono ?_); rintro q5 w15 ⟨rfl, hx15⟩; have hX5 := hX4.trans hx15; have hK5 := hS.keep hX5)
        refine hK.out _ _ (hK5) (fun hHeld => ?_)
        clear hK K
        (try simp only [Act.put, List.setIfInBounds_toArray, List.set_cons_zero, List.set_cons_succ])
        refine held_take 20 (v := ?_) rfl (by kernel_rfl) (by kernel_rfl) (by kernel_rfl) (fun _ _ _ h => h) (by rfl) ?_ (by assumption) ?_
        rotate_left
        · ((intro w hSw; (try dsimp only at hSw); go_simp) <;> with_reducible rfl)
        (try simp only [Act.put, List.setIfInBounds_toArray, List.set_cons_zero, List.set_cons_succ])
        refine held_take 21 (v := ?_) rfl (by kernel_rfl) (by kernel_rfl) (by kernel_rfl) (fun _ _ _ h => h) (by rfl) ?_ (by assumption) ?_
        rotate_left
        · ((intro w hSw; (try dsimp only at hSw); go_simp) <;> with_reducible rfl)
        (try simp only [Act.put, List.setIfInBounds_toArray, List.set_cons_zero, List.set_cons_succ])
        refine held_take 22 (v := ?_) rfl (by kernel_rfl) (by kernel_rfl) (by kernel_rfl) (fun _ _ _ h => h) (by rfl) ?_ (by assumption) ?_
        rotate_left
        · ((intro w hSw; (try dsimp only at hSw); go_simp) <;> with_reducible rfl)
        (try simp only [Act.put, List.setIfInBounds_toArray, List.set_cons_zero, List.set_cons_succ])
        refine wpAnyH_done (by kernel_rfl) ?_ _
        have HXX := Lib.hid (hxw.trans hX5)
        have z0' := cell_keep (cell_keep z0 hx3) hX5
        clear hX0 hX1 hX2 h10 h11 hx10 hx11 hx12 hC1 hK0 hK1 hK2 hS hHeld hxw z0 hx3 hX3 hX4 hX5 h13 h14 hx13 hx14 hx15 hC2 hK3 hK4 hK5
        go_wp2
        go_ret
        exact ⟨ret_bool (allTo_false (f := insB p x) (i := i) (by rw [HN.out]; exact hin) (by rw [HR.out]; simp [hs])).symm, HXX.out⟩
      · have hd : decide (s1 < 0) = false := decide_eq_false hs0; have hd2 : decide (0 < s2) = false := decide_eq_false hs
        refine wp_region_held_drew (S := (S3 vb vb vb 0 1 2 (.int .i64 lo) (.int .i64 up) (.bool false))) (by kernel_rfl) (hS.drew) (fun hHeld => ?_)
        refine held_take 0 (v := ?_) rfl (by kernel_rfl) (by kernel_rfl) (by kernel_rfl) (fun _ _ _ h => h) (by rfl) ?_ (by assumption) ?_
        rotate_left
        · ((intro w hSw; (try dsimp only at hSw); go_simp) <;> with_reducible rfl)
        (try simp only [Act.put, List.setIfInBounds_toArray, List.set_cons_zero, List.set_cons_succ])
        refine held_take 1 (v := ?_) rfl (by kernel_rfl) (by kernel_rfl) (by kernel_rfl) (fun _ _ _ h => h) (by rfl) ?_ (by assumption) ?_
        rotate_left
        · ((intro w hSw; (try dsimp only at hSw); go_simp) <;> with_reducible rfl)
        (try simp only [Act.put, List.setIfInBounds_toArray, List.set_cons_zero, List.set_cons_succ])
        refine held_take 3 (v := ?_) rfl (by kernel_rfl) (by kernel_rfl) (by kernel_rfl) (fun _ _ _ h => h) (by rfl) ?_ (by assumption) ?_
        rotate_left
        · ((intro w hSw; (try dsimp only at hSw); go_simp) <;> with_reducible rfl)
        (try simp only [Act.put, List.setIfInBounds_toArray, List.set_cons_zero, List.set_cons_succ])
        refine held_take 4 (v := ?_) rfl (by kernel_rfl) (by kernel_rfl) (by kernel_rfl) (fun _ _ _ h => h) (by rfl) ?_ (by assumption) ?_
        rotate_left
        · ((intro w hSw; (try dsimp only at hSw); go_simp) <;> with_reducible rfl)
        (try simp only [Act.put, List.setIfInBounds_toArray, List.set_cons_zero, List.set_cons_succ])
        refine held_step 2 rfl (by kernel_rfl) (fun K hK => ?_)
        (go_simp; go_at_call 30; (with_reducible refine (HAi.out _ (hxw.drew)).mono ?_); rintro q0 w10 ⟨v10, rfl, h10, hx10⟩; have hX0 := (Ext.refl (fun _ => False) w3).drew.trans hx10; have hK0 := hS.keep hX0; obtain ⟨n10, a10, l10, c10, a10', l10', c10', rfl⟩ := h10.shape)
        refine hK.out _ _ (hK0) (fun hHeld => ?_)
        clear hK K
        (try simp only [Act.put, List.setIfInBounds_toArray, List.set_cons_zero, List.set_cons_succ])
        refine held_step 5 rfl (by kernel_rfl) (fun K hK => ?_)
        (go_simp; go_at_call 32; (with_reducible refine (HF1.out _).mono ?_); rintro q1 w11 ⟨v11, rfl, h11, hx11⟩; have hX1 := hX0.trans hx11; have hK1 := hS.keep hX1; have hC1 := HC1.out w11 _ _ (h10.keep hx11) h11; obtain ⟨n11, a11, l11, c11, a11', l11', c11', rfl⟩ := h11.shape)
        refine hK.out _ _ (hK1) (fun hHeld => ?_)
        clear hK K
        (try simp only [Act.put, List.setIfInBounds_toArray, List.set_cons_zero, List.set_cons_succ])
        refine held_step 6 rfl (by kernel_rfl) (fun K hK => ?_)
        (go_simp; go_at_call 25; (with_reducible refine hC1.mono ?_); rintro q2 w12 ⟨rfl, hx12⟩; have hX2 := hX1.trans hx12; have hK2 := hS.keep hX2)
        refine hK.out _ _ (hK2) (fun hHeld => ?_)
        clear hK K
        (try simp only [Act.put, List.setIfInBounds_toArray, List.set_cons_zero, List.set_cons_succ])
        refine held_take 7 (v := ?_) rfl (by kernel_rfl) (by kernel_rfl) (by kernel_rfl) (fun _ _ _ h => h) (by rfl) ?_ (by assumption) ?_
        rotate_left
        · ((intro w hSw; (try dsimp only at hSw); go_simp) <;> with_reducible rfl)
        (try simp only [Act.put, List.setIfInBounds_toArray, List.set_cons_zero, List.set_cons_succ])
        refine held_take 8 (v := ?_) rfl (by kernel_rfl) (by kernel_rfl) (by kernel_rfl) (fun _ _ _ h => h) (by rfl) ?_ (by assumption) ?_
        rotate_left
        · ((intro w hSw; (try dsimp only at hSw); go_simp) <;> with_reducible rfl)
        (try simp only [Act.put, List.setIfInBounds_toArray, List.set_cons_zero, List.set_cons_succ])
        refine held_take 9 (v := ?_) rfl (by kernel_rfl) (by kernel_rfl) (by kernel_rfl) (fun _ _ _ h => h) (by rfl) ?_ (by assumption) ?_
        rotate_left
        · ((intro w hSw; (try dsimp only at hSw); go_simp) <;> with_reducible rfl)
        (try simp only [Act.put, List.setIfInBounds_toArray, List.set_cons_zero, List.set_cons_succ])
        refine held_take 10 (v := ?_) rfl (by kernel_rfl) (by kernel_rfl) (by kernel_rfl) (fun _ _ _ h => h) (by rfl) ?_ (by assumption) ?_
        rotate_left
        · ((intro w hSw; (try dsimp only at hSw); go_simp) <;> with_reducible rfl)
        (try simp only [Act.put, List.setIfInBounds_toArray, List.set_cons_zero, List.set_cons_succ])
        refine held_take 11 (v := ?_) rfl (by kernel_rfl) (by kernel_rfl) (by kernel_rfl) (fun _ _ _ h => h) (by rfl) ?_ (by assumption) ?_
        rotate_left
        · ((intro w hSw; (try dsimp only at hSw); go_simp) <;> with_reducible rfl)
        (try simp only [Act.put, List.setIfInBounds_toArray, List.set_cons_zero, List.set_cons_succ])
        refine held_take 12 (v := ?_) rfl (by kernel_rfl) (by kernel_rfl) (by kernel_rfl) (fun _ _ _ h => h) (by rfl) ?_ (by assumption) ?_
        rotate_left
        · ((intro w hSw; (try dsimp only at hSw); go_simp) <;> with_reducible rfl)
        (try simp only [Act.put, List.setIfInBounds_toArray, List.set_cons_zero, List.set_cons_succ])
        refine held_take 13 (v := ?_) rfl (by kernel_rfl) (by kernel_rfl) (by kernel_rfl) (fun _ _ _ h => h) (by rfl) ?_ (by assumption) ?_
        rotate_left
        · ((intro w hSw; (try dsimp only at hSw); go_simp) <;> with_reducible rfl)
        (try simp only [Act.put, List.setIfInBounds_toArray, List.set_cons_zero, List.set_cons_succ])
        refine held_take 14 (v := ?_) rfl (by kernel_rfl) (by kernel_rfl) (by kernel_rfl) (fun _ _ _ h => h) (by rfl) ?_ (by assumption) ?_
        rotate_left
        · ((intro w hSw; (try dsimp only at hSw); go_simp) <;> with_reducible rfl)
        (try simp only [Act.put, List.setIfInBounds_toArray, List.set_cons_zero, List.set_cons_succ])
        refine held_take 16 (v := ?_) rfl (by kernel_rfl) (by kernel_rfl) (by kernel_rfl) (fun _ _ _ h => h) (by rfl) ?_ (by assumption) ?_
        rotate_left
        · ((intro w hSw; (try dsimp only at hSw); go_simp) <;> with_reducible rfl)
        (try simp only [Act.put, List.setIfInBounds_toArray, List.set_cons_zero, List.set_cons_succ])
        refine held_take 17 (v := ?_) rfl (by kernel_rfl) (by kernel_rfl) (by kernel_rfl) (fun _ _ _ h => h) (by rfl) ?_ (by assumption) ?_
        rotate_left
        · ((intro w hSw; (try dsimp only at hSw); go_simp) <;> with_reducible rfl)
        (try simp only [Act.put, List.setIfInBounds_toArray, List.set_cons_zero, List.set_cons_succ])
        refine held_step 15 rfl (by kernel_rfl) (fun K hK => ?_)
        (go_simp; go_at_call 30; (with_reducible refine (HAi.out _ (hxw.trans hX2)).mono ?_); rintro q3 w13 ⟨v13, rfl, h13, hx13⟩; have hX3 := hX2.trans hx13; have hK3 := hS.keep hX3; obtain ⟨n13, a13, l13, c13, a13', l13', c13', rfl⟩ := h13.shape)
        refine hK.out _ _ (hK3) (fun hHeld => ?_)
        clear hK K
        (try simp only [Act.put, List.setIfInBounds_toArray, List.set_cons_zero, List.set_cons_succ])
        refine held_step 18 rfl (by kernel_rfl) (fun K hK => ?_)
        (go_simp; go_at_call 32; (with_reducible refine (HF2.out _).mono ?_); rintro q4 w14 ⟨v14, rfl, h14, hx14⟩; have hX4 := hX3.trans hx14; have hK4 := hS.keep hX4; have hC2 := HC2.out w14 _ _ (h13.keep hx14) h14; obtain ⟨n14, a14, l14, c14, a14', l14', c14', rfl⟩ := h14.shape)
        refine hK.out _ _ (hK4) (fun hHeld => ?_)
        clear hK K
        (try simp only [Act.put, List.setIfInBounds_toArray, List.set_cons_zero, List.set_cons_succ])
        refine held_step 19 rfl (by kernel_rfl) (fun K hK => ?_)
        (go_simp; go_at_call 25; (with_reducible refine hC2.mono ?_); rintro q5 w15 ⟨rfl, hx15⟩; have hX5 := hX4.trans hx15; have hK5 := hS.keep hX5)
        refine hK.out _ _ (hK5) (fun hHeld => ?_)
        clear hK K
        (try simp only [Act.put, List.setIfInBounds_toArray, List.set_cons_zero, List.set_cons_succ])
        refine held_take 20 (v := ?_) rfl (by kernel_rfl) (by kernel_rfl) (by kernel_rfl) (fun _ _ _ h => h) (by rfl) ?_ (by assumption) ?_
        rotate_left
        · ((intro w hSw; (try dsimp only at hSw); go_simp) <;> with_reducible rfl)
        (try simp only [Act.put, List.setIfInBounds_toArray, List.set_cons_zero, List.set_cons_succ])
        refine held_take 21 (v := ?_) rfl (by kernel_rfl) (by kernel_rfl) (by kernel_rfl) (fun _ _ _ h => h) (by rfl) ?_ (by assumption) ?_
        rotate_left
        · ((intro w hSw; (try dsimp only at hSw); go_simp) <;> with_reducible rfl)
        (try simp only [Act.put, List.setIfInBounds_toArray, List.set_cons_zero, List.set_cons_succ])
        refine held_take 22 (v := ?_) rfl (by kernel_rfl) (by kernel_rfl) (by kernel_rfl) (fun _ _ _ h => h) (by rfl) ?_ (by assumption) ?_
        rotate_left
        · ((intro w hSw; (try dsimp only at hSw); go_simp) <;> with_reducible rfl)
        (try simp only [Act.put, List.setIfInBounds_toArray, List.set_cons_zero, List.set_cons_succ])
        refine wpAnyH_done (by kernel_rfl) ?_ _
        have HXX := Lib.hid (hxw.trans hX5)
        have z0' := cell_keep (cell_keep z0 hx3) hX5
        clear hX0 hX1 hX2 h10 h11 hx10 hx11 hx12 hC1 hK0 hK1 hK2 hS hHeld hxw z0 hx3 hX3 hX4 hX5 h13 h14 hx13 hx14 hx15 hC2 hK3 hK4 hK5
        go_wp2
        go_roundg (n - (i + 1))
        case measure => omega
        case rel => exact ⟨i + 1, by omega, rfl, by go_num, allTo_next HX.out (by rw [HR.out]; simp [hs, hs0]), z0', HXX.out⟩
    · obtain rfl : i = n := by omega
      go_wp2
      go_ret
      exact ⟨ret_bool (by rw [insideB_eq, HN.out]; exact HX.out.symm), hx⟩
end Go.Proofs.YtbgienfcmdgaaaaGreat
/-
  The reference's in and ValidRow. Conditions: the arguments read as rows.
-/
namespace Go.Proofs.YtbgienfcmdgaaaaGreat
open Go.RowKit Go.MapKept Go.Lib
open Go.ChangeMaps (setBlock)

theorem inn_any (w : World) (n : Int) : Calls Tryz.prog 81 #[.int .i64 n] w (BoolPost w (limB n)) := by
  go_enter Tryz.func81, Tryz.ntmps81
  by_cases h1 : -1099511627776 ≤ n
  · by_cases h2 : n ≤ 1099511627776
    · go_wp2
      go_ret
      exact ⟨ret_bool (by simp [limB, h1, h2]), Ext.refl _ _⟩
    · go_wp2
      go_ret
      exact ⟨ret_bool (by simp [limB, h1, h2]), Ext.refl _ _⟩
  · go_wp2
    go_ret
    exact ⟨ret_bool (by unfold limB; rw [decide_eq_false (p := (-1099511627776 ≤ n)) (by omega)]; rfl), Ext.refl _ _⟩
def chB (c : Nat) : Bool := decide (32 ≤ c) && decide (c ≤ 126)
theorem nameB_true {s : ByteArray} (h : ∀ i (hi : i < s.size), chB (s[i]'hi).toNat = true) : nameB s = true := by
  unfold nameB
  rw [ByteArray.toList_eq, List.all_eq_true]
  intro x hx
  obtain ⟨i, hi, rfl⟩ := List.getElem_of_mem hx
  have hi' : i < s.size := by rw [Array.length_toList] at hi; exact hi
  have := h i hi'
  rw [Array.getElem_toList]
  exact this
theorem nameB_false {s : ByteArray} {i : Nat} (hi : i < s.size) (h : chB (s[i]'hi).toNat = false) : nameB s = false := by
  unfold nameB
  rw [ByteArray.toList_eq, List.all_eq_false]
  refine ⟨s[i]'hi, ?_, ?_⟩
  · show s.data[i] ∈ s.data.toList
    simp
  · have : chB (s[i]'hi).toNat ≠ true := by rw [h]; decide
    exact this
set_option maxRecDepth 100000 in
set_option maxHeartbeats 8000000 in
theorem ValidRow_any (w : World) (vars : Nat) (hv : vars ≤ 9223372036854775807) (r : RowV) (ta : Option Addr) (tc : Nat) (hok : RowOk r) (ht : Tms w (.slice ta r.terms.length tc) r.terms) :
    Calls Tryz.prog 34 #[.int .i64 vars, .agg #[.string r.name, .int .i64 r.group, .int .i64 r.kind, .slice ta r.terms.length tc, .int .i64 r.bound]] w (BoolPost w (rowB vars r)) := by
  have hns : r.name.size ≤ 9223372036854775807 := by have := hok.name; unfold maxLen at this; omega
  have hg := hok.group
  have hk := hok.kind
  unfold InR at hg hk
  obtain ⟨-, -, -, -, htn, -⟩ := ht.shape
  have HT := Lib.hid ht
  have HR := Lib.hid (show rowB vars r = (decide (0 ≤ r.kind) && decide (r.kind ≤ 2) && decide (0 ≤ r.group) && decide (r.group ≤ 60) && decide (r.name.size ≤ 80) && limB r.bound && nameB r.name && termsB vars (-1) r.terms) from rfl)
  have hb1 := blk_alloc_at w (.cells #[.string r.name, .int .i64 r.group, .int .i64 r.kind, .slice ta r.terms.length tc, .int .i64 r.bound] 58)
  have hx1 := (Ext.refl (fun _ => False) w).alloc (.cells #[.string r.name, .int .i64 r.group, .int .i64 r.kind, .slice ta r.terms.length tc, .int .i64 r.bound] 58)
  have HB := Lib.hid (And.intro hb1 hx1)
  clear ht hok hb1 hx1
  obtain ⟨tl, htl⟩ : ∃ tl, r.terms.length = tl := ⟨_, rfl⟩
  have HTL := Lib.hid htl
  rw [htl] at htn HT HB ⊢
  clear htl
  obtain ⟨gr, hgr⟩ : ∃ gr, r.group = gr := ⟨_, rfl⟩
  rw [hgr] at hg HR HB ⊢
  clear hgr
  obtain ⟨kd, hkd⟩ : ∃ kd, r.kind = kd := ⟨_, rfl⟩
  rw [hkd] at hk HR HB ⊢
  clear hkd
  obtain ⟨bd, hbd⟩ : ∃ bd, r.bound = bd := ⟨_, rfl⟩
  rw [hbd] at HR HB ⊢
  clear hbd
  obtain ⟨nm, hnm⟩ : ∃ nm, r.name = nm := ⟨_, rfl⟩
  rw [hnm] at hns HR HB ⊢
  clear hnm
  go_enter Tryz.func34, Tryz.ntmps34
  go_upto_region 1 with fail
  generalize hw1 : w.alloc (.cells #[.string nm, .int .i64 gr, .int .i64 kd, .slice ta tl tc, .int .i64 bd] 58) = w1 at *
  clear hw1
  obtain ⟨rb, hrb⟩ : ∃ rb, w.heap.size = rb := ⟨_, rfl⟩
  rw [hrb] at HB ⊢
  clear hrb
  have e0 := cellq HB.out.1 0 rfl
  have e1 := cellq HB.out.1 1 rfl
  have e2 := cellq HB.out.1 2 rfl
  have e4 := cellq HB.out.1 4 rfl
  by_cases c4 : kd < 0
  · go_wp2
    go_ret
    exact ⟨ret_bool (by rw [HR.out, decide_eq_false (p := (0 ≤ kd)) (by omega)]; simp), HB.out.2⟩
  by_cases c5 : 2 < kd
  · go_wp2
    go_ret
    exact ⟨ret_bool (by rw [HR.out, decide_eq_false (p := (kd ≤ 2)) (by omega)]; simp), HB.out.2⟩
  by_cases c2 : gr < 0
  · go_wp2
    go_ret
    exact ⟨ret_bool (by rw [HR.out, decide_eq_false (p := (0 ≤ gr)) (by omega)]; simp), HB.out.2⟩
  by_cases c3 : 60 < gr
  · go_wp2
    go_ret
    exact ⟨ret_bool (by rw [HR.out, decide_eq_false (p := (gr ≤ 60)) (by omega)]; simp), HB.out.2⟩
  by_cases c1 : 80 < nm.size
  · have c1' : (80 : Int) < (nm.size : Int) := by omega
    go_wp2
    go_ret
    exact ⟨ret_bool (by rw [HR.out, decide_eq_false (p := (nm.size ≤ 80)) (by omega)]; simp), HB.out.2⟩
  have c1' : ¬ (80 : Int) < (nm.size : Int) := by omega
  have HR2 : Hid (rowB vars r = (limB bd && nameB nm && termsB vars (-1) r.terms)) := Lib.hid (by
    rw [HR.out, decide_eq_true (p := (0 ≤ kd)) (by omega), decide_eq_true (p := (kd ≤ 2)) (by omega), decide_eq_true (p := (0 ≤ gr)) (by omega), decide_eq_true (p := (gr ≤ 60)) (by omega), decide_eq_true (p := (nm.size ≤ 80)) (by omega)]
    simp)
  clear HR
  go_wp2_with fail
  refine (inn_any w1 bd).mono ?_
  rintro r2 w2 ⟨rfl, hx2⟩
  have HB2 := Lib.hid (And.intro (blk_keep HB.out.1 hx2) (HB.out.2.trans hx2))
  clear hx2 HB e0 e1 e2 e4
  cases hlb : limB bd with
  | false =>
    rw [hlb] at HR2
    clear hlb
    go_wp2
    go_ret
    exact ⟨ret_bool (by rw [HR2.out]; rfl), HB2.out.2⟩
  | true =>
    rw [hlb] at HR2
    clear hlb c1 c1' c2 c3 c4 c5 hg hk
    have e0 := cellq HB2.out.1 0 rfl
    obtain ⟨ns, hnsz⟩ : ∃ ns, nm.size = ns := ⟨_, rfl⟩
    have HNS := Lib.hid hnsz
    go_wp2_with fail
    go_loopg [5] ns (fun gg v5 wr => ∃ (k : Nat), k ≤ ns ∧ gg = ns - k ∧ v5 = .int .i64 k ∧ (∀ j (hj : j < nm.size), j < k → chB (nm[j]'hj).toNat = true) ∧ wr = w2)
    case atStart => exact ⟨0, Nat.zero_le _, rfl, rfl, (fun j _ h => absurd h (Nat.not_lt_zero _)), rfl⟩
    case round =>
      obtain ⟨k, hk, rfl, rfl, hall, hwr⟩ := hrel
      obtain rfl := hwr.symm
      have HA := Lib.hid hall
      clear hall
      by_cases hin : k < ns
      · have i0 : (k : Int) < (nm.size : Int) := by omega
        have i1 : (0 : Int) ≤ (k : Int) := by omega
        have hin' : k < nm.size := by omega
        have HC := Lib.hid (fun (h : chB (nm[k]'hin').toNat = false) => nameB_false hin' h)
        have HC2 : Hid (chB (nm[k]'hin').toNat = true → ∀ j (hj : j < nm.size), j < k + 1 → chB (nm[j]'hj).toNat = true) := Lib.hid (fun h j hj hjk => by
          by_cases e : j = k
          · subst e; exact h
          · exact HA.out j hj (by omega))
        have hch : (nm[k]'hin').toNat < 256 := by have := (nm[k]'hin').toNat_lt; omega
        by_cases t1 : (nm[k]'hin').toNat < 32
        · have t1' : ((nm[k]'hin').toNat : Int) < 32 := by omega
          have HF := Lib.hid (HC.out (by unfold chB; rw [decide_eq_false (by omega)]; rfl))
          go_wp2
          go_ret
          exact ⟨ret_bool (by rw [HR2.out, HF.out]; rfl), HB2.out.2⟩
        have t1' : ¬ ((nm[k]'hin').toNat : Int) < 32 := by omega
        by_cases t2 : 126 < (nm[k]'hin').toNat
        · have t2' : (126 : Int) < ((nm[k]'hin').toNat : Int) := by omega
          have HF := Lib.hid (HC.out (by unfold chB; rw [decide_eq_false (p := ((nm[k]'hin').toNat ≤ 126)) (by omega)]; simp))
          go_wp2
          go_ret
          exact ⟨ret_bool (by rw [HR2.out, HF.out]; rfl), HB2.out.2⟩
        have t2' : ¬ (126 : Int) < ((nm[k]'hin').toNat : Int) := by omega
        have HN := Lib.hid (HC2.out (by unfold chB; rw [decide_eq_true (p := (32 ≤ (nm[k]'hin').toNat)) (by omega), decide_eq_true (p := ((nm[k]'hin').toNat ≤ 126)) (by omega)]; rfl))
        clear HC HC2
        go_wp2
        go_roundg (ns - (k + 1))
        case measure => omega
        case rel => exact ⟨k + 1, by omega, rfl, by go_num, HN.out, rfl⟩
      · obtain rfl : k = ns := by omega
        have HR3 : Hid (rowB vars r = termsB vars (-1) r.terms) := Lib.hid (by
          rw [HR2.out, nameB_true (fun i hi => HA.out i hi (by have := HNS.out; omega))]; rfl)
        clear HR2 HA
        have e3 := cellq HB2.out.1 3 rfl
        go_wp2_with fail
        go_loopg [7, 6] tl (fun gg v7 v6 wr => ∃ (k : Nat) (la : Int), k ≤ tl ∧ gg = tl - k ∧ v7 = .int .i64 k ∧ v6 = .int .i64 la ∧ -9223372036854775808 ≤ la ∧ la ≤ 9223372036854775807 ∧ termsB vars (-1) r.terms = termsB vars la (r.terms.drop k) ∧ Ext (fun _ => False) w2 wr)
        case atStart => exact ⟨0, -1, Nat.zero_le _, rfl, rfl, rfl, by omega, by omega, rfl, Ext.refl _ _⟩
        case round =>
          clear e3 e0
          obtain ⟨k, la, hk, rfl, rfl, rfl, hla0, hla1, heq, hx⟩ := hrel
          have HX := Lib.hid (And.intro heq hx)
          have e3 := cell_keep (cellq HB2.out.1 3 rfl) hx
          clear heq hx
          by_cases hin : k < tl
          · have i0 : (k : Int) < (tl : Int) := by omega
            have i1 : (0 : Int) ≤ (k : Int) := by omega
            have hkl : k < r.terms.length := by rw [HTL.out]; exact hin
            have hdr : r.terms.drop k = r.t k :: r.terms.drop (k + 1) := by
              rw [List.drop_eq_getElem_cons hkl, r.t_at hkl]
            have HD := Lib.hid (HX.out.1.trans (by rw [hdr, termsB_cons]))
            obtain ⟨b, off, rfl, -, e0, e1, htok⟩ := (HT.out.keep (HB2.out.2.trans HX.out.2)).atr k hkl
            have hva := htok.var
            have hco := htok.coef
            unfold InR at hva hco
            clear hdr hkl htok
            obtain ⟨tv, htv⟩ : ∃ tv, (r.t k).var = tv := ⟨_, rfl⟩
            obtain ⟨co, hco'⟩ : ∃ co, (r.t k).coef = co := ⟨_, rfl⟩
            rw [htv] at e0 HD hva
            rw [hco'] at e1 HD hco
            clear htv hco'
            have hb3 := blk_alloc_at wr (.cells #[.int .i64 tv, .int .i64 co] 76)
            have hx3 := (Ext.refl (fun _ => False) wr).alloc (.cells #[.int .i64 tv, .int .i64 co] 76)
            have HB3 := Lib.hid (And.intro hb3 hx3)
            clear hb3 hx3
            go_upto_region 13 with fail
            generalize hw3 : wr.alloc (.cells #[.int .i64 tv, .int .i64 co] 76) = w3 at *
            clear hw3
            obtain ⟨tb, htb⟩ : ∃ tb, wr.heap.size = tb := ⟨_, rfl⟩
            rw [htb] at HB3 ⊢
            clear htb e0 e1 e3
            obtain ⟨x0, x1⟩ : w3.cell? ⟨tb, 0, none⟩ = some (.int .i64 tv) ∧ w3.cell? ⟨tb, 1, none⟩ = some (.int .i64 co) := ⟨cellq HB3.out.1 0 rfl, cellq HB3.out.1 1 rfl⟩
            have HE := Lib.hid ((HB2.out.2.trans HX.out.2).trans HB3.out.2)
            by_cases t1 : tv ≤ la
            · go_wp2
              go_ret
              exact ⟨ret_bool (by rw [HR3.out, HD.out, decide_eq_false (p := (la < tv)) (by omega)]; simp), HE.out⟩
            by_cases t2 : (vars : Int) ≤ tv
            · go_wp2
              go_ret
              exact ⟨ret_bool (by rw [HR3.out, HD.out, decide_eq_false (p := (tv < (vars : Int))) (by omega)]; simp), HE.out⟩
            by_cases t3 : co = 0
            · have t3' : (co == 0) = true := by simpa using t3
              subst t3
              go_wp2
              go_ret
              exact ⟨ret_bool (by rw [HR3.out, HD.out]; simp), HE.out⟩
            have t3' : (co == 0) = false := by simpa using t3
            have HD2 : Hid (termsB vars (-1) r.terms = (limB co && termsB vars tv (r.terms.drop (k + 1)))) := Lib.hid (by
              rw [HD.out, decide_eq_true (p := (la < tv)) (by omega), decide_eq_true (p := (tv < (vars : Int))) (by omega), decide_eq_false t3]; simp)
            clear HD
            go_wp2_with fail
            refine (inn_any w3 co).mono ?_
            rintro r4 w4 ⟨rfl, hx4⟩
            have HX4 := Lib.hid ((HX.out.2.trans HB3.out.2).trans hx4)
            have y0 := cell_keep x0 hx4
            clear hx4 x0 x1 HE
            cases hlc : limB co with
            | false =>
              rw [hlc] at HD2
              clear hlc
              go_wp2
              go_ret
              exact ⟨ret_bool (by rw [HR3.out, HD2.out]; simp), HB2.out.2.trans HX4.out⟩
            | true =>
              rw [hlc] at HD2
              clear hlc
              go_wp2
              go_roundg (tl - (k + 1))
              case measure => omega
              case rel => exact ⟨k + 1, tv, by omega, rfl, by go_num, rfl, by omega, by omega, by rw [HD2.out]; rfl, HX4.out⟩
          · obtain rfl : k = tl := by omega
            have HF : Hid (rowB vars r = true) := Lib.hid (by
              rw [HR3.out, HX.out.1, List.drop_of_length_le (by rw [HTL.out]; exact Nat.le_refl _)]; rfl)
            go_wp2
            go_ret
            exact ⟨ret_bool HF.out.symm, HB2.out.2.trans HX.out.2⟩
end Go.Proofs.YtbgienfcmdgaaaaGreat
