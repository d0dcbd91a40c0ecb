/-
  The reference of package session: Answer. Conditions: none beyond IsRef.
-/
import Derived.Test.YthligdgkhmgagaaSM
import Derived.Outline
namespace Go.Proofs.Ythligdgkhmgagaa
open Go.RowKit Go.MapKept
open Go.ChangeMaps (setBlock)

theorem Try.infoClient : (Try.prog.info? 74).map (fun i => (i.zero, i.size, i.bytes)) = some (some (.agg #[.int .i64 0, .int .i64 0, .string .empty]), 3, 32) := by kernel_rfl
theorem ownsRow_empty {w : World} {g : Nat} {e : TypeId} (size : Nat) (h : blk w g = some (.cells #[] e (0, 0))) : w.ownsRow 0 e size (.slice (some ⟨g, 0, none⟩) 0 0) 0 [] :=
  ⟨by simp, .inr ⟨g, 0, #[], rfl, Nat.zero_le _, h, Nat.le_refl _, Nat.zero_le _, by simp, by simp⟩⟩
/-- the post of a call that hands back the reference's table and a code -/
def RefPost (w : World) (p : Tbl × Int) (r : Ending) (w' : World) : Prop :=
  ∃ v, r = .returned (.tuple #[v, .int .i64 p.2]) ∧ IsRef w' v p.1 ∧ Ext (fun _ => False) w w'
theorem rows_one {β : Type} {f : β → List Value} (hf : ∀ x, ∀ u ∈ f x, u.oneCell' = true) (l : List β) : ∀ u ∈ l.flatMap f, u.oneCell' = true := fun u hu => by
  obtain ⟨x, _, hx⟩ := List.mem_flatMap.1 hu
  exact hf x u hx
theorem cellsC_one : ∀ x, ∀ u ∈ cellsC x, u.oneCell' = true := fun x u hu => by
  simp [cellsC] at hu
  rcases hu with rfl | rfl | rfl <;> rfl
theorem cellsS_one : ∀ x, ∀ u ∈ cellsS x, u.oneCell' = true := fun x u hu => by
  simp [cellsS] at hu
  rcases hu with rfl | rfl <;> rfl
theorem row_count {w : World} {base : Nat} {e : TypeId} {β : Type} {f : β → List Value} {m : Nat} (hm : 0 < m) (hf : ∀ x, (f x).length = m) {v : Value} {n : Nat} {l : List β} (h : w.ownsRow base e m v n (l.flatMap f)) : n = l.length := by
  have := h.1
  rw [fm_length hf] at this
  exact Nat.eq_of_mul_eq_mul_right hm this.symm
theorem row_nil_cap {w : World} {base : Nat} {e : TypeId} {size : Nat} {ao : Option Addr} {n cap : Nat} {xs : List Value} (h : w.ownsRow base e size (.slice ao n cap) n xs) : n ≤ cap ∧ cap ≤ maxLen ∧ (ao = none → cap = 0) ∧ (ao = none ∨ ∃ g, ao = some ⟨g, 0, none⟩ ∧ g < w.heap.size) := by
  rcases h.2 with ⟨h1, h2⟩ | ⟨g, c, cur, h1, _, h3, h4, h5, _⟩
  · cases h1; exact ⟨by omega, by simp [maxLen], fun _ => rfl, .inl rfl⟩
  · cases h1; exact ⟨h4, h5, (fun e => by cases e), .inr ⟨g, rfl, (Array.getElem?_eq_some_iff.1 h3).1⟩⟩
theorem row_shape' {w : World} {base : Nat} {e : TypeId} {size : Nat} {v : Value} {n : Nat} {xs : List Value} (h : w.ownsRow base e size v n xs) : ∃ ao m cap, v = .slice ao m cap ∧ w.ownsRow base e size (.slice ao m cap) m xs := by
  obtain ⟨ao, cap, rfl⟩ := ownsRow_shape h
  exact ⟨ao, n, cap, rfl, h⟩
/-- a box of three cells, its first one turned; and the other box, laid whole -/
theorem two_boxes {w : World} {b b' : Nat} {v0 v1 v2 u0 u1 u2 : Value} {t : TypeId} (h : blk w b = some (.cells #[v0, v1, v2] t (0, 0))) (h' : blk w b' = some (.cells #[u0, u1, u2] t (0, 0))) (hne : b ≠ b') (x : Value) :
    blk (w.setCell ⟨b, 0, none⟩ x) b = some (.cells #[x, v1, v2] t (0, 0)) ∧ blk (w.setCell ⟨b, 0, none⟩ x) b' = some (.cells #[u0, u1, u2] t (0, 0)) :=
  ⟨by simpa using blk_setCell_same h 0 x, (blk_setCell_other _ _ _ _ (Ne.symm hne)).trans h'⟩
def set3 (w : World) (R : Nat) (u0 u1 u2 : Value) : World := ((w.setCell ⟨R, 0, none⟩ u0).setCell ⟨R, 1, none⟩ u1).setCell ⟨R, 2, none⟩ u2
theorem set3_done {w : World} {R : Nat} {v0 v1 v2 : Value} {t : TypeId} (h : blk w R = some (.cells #[v0, v1, v2] t (0, 0))) (u0 u1 u2 : Value) :
    (set3 w R u0 u1 u2).cell? ⟨R, 0, none⟩ = some u0 ∧ (set3 w R u0 u1 u2).cell? ⟨R, 1, none⟩ = some u1 ∧ (set3 w R u0 u1 u2).cell? ⟨R, 2, none⟩ = some u2 ∧ Ext (fun x => x = R) w (set3 w R u0 u1 u2) := by
  have hb : blk (set3 w R u0 u1 u2) R = some (.cells #[u0, u1, u2] t (0, 0)) := by
    simpa [set3] using blk_setCell_same (blk_setCell_same (blk_setCell_same h 0 u0) 1 u1) 2 u2
  obtain ⟨a, b, c⟩ := box_cells hb
  exact ⟨a, b, c, (((Ext.refl (fun x => x = R) w).setCell (p := ⟨R, 0, none⟩) u0 (fun _ => rfl)).setCell (p := ⟨R, 1, none⟩) u1 (fun _ => rfl)).setCell (p := ⟨R, 2, none⟩) u2 (fun _ => rfl)⟩
theorem own_step {v' v : Value} {w : World} {b : Nat} (hat : v'.ownBlock = v.ownBlock ∨ v'.ownBlock = some w.heap.size) (hv : ∀ g, v.ownBlock = some g → b ≤ g) (hb : b ≤ w.heap.size) : ∀ g, v'.ownBlock = some g → b ≤ g := fun g e => by
  rcases hat with h | h
  · exact hv g (h.symm.trans e)
  · rw [h] at e; cases e; exact hb
theorem iput_sC {T : Tbl} (hg : TGood T) (c : Int) (x : Ans) (g : Int) (st : List (Int × Int)) :
    ((iget T.cl c).isSome = false ∧ sC ⟨iput T.cl c x, g, st⟩ = (sC T).take (posC T c) ++ (c, x) :: (sC T).drop (posC T c)) ∨
    ((iget T.cl c).isSome = true ∧ posC T c < (sC T).length ∧ sC ⟨iput T.cl c x, g, st⟩ = (sC T).take (posC T c) ++ (c, x) :: (sC T).drop (posC T c + 1)) := by
  have h1 : sC ⟨iput T.cl c x, g, st⟩ = kpre leI (sC T) c ++ (c, x) :: krest leI (sC T) c := by
    unfold sC; simp only; rw [iput_k]; exact ksort_kput linI hg.nodup c x
  have h2 : (sC T).take (posC T c) = kpre leI (sC T) c := kpre_take _ _
  rw [h1, h2]
  rcases krest_eq linI (sC_lt hg) c with ⟨a, b, _⟩ | ⟨v, a, b, d⟩
  · rw [sC_get hg] at a
    exact .inl ⟨by rw [a]; rfl, by rw [b]; rfl⟩
  · rw [sC_get hg] at a
    exact .inr ⟨by rw [a]; rfl, (List.getElem?_eq_some_iff.1 b).1, by rw [d]; rfl⟩
set_option maxRecDepth 100000 in
set_option maxHeartbeats 4000000 in
theorem ranswer_put (w : World) (v : Value) (T : Tbl) (hr : IsRef w v T) (hg : TGood T) (hl : T.cl.length ≤ 1000000) (c n : Int) (s : ByteArray) (hin : inB c n = true) (hlast : lastM T c < n) :
    Calls Try.prog 28 #[v, .int .i64 c, .int .i64 n, .string s] w (RefPost w (⟨iput T.cl c ⟨n, s⟩, T.gen, T.st⟩, 0)) := by
  have hrl := fun (W : World) (hx : Ext (fun _ => False) w W) => rlast_any W v T (hr.keep hx) hg hl c
  have hfind := fun (W : World) (hx : Ext (fun _ => False) w W) => find_any W v T (hr.keep hx) hg hl c
  obtain ⟨vc, vs, rfl, hc, hs⟩ := hr
  obtain ⟨ao, cap, rfl⟩ := ownsRow_shape hc
  obtain ⟨a2, m2, p2, rfl, hs2⟩ := row_shape' hs
  have hm2 := row_count (by omega) cellsS_len hs2
  have hsh := iput_sC hg c ⟨n, s⟩ T.gen T.st
  have hSl : (sC T).length = T.cl.length := ksort_length _
  obtain ⟨N, hN⟩ : ∃ N, (sC T).length = N := ⟨_, rfl⟩
  have hPN : posC T c ≤ N := by rw [← hN]; exact posC_le T c
  rw [hN] at hrl hfind hsh ⊢
  rw [hN] at hc hSl
  have hNl : N ≤ 1000000 := by omega
  have h1 : inI c = true := by unfold inB at hin; simp at hin; exact hin.1
  have h2 : inI n = true := by unfold inB at hin; simp at hin; exact hin.2
  have H1 := Lib.hid (fun W => rin_yes h1 W)
  have H2 := Lib.hid (fun W => rin_yes h2 W)
  have Hfind := Lib.hid hfind
  have Hrl := Lib.hid hrl
  generalize lastM T c = LM at *
  obtain ⟨k1, k2, k3, k4⟩ := row_nil_cap hc
  obtain ⟨S, hS⟩ : ∃ S, sC T = S := ⟨_, rfl⟩
  obtain ⟨S', hS'⟩ : ∃ S', sC ⟨iput T.cl c ⟨n, s⟩, T.gen, T.st⟩ = S' := ⟨_, rfl⟩
  rw [hS, hS'] at hsh
  rw [hS] at hN hc
  generalize hok : (iget T.cl c).isSome = ok at *
  generalize posC T c = P at *
  have HS' := Lib.hid hS'
  have Hs := Lib.hid (show w.ownsRow 0 104 2 (.slice a2 m2 p2) (sS T).length ((sS T).flatMap cellsS) from hs)
  have L1 : Lies w ao P ((S.take P).flatMap cellsC) := by
    rcases k4 with h | ⟨g, rfl, _⟩
    · exact .inl (by have := k3 h; omega)
    · have := row_lies cellsC_len hc 0 P 0 (by omega)
      simpa using this
  have hl1 : (S.take P).length = P := by rw [List.length_take]; omega
  have La : ∀ xs, N ≤ cap → Lies w ao (N - cap) xs := fun xs h => .inl (by omega)
  have Lb : ∀ Q, Q ≤ N → Q ≠ cap → Lies w (Option.map (fun x => x.add (Q * 3)) ao) (N - Q) ((S.drop Q).flatMap cellsC) := fun Q hQ hne => by
    rcases k4 with h | ⟨g, rfl, _⟩
    · exact .inl (by have := k3 h; omega)
    · have := row_lies cellsC_len hc Q (N - Q) (Q * 3) rfl
      rw [List.take_of_length_le (by rw [List.length_drop]; omega)] at this
      simpa [Addr.add_lit] using this
  have hgl : ∀ ad, ao = some ad → ad.block < w.heap.size := fun ad e => by
    rcases k4 with h | ⟨g, h, hlt⟩
    · rw [h] at e; cases e
    · rw [h] at e; cases e; exact hlt
  have hglM : ∀ Q ad, Option.map (fun x => x.add (Q * 3)) ao = some ad → ad.block < w.heap.size := fun Q ad e => by
    rcases k4 with h | ⟨g, h, hlt⟩
    · rw [h] at e; cases e
    · rw [h] at e; cases e; simpa [Addr.add_lit] using hlt
  have hcases : ∃ rl : List (Int × Ans), S' = S.take P ++ (c, ⟨n, s⟩) :: rl ∧ ((ok = false ∧ P = cap ∧ rl.length = 0) ∨ (ok = false ∧ ¬ P = cap ∧ rl = S.drop P ∧ rl.length = N - P) ∨ (ok = true ∧ P < N ∧ P + 1 = cap ∧ rl.length = 0) ∨ (ok = true ∧ P < N ∧ ¬ P + 1 = cap ∧ rl = S.drop (P + 1) ∧ rl.length = N - (P + 1))) := by
    rcases hsh with ⟨a, b⟩ | ⟨a, b, d⟩
    · refine ⟨_, b, ?_⟩
      by_cases e : P = cap
      · exact .inl ⟨a, e, by rw [List.length_drop]; omega⟩
      · exact .inr (.inl ⟨a, e, rfl, by rw [List.length_drop]; omega⟩)
    · refine ⟨_, d, ?_⟩
      by_cases e : P + 1 = cap
      · exact .inr (.inr (.inl ⟨a, b, e, by rw [List.length_drop]; omega⟩))
      · exact .inr (.inr (.inr ⟨a, b, e, rfl, by rw [List.length_drop]; omega⟩))
  obtain ⟨rl, hrl', hcs⟩ := hcases
  have Hrl' := Lib.hid hrl'
  have HL1 := Lib.hid (And.intro L1 hl1)
  have HLa := Lib.hid La
  have HLb := Lib.hid Lb
  have Hk3 := Lib.hid k3
  have Hgl := Lib.hid hgl
  have HglM := Lib.hid hglM
  obtain ⟨i0, hi, hz0, hz1, hz2⟩ := info_parts Try.infoClient
  clear hfind hrl h1 h2 hin hc hs hN hSl hok hsh hS hS' hrl' L1 hl1 La Lb k3 k4 hgl hglM hg hl hs2 hm2
  have hmx : N ≤ 1000000 := hNl
  rcases hcs with ⟨rfl, q1, q2⟩ | ⟨rfl, q1, q3, q2⟩ | ⟨rfl, q0, q1, q2⟩ | ⟨rfl, q0, q1, q3, q2⟩
  · subst q1
    have Hq2 := Lib.hid q2
    try (have Hq3 := Lib.hid q3; clear q3)
    clear q2
    go_enter Try.func28, Try.ntmps28
    go_wp2_with fail
    refine (H1.out _).mono ?_
    rintro r w' ⟨rfl, hw⟩; obtain rfl := hw.symm
    go_wp2_with fail
    refine (H2.out _).mono ?_
    rintro r w' ⟨rfl, hw⟩; obtain rfl := hw.symm
    go_wp2_with fail
    have hp0 : blk ((w.alloc (.cells #[.slice ao N P, .int .i64 T.gen, .slice a2 m2 p2] 39)).alloc (.cells #[.slice none 0 0, .int .i64 0, .slice none 0 0] 39)) w.heap.size = some (.cells #[.slice ao N P, .int .i64 T.gen, .slice a2 m2 p2] 39 (0, 0)) := (blk_alloc_past _ _ _ (by simp)).trans (blk_alloc_at _ _)
    have hp1 : blk ((w.alloc (.cells #[.slice ao N P, .int .i64 T.gen, .slice a2 m2 p2] 39)).alloc (.cells #[.slice none 0 0, .int .i64 0, .slice none 0 0] 39)) (w.heap.size + 1) = some (.cells #[.slice none 0 0, .int .i64 0, .slice none 0 0] 39 (0, 0)) := by simpa using blk_alloc_at (w.alloc (.cells #[.slice ao N P, .int .i64 T.gen, .slice a2 m2 p2] 39)) (.cells #[.slice none 0 0, .int .i64 0, .slice none 0 0] 39)
    have hxw : Ext (fun _ => False) w ((w.alloc (.cells #[.slice ao N P, .int .i64 T.gen, .slice a2 m2 p2] 39)).alloc (.cells #[.slice none 0 0, .int .i64 0, .slice none 0 0] 39)) := ((Ext.refl _ w).alloc _).alloc _
    generalize ((w.alloc (.cells #[.slice ao N P, .int .i64 T.gen, .slice a2 m2 p2] 39)).alloc (.cells #[.slice none 0 0, .int .i64 0, .slice none 0 0] 39)) = w1 at *
    refine (Hrl.out _ hxw).mono ?_
    rintro r w2 ⟨rfl, hx2⟩
    have hp0' := (hx2.blk (blk_lt hp0) id).trans hp0
    have hp1' := (hx2.blk (blk_lt hp1) id).trans hp1
    have hxw2 := hxw.trans hx2
    obtain ⟨b0, b1, b2⟩ := box_cells hp0'
    clear hp0 hp1 hxw hx2
    go_wp2_with fail
    refine (Hfind.out _ hxw2).mono ?_
    rintro r w3 ⟨rfl, hx3⟩
    have hp0 := (hx3.blk (blk_lt hp0') id).trans hp0'
    have hp1 := (hx3.blk (blk_lt hp1') id).trans hp1'
    have hxw3 := hxw2.trans hx3
    obtain ⟨c0, c1, c2⟩ := box_cells hp0
    clear hp0' hp1' hxw2 hx3 b0 b1 b2
    have Hp0 := Lib.hid hp0
    have Hp1 := Lib.hid hp1
    have hlt1 := blk_lt hp1
    have hlt0 := blk_lt hp0
    have Hxw3 := Lib.hid hxw3
    clear hp0 hp1 hxw3
    go_upto_region 9 with fail
    have hb4 := blk_alloc_at w3 (.cells #[] 74)
    have hx4 : Ext (fun b => w3.heap.size ≤ b) w3 (w3.alloc (.cells #[] 74)) := (Ext.refl _ w3).alloc _
    have L4 := HL1.out.1.ext (ext_any (Hxw3.out.alloc (.cells #[] 74)) (fun b => w3.heap.size ≤ b)) (fun ad e _ => by have := Hgl.out ad e; omega) (by rw [fm_length cellsC_len, HL1.out.2]; omega)
    go_upto_region 10 with (first
      | (at_builtin; refine wpList_append_any rfl (.tmp 44) (.tmp 48) 36 rfl 0 74 i0 _ 3 32 Try.underlying36 hi hz0 hz1 hz2 rfl (by decide) _ 0 [] rfl (ownsRow_empty 3 hb4) _ _ _ Hk3.out _ rfl (by rw [fm_length cellsC_len, HL1.out.2]) L4 (rows_one cellsC_one _) (by simp only [maxLen]; omega) (by omega) (Nat.zero_le _) ?_; intro v5 w5 hown5 hgrow5 hat5; have hx5 : Ext (fun b => w3.heap.size ≤ b) w3 w5 := hx4.grown hgrow5 (fun k e _ => Nat.le_of_eq (Option.some.inj e)); have hs5 : w3.heap.size < w5.heap.size := Nat.lt_of_lt_of_le (by simp) hgrow5.size; have hv5 : ∀ g, v5.ownBlock = some g → w3.heap.size ≤ g := own_step hat5 (fun g e => Nat.le_of_eq (Option.some.inj e)) (by simp); have Hx5 := Lib.hid hx5; have Hv5 := Lib.hid hv5; have Hown5 := Lib.hid hown5; clear hx5 hv5 hown5 hgrow5 hat5 L4 hx4 hb4 c0)
      | (at_builtin; refine wpList_append_any rfl (.tmp 49) (.tmp 54) 36 rfl 0 74 i0 _ 3 32 Try.underlying36 hi hz0 hz1 hz2 rfl (by decide) _ _ _ rfl (Hown5.out.alloc _) _ 1 1 (fun e => (by cases e)) (cellsC (c, ⟨n, s⟩)) rfl rfl (.inr ⟨_, rfl, cells_new (cellsC (c, ⟨n, s⟩)) _ rfl⟩) (cellsC_one _) (by simp only [maxLen]; omega) (by omega) (Nat.zero_le _) ?_; intro v6 w6 hown6 hgrow6 hat6; have hx6 : Ext (fun b => w3.heap.size ≤ b) w3 w6 := (Hx5.out.alloc _).grown hgrow6 (fun k e _ => Hv5.out k e); have hs6 : w3.heap.size < w6.heap.size := Nat.lt_of_lt_of_le hs5 (Nat.le_trans (by simp) hgrow6.size); have hv6 : ∀ g, v6.ownBlock = some g → w3.heap.size ≤ g := own_step hat6 Hv5.out (by simp; omega); have L6 := fun (a : Option Addr) (m : Nat) (l : List (Int × Ans)) (hp : m = l.length) (h : Lies w a m (l.flatMap cellsC)) (hb : ∀ ad, a = some ad → ad.block < w.heap.size) => (h.ext (ext_any Hxw3.out (fun b => w3.heap.size ≤ b)) (fun ad e _ => (by have := hb ad e; omega)) (by rw [fm_length cellsC_len]; omega)).ext hx6 (fun ad e _ => (by have := hb ad e; have := Hxw3.out.size; omega)) (by rw [fm_length cellsC_len]; omega); have HL6 := Lib.hid L6; have Hx6 := Lib.hid hx6; have Hv6 := Lib.hid hv6; have Hown6 := Lib.hid hown6; clear hx6 hv6 hown6 hgrow6 hat6 L6 Hown5 Hx5 Hv5)
      | (at_builtin; refine wpList_append_any rfl (.tmp 55) (.tmp 56) 36 rfl 0 74 i0 _ 3 32 Try.underlying36 hi hz0 hz1 hz2 rfl (by decide) _ _ _ rfl Hown6.out _ _ _ (fun e => (by first | rfl | (have := Hk3.out (Option.map_eq_none_iff.1 e); omega) | (have := Hk3.out e; omega))) (rl.flatMap cellsC) rfl (by have := Hq2.out; rw [fm_length cellsC_len]; omega) (by first | exact .inl (by omega) | exact HL6.out _ _ rl (by have := Hq2.out; omega) (by rw [Hq3.out]; exact HLb.out _ (by omega) q1) (HglM.out _)) (rows_one cellsC_one _) (by simp only [maxLen]; omega) (by omega) (Nat.zero_le _) ?_; intro v7 w7 hown7 hgrow7 hat7; simp only [Nat.zero_add, List.nil_append] at hown7; obtain ⟨a7, m7, p7, rfl, hown7b⟩ := row_shape' hown7; have hx7 : Ext (fun b => w3.heap.size ≤ b) w3 w7 := Hx6.out.grown hgrow7 (fun k e _ => Hv6.out k e); have hp2 := (hx7.blk hlt0 (Nat.not_le.2 hlt0)).trans Hp0.out; have hp3 := (hx7.blk hlt1 (Nat.not_le.2 hlt1)).trans Hp1.out; obtain ⟨d0, d1, d2⟩ := box_cells hp2; obtain ⟨e0, e1, e2⟩ := box_cells hp3; have f0 := free_of_cells hp2 0; have g0 := free_of_cells hp3 0; have g1 := free_of_cells hp3 1; have g2 := free_of_cells hp3 2; have Hx7 := Lib.hid hx7; have Hown7 := Lib.hid hown7b; have Hp2 := Lib.hid hp2; have Hp3 := Lib.hid hp3; clear hx7 hown7 hown7b hgrow7 hat7 hp2 hp3 Hown6 Hx6 Hv6 HL6))
    obtain ⟨hp4, hp5⟩ := two_boxes Hp2.out Hp3.out (by omega) (.slice a7 m7 p7)
    have hx8 : Ext (fun b => b = w.heap.size) w7 (w7.setCell ⟨w.heap.size, 0, none⟩ (.slice a7 m7 p7)) := (Ext.refl _ w7).setCell (p := ⟨w.heap.size, 0, none⟩) _ (fun _ => rfl)
    clear d0 d1 d2 e0 e1 e2 f0 g0 g1 g2 c1 c2
    generalize w7.setCell ⟨w.heap.size, 0, none⟩ (.slice a7 m7 p7) = w8 at *
    obtain ⟨d0, d1, d2⟩ := box_cells hp4
    obtain ⟨e0, e1, e2⟩ := box_cells hp5
    have g0 := free_of_cells hp5 0
    have g1 := free_of_cells hp5 1
    have g2 := free_of_cells hp5 2
    have hlt8 := blk_lt hp5
    obtain ⟨z0, z1, z2, hx9⟩ := set3_done hp5 (.slice a7 m7 p7) (.int .i64 T.gen) (.slice a2 m2 p2)
    have hA : Ext (fun b => w.heap.size ≤ b) w3 w7 := Hx7.out.mono (fun k _ (e : w3.heap.size ≤ k) => (by show w.heap.size ≤ k; omega))
    have hB : Ext (fun b => w.heap.size ≤ b) w7 w8 := hx8.mono (fun k _ (e : k = w.heap.size) => (by show w.heap.size ≤ k; omega))
    have hC : Ext (fun b => w.heap.size ≤ b) w8 (set3 w8 (w.heap.size + 1) (.slice a7 m7 p7) (.int .i64 T.gen) (.slice a2 m2 p2)) := hx9.mono (fun k _ (e : k = w.heap.size + 1) => (by show w.heap.size ≤ k; omega))
    have hxf : Ext (fun _ => False) w (set3 w8 (w.heap.size + 1) (.slice a7 m7 p7) (.int .i64 T.gen) (.slice a2 m2 p2)) := Hxw3.out.trans' ((hA.trans hB).trans hC) (fun k hk (e : w.heap.size ≤ k) => absurd hk (by omega))
    have hrow : (set3 w8 (w.heap.size + 1) (.slice a7 m7 p7) (.int .i64 T.gen) (.slice a2 m2 p2)).ownsRow 0 74 3 (.slice a7 m7 p7) m7 (S'.flatMap cellsC) := by
      have h0 : S'.flatMap cellsC = (S.take P).flatMap cellsC ++ cellsC (c, ⟨n, s⟩) ++ rl.flatMap cellsC := by rw [Hrl'.out]; simp
      have hb3 := Hown7.out
      rw [h0]
      have hX : Ext (fun b => b = w.heap.size ∨ b = w.heap.size + 1) w7 (set3 w8 (w.heap.size + 1) (.slice a7 m7 p7) (.int .i64 T.gen) (.slice a2 m2 p2)) := (hx8.mono (fun k _ e => Or.inl e)).trans (hx9.mono (fun k _ e => Or.inr e))
      refine ownsRow_ext (by simpa using hb3) hX (fun g hg e => ?_)
      obtain ⟨cur, hcur⟩ := row_type hb3 hg
      rcases e with rfl | rfl
      · rw [Hp2.out] at hcur; cases hcur
      · rw [Hp3.out] at hcur; cases hcur
    have hcount := row_count (by omega) cellsC_len hrow
    have hrs := ownsRow_keep Hs.out hxf
    have HF : Hid (IsRef (set3 w8 (w.heap.size + 1) (.slice a7 m7 p7) (.int .i64 T.gen) (.slice a2 m2 p2)) (.agg #[.slice a7 m7 p7, .int .i64 T.gen, .slice a2 m2 p2]) ⟨iput T.cl c ⟨n, s⟩, T.gen, T.st⟩) := Lib.hid ⟨_, _, rfl, by rw [HS'.out]; rw [← hcount]; exact hrow, hrs⟩
    have HX := Lib.hid hxf
    have HZ := Lib.hid (And.intro z0 (And.intro z1 z2))
    clear hp4 hp5 hx8 hx9 hA hB hC hxf hrow hcount hrs z0 z1 z2 Hown7 Hx7 Hp2 Hp3
    unfold set3 at HF HX HZ
    go_wp2
    have HZ := HZ.out
    have HF := HF.out
    have HX := HX.out
    clear d0 d1 d2 e0 e1 e2 g0 g1 g2
    generalize ((w8.setCell ⟨w.heap.size + 1, 0, none⟩ (.slice a7 m7 p7)).setCell ⟨w.heap.size + 1, 1, none⟩ (.int .i64 T.gen)).setCell ⟨w.heap.size + 1, 2, none⟩ (.slice a2 m2 p2) = w9 at *
    obtain ⟨z0, z1, z2⟩ := HZ
    exact bodyPost_ret (v := .tuple #[.agg #[.slice a7 m7 p7, .int .i64 T.gen, .slice a2 m2 p2], .int .i64 0]) (by simp [results, Try.results28, go_sem, z0, z1, z2]) rfl ⟨_, rfl, HF, HX⟩
  · have Hq2 := Lib.hid q2
    try (have Hq3 := Lib.hid q3; clear q3)
    clear q2
    go_enter Try.func28, Try.ntmps28
    go_wp2_with fail
    refine (H1.out _).mono ?_
    rintro r w' ⟨rfl, hw⟩; obtain rfl := hw.symm
    go_wp2_with fail
    refine (H2.out _).mono ?_
    rintro r w' ⟨rfl, hw⟩; obtain rfl := hw.symm
    go_wp2_with fail
    have hp0 : blk ((w.alloc (.cells #[.slice ao N cap, .int .i64 T.gen, .slice a2 m2 p2] 39)).alloc (.cells #[.slice none 0 0, .int .i64 0, .slice none 0 0] 39)) w.heap.size = some (.cells #[.slice ao N cap, .int .i64 T.gen, .slice a2 m2 p2] 39 (0, 0)) := (blk_alloc_past _ _ _ (by simp)).trans (blk_alloc_at _ _)
    have hp1 : blk ((w.alloc (.cells #[.slice ao N cap, .int .i64 T.gen, .slice a2 m2 p2] 39)).alloc (.cells #[.slice none 0 0, .int .i64 0, .slice none 0 0] 39)) (w.heap.size + 1) = some (.cells #[.slice none 0 0, .int .i64 0, .slice none 0 0] 39 (0, 0)) := by simpa using blk_alloc_at (w.alloc (.cells #[.slice ao N cap, .int .i64 T.gen, .slice a2 m2 p2] 39)) (.cells #[.slice none 0 0, .int .i64 0, .slice none 0 0] 39)
    have hxw : Ext (fun _ => False) w ((w.alloc (.cells #[.slice ao N cap, .int .i64 T.gen, .slice a2 m2 p2] 39)).alloc (.cells #[.slice none 0 0, .int .i64 0, .slice none 0 0] 39)) := ((Ext.refl _ w).alloc _).alloc _
    generalize ((w.alloc (.cells #[.slice ao N cap, .int .i64 T.gen, .slice a2 m2 p2] 39)).alloc (.cells #[.slice none 0 0, .int .i64 0, .slice none 0 0] 39)) = w1 at *
    refine (Hrl.out _ hxw).mono ?_
    rintro r w2 ⟨rfl, hx2⟩
    have hp0' := (hx2.blk (blk_lt hp0) id).trans hp0
    have hp1' := (hx2.blk (blk_lt hp1) id).trans hp1
    have hxw2 := hxw.trans hx2
    obtain ⟨b0, b1, b2⟩ := box_cells hp0'
    clear hp0 hp1 hxw hx2
    go_wp2_with fail
    refine (Hfind.out _ hxw2).mono ?_
    rintro r w3 ⟨rfl, hx3⟩
    have hp0 := (hx3.blk (blk_lt hp0') id).trans hp0'
    have hp1 := (hx3.blk (blk_lt hp1') id).trans hp1'
    have hxw3 := hxw2.trans hx3
    obtain ⟨c0, c1, c2⟩ := box_cells hp0
    clear hp0' hp1' hxw2 hx3 b0 b1 b2
    have Hp0 := Lib.hid hp0
    have Hp1 := Lib.hid hp1
    have hlt1 := blk_lt hp1
    have hlt0 := blk_lt hp0
    have Hxw3 := Lib.hid hxw3
    clear hp0 hp1 hxw3
    go_upto_region 9 with fail
    have hb4 := blk_alloc_at w3 (.cells #[] 74)
    have hx4 : Ext (fun b => w3.heap.size ≤ b) w3 (w3.alloc (.cells #[] 74)) := (Ext.refl _ w3).alloc _
    have L4 := HL1.out.1.ext (ext_any (Hxw3.out.alloc (.cells #[] 74)) (fun b => w3.heap.size ≤ b)) (fun ad e _ => by have := Hgl.out ad e; omega) (by rw [fm_length cellsC_len, HL1.out.2]; omega)
    go_upto_region 10 with (first
      | (at_builtin; refine wpList_append_any rfl (.tmp 44) (.tmp 48) 36 rfl 0 74 i0 _ 3 32 Try.underlying36 hi hz0 hz1 hz2 rfl (by decide) _ 0 [] rfl (ownsRow_empty 3 hb4) _ _ _ Hk3.out _ rfl (by rw [fm_length cellsC_len, HL1.out.2]) L4 (rows_one cellsC_one _) (by simp only [maxLen]; omega) (by omega) (Nat.zero_le _) ?_; intro v5 w5 hown5 hgrow5 hat5; have hx5 : Ext (fun b => w3.heap.size ≤ b) w3 w5 := hx4.grown hgrow5 (fun k e _ => Nat.le_of_eq (Option.some.inj e)); have hs5 : w3.heap.size < w5.heap.size := Nat.lt_of_lt_of_le (by simp) hgrow5.size; have hv5 : ∀ g, v5.ownBlock = some g → w3.heap.size ≤ g := own_step hat5 (fun g e => Nat.le_of_eq (Option.some.inj e)) (by simp); have Hx5 := Lib.hid hx5; have Hv5 := Lib.hid hv5; have Hown5 := Lib.hid hown5; clear hx5 hv5 hown5 hgrow5 hat5 L4 hx4 hb4 c0)
      | (at_builtin; refine wpList_append_any rfl (.tmp 49) (.tmp 54) 36 rfl 0 74 i0 _ 3 32 Try.underlying36 hi hz0 hz1 hz2 rfl (by decide) _ _ _ rfl (Hown5.out.alloc _) _ 1 1 (fun e => (by cases e)) (cellsC (c, ⟨n, s⟩)) rfl rfl (.inr ⟨_, rfl, cells_new (cellsC (c, ⟨n, s⟩)) _ rfl⟩) (cellsC_one _) (by simp only [maxLen]; omega) (by omega) (Nat.zero_le _) ?_; intro v6 w6 hown6 hgrow6 hat6; have hx6 : Ext (fun b => w3.heap.size ≤ b) w3 w6 := (Hx5.out.alloc _).grown hgrow6 (fun k e _ => Hv5.out k e); have hs6 : w3.heap.size < w6.heap.size := Nat.lt_of_lt_of_le hs5 (Nat.le_trans (by simp) hgrow6.size); have hv6 : ∀ g, v6.ownBlock = some g → w3.heap.size ≤ g := own_step hat6 Hv5.out (by simp; omega); have L6 := fun (a : Option Addr) (m : Nat) (l : List (Int × Ans)) (hp : m = l.length) (h : Lies w a m (l.flatMap cellsC)) (hb : ∀ ad, a = some ad → ad.block < w.heap.size) => (h.ext (ext_any Hxw3.out (fun b => w3.heap.size ≤ b)) (fun ad e _ => (by have := hb ad e; omega)) (by rw [fm_length cellsC_len]; omega)).ext hx6 (fun ad e _ => (by have := hb ad e; have := Hxw3.out.size; omega)) (by rw [fm_length cellsC_len]; omega); have HL6 := Lib.hid L6; have Hx6 := Lib.hid hx6; have Hv6 := Lib.hid hv6; have Hown6 := Lib.hid hown6; clear hx6 hv6 hown6 hgrow6 hat6 L6 Hown5 Hx5 Hv5)
      | (at_builtin; refine wpList_append_any rfl (.tmp 55) (.tmp 56) 36 rfl 0 74 i0 _ 3 32 Try.underlying36 hi hz0 hz1 hz2 rfl (by decide) _ _ _ rfl Hown6.out _ _ _ (fun e => (by first | rfl | (have := Hk3.out (Option.map_eq_none_iff.1 e); omega) | (have := Hk3.out e; omega))) (rl.flatMap cellsC) rfl (by have := Hq2.out; rw [fm_length cellsC_len]; omega) (by first | exact .inl (by omega) | exact HL6.out _ _ rl (by have := Hq2.out; omega) (by rw [Hq3.out]; exact HLb.out _ (by omega) q1) (HglM.out _)) (rows_one cellsC_one _) (by simp only [maxLen]; omega) (by omega) (Nat.zero_le _) ?_; intro v7 w7 hown7 hgrow7 hat7; simp only [Nat.zero_add, List.nil_append] at hown7; obtain ⟨a7, m7, p7, rfl, hown7b⟩ := row_shape' hown7; have hx7 : Ext (fun b => w3.heap.size ≤ b) w3 w7 := Hx6.out.grown hgrow7 (fun k e _ => Hv6.out k e); have hp2 := (hx7.blk hlt0 (Nat.not_le.2 hlt0)).trans Hp0.out; have hp3 := (hx7.blk hlt1 (Nat.not_le.2 hlt1)).trans Hp1.out; obtain ⟨d0, d1, d2⟩ := box_cells hp2; obtain ⟨e0, e1, e2⟩ := box_cells hp3; have f0 := free_of_cells hp2 0; have g0 := free_of_cells hp3 0; have g1 := free_of_cells hp3 1; have g2 := free_of_cells hp3 2; have Hx7 := Lib.hid hx7; have Hown7 := Lib.hid hown7b; have Hp2 := Lib.hid hp2; have Hp3 := Lib.hid hp3; clear hx7 hown7 hown7b hgrow7 hat7 hp2 hp3 Hown6 Hx6 Hv6 HL6))
    obtain ⟨hp4, hp5⟩ := two_boxes Hp2.out Hp3.out (by omega) (.slice a7 m7 p7)
    have hx8 : Ext (fun b => b = w.heap.size) w7 (w7.setCell ⟨w.heap.size, 0, none⟩ (.slice a7 m7 p7)) := (Ext.refl _ w7).setCell (p := ⟨w.heap.size, 0, none⟩) _ (fun _ => rfl)
    clear d0 d1 d2 e0 e1 e2 f0 g0 g1 g2 c1 c2
    generalize w7.setCell ⟨w.heap.size, 0, none⟩ (.slice a7 m7 p7) = w8 at *
    obtain ⟨d0, d1, d2⟩ := box_cells hp4
    obtain ⟨e0, e1, e2⟩ := box_cells hp5
    have g0 := free_of_cells hp5 0
    have g1 := free_of_cells hp5 1
    have g2 := free_of_cells hp5 2
    have hlt8 := blk_lt hp5
    obtain ⟨z0, z1, z2, hx9⟩ := set3_done hp5 (.slice a7 m7 p7) (.int .i64 T.gen) (.slice a2 m2 p2)
    have hA : Ext (fun b => w.heap.size ≤ b) w3 w7 := Hx7.out.mono (fun k _ (e : w3.heap.size ≤ k) => (by show w.heap.size ≤ k; omega))
    have hB : Ext (fun b => w.heap.size ≤ b) w7 w8 := hx8.mono (fun k _ (e : k = w.heap.size) => (by show w.heap.size ≤ k; omega))
    have hC : Ext (fun b => w.heap.size ≤ b) w8 (set3 w8 (w.heap.size + 1) (.slice a7 m7 p7) (.int .i64 T.gen) (.slice a2 m2 p2)) := hx9.mono (fun k _ (e : k = w.heap.size + 1) => (by show w.heap.size ≤ k; omega))
    have hxf : Ext (fun _ => False) w (set3 w8 (w.heap.size + 1) (.slice a7 m7 p7) (.int .i64 T.gen) (.slice a2 m2 p2)) := Hxw3.out.trans' ((hA.trans hB).trans hC) (fun k hk (e : w.heap.size ≤ k) => absurd hk (by omega))
    have hrow : (set3 w8 (w.heap.size + 1) (.slice a7 m7 p7) (.int .i64 T.gen) (.slice a2 m2 p2)).ownsRow 0 74 3 (.slice a7 m7 p7) m7 (S'.flatMap cellsC) := by
      have h0 : S'.flatMap cellsC = (S.take P).flatMap cellsC ++ cellsC (c, ⟨n, s⟩) ++ rl.flatMap cellsC := by rw [Hrl'.out]; simp
      have hb3 := Hown7.out
      rw [h0]
      have hX : Ext (fun b => b = w.heap.size ∨ b = w.heap.size + 1) w7 (set3 w8 (w.heap.size + 1) (.slice a7 m7 p7) (.int .i64 T.gen) (.slice a2 m2 p2)) := (hx8.mono (fun k _ e => Or.inl e)).trans (hx9.mono (fun k _ e => Or.inr e))
      refine ownsRow_ext (by simpa using hb3) hX (fun g hg e => ?_)
      obtain ⟨cur, hcur⟩ := row_type hb3 hg
      rcases e with rfl | rfl
      · rw [Hp2.out] at hcur; cases hcur
      · rw [Hp3.out] at hcur; cases hcur
    have hcount := row_count (by omega) cellsC_len hrow
    have hrs := ownsRow_keep Hs.out hxf
    have HF : Hid (IsRef (set3 w8 (w.heap.size + 1) (.slice a7 m7 p7) (.int .i64 T.gen) (.slice a2 m2 p2)) (.agg #[.slice a7 m7 p7, .int .i64 T.gen, .slice a2 m2 p2]) ⟨iput T.cl c ⟨n, s⟩, T.gen, T.st⟩) := Lib.hid ⟨_, _, rfl, by rw [HS'.out]; rw [← hcount]; exact hrow, hrs⟩
    have HX := Lib.hid hxf
    have HZ := Lib.hid (And.intro z0 (And.intro z1 z2))
    clear hp4 hp5 hx8 hx9 hA hB hC hxf hrow hcount hrs z0 z1 z2 Hown7 Hx7 Hp2 Hp3
    unfold set3 at HF HX HZ
    go_wp2
    have HZ := HZ.out
    have HF := HF.out
    have HX := HX.out
    clear d0 d1 d2 e0 e1 e2 g0 g1 g2
    generalize ((w8.setCell ⟨w.heap.size + 1, 0, none⟩ (.slice a7 m7 p7)).setCell ⟨w.heap.size + 1, 1, none⟩ (.int .i64 T.gen)).setCell ⟨w.heap.size + 1, 2, none⟩ (.slice a2 m2 p2) = w9 at *
    obtain ⟨z0, z1, z2⟩ := HZ
    exact bodyPost_ret (v := .tuple #[.agg #[.slice a7 m7 p7, .int .i64 T.gen, .slice a2 m2 p2], .int .i64 0]) (by simp [results, Try.results28, go_sem, z0, z1, z2]) rfl ⟨_, rfl, HF, HX⟩
  · subst q1
    have Hq2 := Lib.hid q2
    try (have Hq3 := Lib.hid q3; clear q3)
    clear q2
    go_enter Try.func28, Try.ntmps28
    go_wp2_with fail
    refine (H1.out _).mono ?_
    rintro r w' ⟨rfl, hw⟩; obtain rfl := hw.symm
    go_wp2_with fail
    refine (H2.out _).mono ?_
    rintro r w' ⟨rfl, hw⟩; obtain rfl := hw.symm
    go_wp2_with fail
    have hp0 : blk ((w.alloc (.cells #[.slice ao N (P + 1), .int .i64 T.gen, .slice a2 m2 p2] 39)).alloc (.cells #[.slice none 0 0, .int .i64 0, .slice none 0 0] 39)) w.heap.size = some (.cells #[.slice ao N (P + 1), .int .i64 T.gen, .slice a2 m2 p2] 39 (0, 0)) := (blk_alloc_past _ _ _ (by simp)).trans (blk_alloc_at _ _)
    have hp1 : blk ((w.alloc (.cells #[.slice ao N (P + 1), .int .i64 T.gen, .slice a2 m2 p2] 39)).alloc (.cells #[.slice none 0 0, .int .i64 0, .slice none 0 0] 39)) (w.heap.size + 1) = some (.cells #[.slice none 0 0, .int .i64 0, .slice none 0 0] 39 (0, 0)) := by simpa using blk_alloc_at (w.alloc (.cells #[.slice ao N (P + 1), .int .i64 T.gen, .slice a2 m2 p2] 39)) (.cells #[.slice none 0 0, .int .i64 0, .slice none 0 0] 39)
    have hxw : Ext (fun _ => False) w ((w.alloc (.cells #[.slice ao N (P + 1), .int .i64 T.gen, .slice a2 m2 p2] 39)).alloc (.cells #[.slice none 0 0, .int .i64 0, .slice none 0 0] 39)) := ((Ext.refl _ w).alloc _).alloc _
    generalize ((w.alloc (.cells #[.slice ao N (P + 1), .int .i64 T.gen, .slice a2 m2 p2] 39)).alloc (.cells #[.slice none 0 0, .int .i64 0, .slice none 0 0] 39)) = w1 at *
    refine (Hrl.out _ hxw).mono ?_
    rintro r w2 ⟨rfl, hx2⟩
    have hp0' := (hx2.blk (blk_lt hp0) id).trans hp0
    have hp1' := (hx2.blk (blk_lt hp1) id).trans hp1
    have hxw2 := hxw.trans hx2
    obtain ⟨b0, b1, b2⟩ := box_cells hp0'
    clear hp0 hp1 hxw hx2
    go_wp2_with fail
    refine (Hfind.out _ hxw2).mono ?_
    rintro r w3 ⟨rfl, hx3⟩
    have hp0 := (hx3.blk (blk_lt hp0') id).trans hp0'
    have hp1 := (hx3.blk (blk_lt hp1') id).trans hp1'
    have hxw3 := hxw2.trans hx3
    obtain ⟨c0, c1, c2⟩ := box_cells hp0
    clear hp0' hp1' hxw2 hx3 b0 b1 b2
    have Hp0 := Lib.hid hp0
    have Hp1 := Lib.hid hp1
    have hlt1 := blk_lt hp1
    have hlt0 := blk_lt hp0
    have Hxw3 := Lib.hid hxw3
    clear hp0 hp1 hxw3
    go_upto_region 9 with fail
    have hb4 := blk_alloc_at w3 (.cells #[] 74)
    have hx4 : Ext (fun b => w3.heap.size ≤ b) w3 (w3.alloc (.cells #[] 74)) := (Ext.refl _ w3).alloc _
    have L4 := HL1.out.1.ext (ext_any (Hxw3.out.alloc (.cells #[] 74)) (fun b => w3.heap.size ≤ b)) (fun ad e _ => by have := Hgl.out ad e; omega) (by rw [fm_length cellsC_len, HL1.out.2]; omega)
    go_upto_region 10 with (first
      | (at_builtin; refine wpList_append_any rfl (.tmp 44) (.tmp 48) 36 rfl 0 74 i0 _ 3 32 Try.underlying36 hi hz0 hz1 hz2 rfl (by decide) _ 0 [] rfl (ownsRow_empty 3 hb4) _ _ _ Hk3.out _ rfl (by rw [fm_length cellsC_len, HL1.out.2]) L4 (rows_one cellsC_one _) (by simp only [maxLen]; omega) (by omega) (Nat.zero_le _) ?_; intro v5 w5 hown5 hgrow5 hat5; have hx5 : Ext (fun b => w3.heap.size ≤ b) w3 w5 := hx4.grown hgrow5 (fun k e _ => Nat.le_of_eq (Option.some.inj e)); have hs5 : w3.heap.size < w5.heap.size := Nat.lt_of_lt_of_le (by simp) hgrow5.size; have hv5 : ∀ g, v5.ownBlock = some g → w3.heap.size ≤ g := own_step hat5 (fun g e => Nat.le_of_eq (Option.some.inj e)) (by simp); have Hx5 := Lib.hid hx5; have Hv5 := Lib.hid hv5; have Hown5 := Lib.hid hown5; clear hx5 hv5 hown5 hgrow5 hat5 L4 hx4 hb4 c0)
      | (at_builtin; refine wpList_append_any rfl (.tmp 49) (.tmp 54) 36 rfl 0 74 i0 _ 3 32 Try.underlying36 hi hz0 hz1 hz2 rfl (by decide) _ _ _ rfl (Hown5.out.alloc _) _ 1 1 (fun e => (by cases e)) (cellsC (c, ⟨n, s⟩)) rfl rfl (.inr ⟨_, rfl, cells_new (cellsC (c, ⟨n, s⟩)) _ rfl⟩) (cellsC_one _) (by simp only [maxLen]; omega) (by omega) (Nat.zero_le _) ?_; intro v6 w6 hown6 hgrow6 hat6; have hx6 : Ext (fun b => w3.heap.size ≤ b) w3 w6 := (Hx5.out.alloc _).grown hgrow6 (fun k e _ => Hv5.out k e); have hs6 : w3.heap.size < w6.heap.size := Nat.lt_of_lt_of_le hs5 (Nat.le_trans (by simp) hgrow6.size); have hv6 : ∀ g, v6.ownBlock = some g → w3.heap.size ≤ g := own_step hat6 Hv5.out (by simp; omega); have L6 := fun (a : Option Addr) (m : Nat) (l : List (Int × Ans)) (hp : m = l.length) (h : Lies w a m (l.flatMap cellsC)) (hb : ∀ ad, a = some ad → ad.block < w.heap.size) => (h.ext (ext_any Hxw3.out (fun b => w3.heap.size ≤ b)) (fun ad e _ => (by have := hb ad e; omega)) (by rw [fm_length cellsC_len]; omega)).ext hx6 (fun ad e _ => (by have := hb ad e; have := Hxw3.out.size; omega)) (by rw [fm_length cellsC_len]; omega); have HL6 := Lib.hid L6; have Hx6 := Lib.hid hx6; have Hv6 := Lib.hid hv6; have Hown6 := Lib.hid hown6; clear hx6 hv6 hown6 hgrow6 hat6 L6 Hown5 Hx5 Hv5)
      | (at_builtin; refine wpList_append_any rfl (.tmp 55) (.tmp 56) 36 rfl 0 74 i0 _ 3 32 Try.underlying36 hi hz0 hz1 hz2 rfl (by decide) _ _ _ rfl Hown6.out _ _ _ (fun e => (by first | rfl | (have := Hk3.out (Option.map_eq_none_iff.1 e); omega) | (have := Hk3.out e; omega))) (rl.flatMap cellsC) rfl (by have := Hq2.out; rw [fm_length cellsC_len]; omega) (by first | exact .inl (by omega) | exact HL6.out _ _ rl (by have := Hq2.out; omega) (by rw [Hq3.out]; exact HLb.out _ (by omega) q1) (HglM.out _)) (rows_one cellsC_one _) (by simp only [maxLen]; omega) (by omega) (Nat.zero_le _) ?_; intro v7 w7 hown7 hgrow7 hat7; simp only [Nat.zero_add, List.nil_append] at hown7; obtain ⟨a7, m7, p7, rfl, hown7b⟩ := row_shape' hown7; have hx7 : Ext (fun b => w3.heap.size ≤ b) w3 w7 := Hx6.out.grown hgrow7 (fun k e _ => Hv6.out k e); have hp2 := (hx7.blk hlt0 (Nat.not_le.2 hlt0)).trans Hp0.out; have hp3 := (hx7.blk hlt1 (Nat.not_le.2 hlt1)).trans Hp1.out; obtain ⟨d0, d1, d2⟩ := box_cells hp2; obtain ⟨e0, e1, e2⟩ := box_cells hp3; have f0 := free_of_cells hp2 0; have g0 := free_of_cells hp3 0; have g1 := free_of_cells hp3 1; have g2 := free_of_cells hp3 2; have Hx7 := Lib.hid hx7; have Hown7 := Lib.hid hown7b; have Hp2 := Lib.hid hp2; have Hp3 := Lib.hid hp3; clear hx7 hown7 hown7b hgrow7 hat7 hp2 hp3 Hown6 Hx6 Hv6 HL6))
    obtain ⟨hp4, hp5⟩ := two_boxes Hp2.out Hp3.out (by omega) (.slice a7 m7 p7)
    have hx8 : Ext (fun b => b = w.heap.size) w7 (w7.setCell ⟨w.heap.size, 0, none⟩ (.slice a7 m7 p7)) := (Ext.refl _ w7).setCell (p := ⟨w.heap.size, 0, none⟩) _ (fun _ => rfl)
    clear d0 d1 d2 e0 e1 e2 f0 g0 g1 g2 c1 c2
    generalize w7.setCell ⟨w.heap.size, 0, none⟩ (.slice a7 m7 p7) = w8 at *
    obtain ⟨d0, d1, d2⟩ := box_cells hp4
    obtain ⟨e0, e1, e2⟩ := box_cells hp5
    have g0 := free_of_cells hp5 0
    have g1 := free_of_cells hp5 1
    have g2 := free_of_cells hp5 2
    have hlt8 := blk_lt hp5
    obtain ⟨z0, z1, z2, hx9⟩ := set3_done hp5 (.slice a7 m7 p7) (.int .i64 T.gen) (.slice a2 m2 p2)
    have hA : Ext (fun b => w.heap.size ≤ b) w3 w7 := Hx7.out.mono (fun k _ (e : w3.heap.size ≤ k) => (by show w.heap.size ≤ k; omega))
    have hB : Ext (fun b => w.heap.size ≤ b) w7 w8 := hx8.mono (fun k _ (e : k = w.heap.size) => (by show w.heap.size ≤ k; omega))
    have hC : Ext (fun b => w.heap.size ≤ b) w8 (set3 w8 (w.heap.size + 1) (.slice a7 m7 p7) (.int .i64 T.gen) (.slice a2 m2 p2)) := hx9.mono (fun k _ (e : k = w.heap.size + 1) => (by show w.heap.size ≤ k; omega))
    have hxf : Ext (fun _ => False) w (set3 w8 (w.heap.size + 1) (.slice a7 m7 p7) (.int .i64 T.gen) (.slice a2 m2 p2)) := Hxw3.out.trans' ((hA.trans hB).trans hC) (fun k hk (e : w.heap.size ≤ k) => absurd hk (by omega))
    have hrow : (set3 w8 (w.heap.size + 1) (.slice a7 m7 p7) (.int .i64 T.gen) (.slice a2 m2 p2)).ownsRow 0 74 3 (.slice a7 m7 p7) m7 (S'.flatMap cellsC) := by
      have h0 : S'.flatMap cellsC = (S.take P).flatMap cellsC ++ cellsC (c, ⟨n, s⟩) ++ rl.flatMap cellsC := by rw [Hrl'.out]; simp
      have hb3 := Hown7.out
      rw [h0]
      have hX : Ext (fun b => b = w.heap.size ∨ b = w.heap.size + 1) w7 (set3 w8 (w.heap.size + 1) (.slice a7 m7 p7) (.int .i64 T.gen) (.slice a2 m2 p2)) := (hx8.mono (fun k _ e => Or.inl e)).trans (hx9.mono (fun k _ e => Or.inr e))
      refine ownsRow_ext (by simpa using hb3) hX (fun g hg e => ?_)
      obtain ⟨cur, hcur⟩ := row_type hb3 hg
      rcases e with rfl | rfl
      · rw [Hp2.out] at hcur; cases hcur
      · rw [Hp3.out] at hcur; cases hcur
    have hcount := row_count (by omega) cellsC_len hrow
    have hrs := ownsRow_keep Hs.out hxf
    have HF : Hid (IsRef (set3 w8 (w.heap.size + 1) (.slice a7 m7 p7) (.int .i64 T.gen) (.slice a2 m2 p2)) (.agg #[.slice a7 m7 p7, .int .i64 T.gen, .slice a2 m2 p2]) ⟨iput T.cl c ⟨n, s⟩, T.gen, T.st⟩) := Lib.hid ⟨_, _, rfl, by rw [HS'.out]; rw [← hcount]; exact hrow, hrs⟩
    have HX := Lib.hid hxf
    have HZ := Lib.hid (And.intro z0 (And.intro z1 z2))
    clear hp4 hp5 hx8 hx9 hA hB hC hxf hrow hcount hrs z0 z1 z2 Hown7 Hx7 Hp2 Hp3
    unfold set3 at HF HX HZ
    go_wp2
    have HZ := HZ.out
    have HF := HF.out
    have HX := HX.out
    clear d0 d1 d2 e0 e1 e2 g0 g1 g2
    generalize ((w8.setCell ⟨w.heap.size + 1, 0, none⟩ (.slice a7 m7 p7)).setCell ⟨w.heap.size + 1, 1, none⟩ (.int .i64 T.gen)).setCell ⟨w.heap.size + 1, 2, none⟩ (.slice a2 m2 p2) = w9 at *
    obtain ⟨z0, z1, z2⟩ := HZ
    exact bodyPost_ret (v := .tuple #[.agg #[.slice a7 m7 p7, .int .i64 T.gen, .slice a2 m2 p2], .int .i64 0]) (by simp [results, Try.results28, go_sem, z0, z1, z2]) rfl ⟨_, rfl, HF, HX⟩
  · have Hq2 := Lib.hid q2
    try (have Hq3 := Lib.hid q3; clear q3)
    clear q2
    go_enter Try.func28, Try.ntmps28
    go_wp2_with fail
    refine (H1.out _).mono ?_
    rintro r w' ⟨rfl, hw⟩; obtain rfl := hw.symm
    go_wp2_with fail
    refine (H2.out _).mono ?_
    rintro r w' ⟨rfl, hw⟩; obtain rfl := hw.symm
    go_wp2_with fail
    have hp0 : blk ((w.alloc (.cells #[.slice ao N cap, .int .i64 T.gen, .slice a2 m2 p2] 39)).alloc (.cells #[.slice none 0 0, .int .i64 0, .slice none 0 0] 39)) w.heap.size = some (.cells #[.slice ao N cap, .int .i64 T.gen, .slice a2 m2 p2] 39 (0, 0)) := (blk_alloc_past _ _ _ (by simp)).trans (blk_alloc_at _ _)
    have hp1 : blk ((w.alloc (.cells #[.slice ao N cap, .int .i64 T.gen, .slice a2 m2 p2] 39)).alloc (.cells #[.slice none 0 0, .int .i64 0, .slice none 0 0] 39)) (w.heap.size + 1) = some (.cells #[.slice none 0 0, .int .i64 0, .slice none 0 0] 39 (0, 0)) := by simpa using blk_alloc_at (w.alloc (.cells #[.slice ao N cap, .int .i64 T.gen, .slice a2 m2 p2] 39)) (.cells #[.slice none 0 0, .int .i64 0, .slice none 0 0] 39)
    have hxw : Ext (fun _ => False) w ((w.alloc (.cells #[.slice ao N cap, .int .i64 T.gen, .slice a2 m2 p2] 39)).alloc (.cells #[.slice none 0 0, .int .i64 0, .slice none 0 0] 39)) := ((Ext.refl _ w).alloc _).alloc _
    generalize ((w.alloc (.cells #[.slice ao N cap, .int .i64 T.gen, .slice a2 m2 p2] 39)).alloc (.cells #[.slice none 0 0, .int .i64 0, .slice none 0 0] 39)) = w1 at *
    refine (Hrl.out _ hxw).mono ?_
    rintro r w2 ⟨rfl, hx2⟩
    have hp0' := (hx2.blk (blk_lt hp0) id).trans hp0
    have hp1' := (hx2.blk (blk_lt hp1) id).trans hp1
    have hxw2 := hxw.trans hx2
    obtain ⟨b0, b1, b2⟩ := box_cells hp0'
    clear hp0 hp1 hxw hx2
    go_wp2_with fail
    refine (Hfind.out _ hxw2).mono ?_
    rintro r w3 ⟨rfl, hx3⟩
    have hp0 := (hx3.blk (blk_lt hp0') id).trans hp0'
    have hp1 := (hx3.blk (blk_lt hp1') id).trans hp1'
    have hxw3 := hxw2.trans hx3
    obtain ⟨c0, c1, c2⟩ := box_cells hp0
    clear hp0' hp1' hxw2 hx3 b0 b1 b2
    have Hp0 := Lib.hid hp0
    have Hp1 := Lib.hid hp1
    have hlt1 := blk_lt hp1
    have hlt0 := blk_lt hp0
    have Hxw3 := Lib.hid hxw3
    clear hp0 hp1 hxw3
    go_upto_region 9 with fail
    have hb4 := blk_alloc_at w3 (.cells #[] 74)
    have hx4 : Ext (fun b => w3.heap.size ≤ b) w3 (w3.alloc (.cells #[] 74)) := (Ext.refl _ w3).alloc _
    have L4 := HL1.out.1.ext (ext_any (Hxw3.out.alloc (.cells #[] 74)) (fun b => w3.heap.size ≤ b)) (fun ad e _ => by have := Hgl.out ad e; omega) (by rw [fm_length cellsC_len, HL1.out.2]; omega)
    go_upto_region 10 with (first
      | (at_builtin; refine wpList_append_any rfl (.tmp 44) (.tmp 48) 36 rfl 0 74 i0 _ 3 32 Try.underlying36 hi hz0 hz1 hz2 rfl (by decide) _ 0 [] rfl (ownsRow_empty 3 hb4) _ _ _ Hk3.out _ rfl (by rw [fm_length cellsC_len, HL1.out.2]) L4 (rows_one cellsC_one _) (by simp only [maxLen]; omega) (by omega) (Nat.zero_le _) ?_; intro v5 w5 hown5 hgrow5 hat5; have hx5 : Ext (fun b => w3.heap.size ≤ b) w3 w5 := hx4.grown hgrow5 (fun k e _ => Nat.le_of_eq (Option.some.inj e)); have hs5 : w3.heap.size < w5.heap.size := Nat.lt_of_lt_of_le (by simp) hgrow5.size; have hv5 : ∀ g, v5.ownBlock = some g → w3.heap.size ≤ g := own_step hat5 (fun g e => Nat.le_of_eq (Option.some.inj e)) (by simp); have Hx5 := Lib.hid hx5; have Hv5 := Lib.hid hv5; have Hown5 := Lib.hid hown5; clear hx5 hv5 hown5 hgrow5 hat5 L4 hx4 hb4 c0)
      | (at_builtin; refine wpList_append_any rfl (.tmp 49) (.tmp 54) 36 rfl 0 74 i0 _ 3 32 Try.underlying36 hi hz0 hz1 hz2 rfl (by decide) _ _ _ rfl (Hown5.out.alloc _) _ 1 1 (fun e => (by cases e)) (cellsC (c, ⟨n, s⟩)) rfl rfl (.inr ⟨_, rfl, cells_new (cellsC (c, ⟨n, s⟩)) _ rfl⟩) (cellsC_one _) (by simp only [maxLen]; omega) (by omega) (Nat.zero_le _) ?_; intro v6 w6 hown6 hgrow6 hat6; have hx6 : Ext (fun b => w3.heap.size ≤ b) w3 w6 := (Hx5.out.alloc _).grown hgrow6 (fun k e _ => Hv5.out k e); have hs6 : w3.heap.size < w6.heap.size := Nat.lt_of_lt_of_le hs5 (Nat.le_trans (by simp) hgrow6.size); have hv6 : ∀ g, v6.ownBlock = some g → w3.heap.size ≤ g := own_step hat6 Hv5.out (by simp; omega); have L6 := fun (a : Option Addr) (m : Nat) (l : List (Int × Ans)) (hp : m = l.length) (h : Lies w a m (l.flatMap cellsC)) (hb : ∀ ad, a = some ad → ad.block < w.heap.size) => (h.ext (ext_any Hxw3.out (fun b => w3.heap.size ≤ b)) (fun ad e _ => (by have := hb ad e; omega)) (by rw [fm_length cellsC_len]; omega)).ext hx6 (fun ad e _ => (by have := hb ad e; have := Hxw3.out.size; omega)) (by rw [fm_length cellsC_len]; omega); have HL6 := Lib.hid L6; have Hx6 := Lib.hid hx6; have Hv6 := Lib.hid hv6; have Hown6 := Lib.hid hown6; clear hx6 hv6 hown6 hgrow6 hat6 L6 Hown5 Hx5 Hv5)
      | (at_builtin; refine wpList_append_any rfl (.tmp 55) (.tmp 56) 36 rfl 0 74 i0 _ 3 32 Try.underlying36 hi hz0 hz1 hz2 rfl (by decide) _ _ _ rfl Hown6.out _ _ _ (fun e => (by first | rfl | (have := Hk3.out (Option.map_eq_none_iff.1 e); omega) | (have := Hk3.out e; omega))) (rl.flatMap cellsC) rfl (by have := Hq2.out; rw [fm_length cellsC_len]; omega) (by first | exact .inl (by omega) | exact HL6.out _ _ rl (by have := Hq2.out; omega) (by rw [Hq3.out]; exact HLb.out _ (by omega) q1) (HglM.out _)) (rows_one cellsC_one _) (by simp only [maxLen]; omega) (by omega) (Nat.zero_le _) ?_; intro v7 w7 hown7 hgrow7 hat7; simp only [Nat.zero_add, List.nil_append] at hown7; obtain ⟨a7, m7, p7, rfl, hown7b⟩ := row_shape' hown7; have hx7 : Ext (fun b => w3.heap.size ≤ b) w3 w7 := Hx6.out.grown hgrow7 (fun k e _ => Hv6.out k e); have hp2 := (hx7.blk hlt0 (Nat.not_le.2 hlt0)).trans Hp0.out; have hp3 := (hx7.blk hlt1 (Nat.not_le.2 hlt1)).trans Hp1.out; obtain ⟨d0, d1, d2⟩ := box_cells hp2; obtain ⟨e0, e1, e2⟩ := box_cells hp3; have f0 := free_of_cells hp2 0; have g0 := free_of_cells hp3 0; have g1 := free_of_cells hp3 1; have g2 := free_of_cells hp3 2; have Hx7 := Lib.hid hx7; have Hown7 := Lib.hid hown7b; have Hp2 := Lib.hid hp2; have Hp3 := Lib.hid hp3; clear hx7 hown7 hown7b hgrow7 hat7 hp2 hp3 Hown6 Hx6 Hv6 HL6))
    obtain ⟨hp4, hp5⟩ := two_boxes Hp2.out Hp3.out (by omega) (.slice a7 m7 p7)
    have hx8 : Ext (fun b => b = w.heap.size) w7 (w7.setCell ⟨w.heap.size, 0, none⟩ (.slice a7 m7 p7)) := (Ext.refl _ w7).setCell (p := ⟨w.heap.size, 0, none⟩) _ (fun _ => rfl)
    clear d0 d1 d2 e0 e1 e2 f0 g0 g1 g2 c1 c2
    generalize w7.setCell ⟨w.heap.size, 0, none⟩ (.slice a7 m7 p7) = w8 at *
    obtain ⟨d0, d1, d2⟩ := box_cells hp4
    obtain ⟨e0, e1, e2⟩ := box_cells hp5
    have g0 := free_of_cells hp5 0
    have g1 := free_of_cells hp5 1
    have g2 := free_of_cells hp5 2
    have hlt8 := blk_lt hp5
    obtain ⟨z0, z1, z2, hx9⟩ := set3_done hp5 (.slice a7 m7 p7) (.int .i64 T.gen) (.slice a2 m2 p2)
    have hA : Ext (fun b => w.heap.size ≤ b) w3 w7 := Hx7.out.mono (fun k _ (e : w3.heap.size ≤ k) => (by show w.heap.size ≤ k; omega))
    have hB : Ext (fun b => w.heap.size ≤ b) w7 w8 := hx8.mono (fun k _ (e : k = w.heap.size) => (by show w.heap.size ≤ k; omega))
    have hC : Ext (fun b => w.heap.size ≤ b) w8 (set3 w8 (w.heap.size + 1) (.slice a7 m7 p7) (.int .i64 T.gen) (.slice a2 m2 p2)) := hx9.mono (fun k _ (e : k = w.heap.size + 1) => (by show w.heap.size ≤ k; omega))
    have hxf : Ext (fun _ => False) w (set3 w8 (w.heap.size + 1) (.slice a7 m7 p7) (.int .i64 T.gen) (.slice a2 m2 p2)) := Hxw3.out.trans' ((hA.trans hB).trans hC) (fun k hk (e : w.heap.size ≤ k) => absurd hk (by omega))
    have hrow : (set3 w8 (w.heap.size + 1) (.slice a7 m7 p7) (.int .i64 T.gen) (.slice a2 m2 p2)).ownsRow 0 74 3 (.slice a7 m7 p7) m7 (S'.flatMap cellsC) := by
      have h0 : S'.flatMap cellsC = (S.take P).flatMap cellsC ++ cellsC (c, ⟨n, s⟩) ++ rl.flatMap cellsC := by rw [Hrl'.out]; simp
      have hb3 := Hown7.out
      rw [h0]
      have hX : Ext (fun b => b = w.heap.size ∨ b = w.heap.size + 1) w7 (set3 w8 (w.heap.size + 1) (.slice a7 m7 p7) (.int .i64 T.gen) (.slice a2 m2 p2)) := (hx8.mono (fun k _ e => Or.inl e)).trans (hx9.mono (fun k _ e => Or.inr e))
      refine ownsRow_ext (by simpa using hb3) hX (fun g hg e => ?_)
      obtain ⟨cur, hcur⟩ := row_type hb3 hg
      rcases e with rfl | rfl
      · rw [Hp2.out] at hcur; cases hcur
      · rw [Hp3.out] at hcur; cases hcur
    have hcount := row_count (by omega) cellsC_len hrow
    have hrs := ownsRow_keep Hs.out hxf
    have HF : Hid (IsRef (set3 w8 (w.heap.size + 1) (.slice a7 m7 p7) (.int .i64 T.gen) (.slice a2 m2 p2)) (.agg #[.slice a7 m7 p7, .int .i64 T.gen, .slice a2 m2 p2]) ⟨iput T.cl c ⟨n, s⟩, T.gen, T.st⟩) := Lib.hid ⟨_, _, rfl, by rw [HS'.out]; rw [← hcount]; exact hrow, hrs⟩
    have HX := Lib.hid hxf
    have HZ := Lib.hid (And.intro z0 (And.intro z1 z2))
    clear hp4 hp5 hx8 hx9 hA hB hC hxf hrow hcount hrs z0 z1 z2 Hown7 Hx7 Hp2 Hp3
    unfold set3 at HF HX HZ
    go_wp2
    have HZ := HZ.out
    have HF := HF.out
    have HX := HX.out
    clear d0 d1 d2 e0 e1 e2 g0 g1 g2
    generalize ((w8.setCell ⟨w.heap.size + 1, 0, none⟩ (.slice a7 m7 p7)).setCell ⟨w.heap.size + 1, 1, none⟩ (.int .i64 T.gen)).setCell ⟨w.heap.size + 1, 2, none⟩ (.slice a2 m2 p2) = w9 at *
    obtain ⟨z0, z1, z2⟩ := HZ
    exact bodyPost_ret (v := .tuple #[.agg #[.slice a7 m7 p7, .int .i64 T.gen, .slice a2 m2 p2], .int .i64 0]) (by simp [results, Try.results28, go_sem, z0, z1, z2]) rfl ⟨_, rfl, HF, HX⟩
end Go.Proofs.Ythligdgkhmgagaa
