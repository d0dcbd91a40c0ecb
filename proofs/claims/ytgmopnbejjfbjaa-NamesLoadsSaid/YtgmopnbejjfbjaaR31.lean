/-
  Package names: reading an epoch. Conditions: the reader stands as IsRd says.
-/
import Derived.Test.YtgmopnbejjfbjaaQ2
import Derived.Test.YtgmopnbejjfbjaaR25
namespace Go.Proofs.Ytgmopnbejjfbjaa
open Go.RowKit Go.MapKept
open Go.ChangeMaps (setBlock)

def epP (s : RS) : Option (Ep × RS) :=
  if (numberM s).1 ≤ 1099511627776 ∧ (numberM (numberM s).2).1 ≤ 65536 ∧ (numberM (numberM (numberM s).2).2).1 ≤ 1099511627777 ∧ 1 ≤ (numberM s).1 ∧ 1 ≤ (numberM (numberM s).2).1 then
    some (⟨(numberM s).1, (numberM (numberM s).2).1, (numberM (numberM (numberM s).2).2).1⟩, (numberM (numberM (numberM s).2).2).2)
  else none
def EpPost (w : World) (p : Nat) (s : RS) (r : Ending) (w' : World) : Prop :=
  Ext (fun b => b = p) w w' ∧
  match epP s with
  | some (e, s') => r = .returned (.tuple #[.agg #[.int .i64 e.a, .int .i64 e.t, .int .i64 e.g], .bool true]) ∧ IsRd w' p s'
  | none => ∃ e : Ep, r = .returned (.tuple #[.agg #[.int .i64 e.a, .int .i64 e.t, .int .i64 e.g], .bool false]) ∧ ∃ s', IsRd w' p s'
/-- while an epoch is read: the result's box C, the three numbers' box A -/
structure RdSt (w wi : World) (p C A : Nat) (x y z : Int) (s : RS) : Prop where
  ext : Ext (fun b => b = p) w wi
  rd : IsRd wi p s
  c : blk wi C = some (.cells #[.int .i64 0, .int .i64 0, .int .i64 0] 100 (0, 0))
  a : blk wi A = some (.cells #[.int .u64 x, .int .u64 y, .int .u64 z] 148 (0, 0))
theorem IsRd.other {w w' : World} {p B : Nat} {s : RS} {cs : Array Value} {t : TypeId} {f : Nat × Nat} (h : IsRd w p s) (hb : blk w B = some (.cells cs t f)) (hx : Ext (fun b => b = B) w w') (h1 : t ≠ 142) (h2 : t ≠ 5) : IsRd w' p s ∧ ¬ p = B := by
  obtain ⟨v, hp, hv⟩ := h
  have hne : ¬ p = B := fun e => by
    subst e; rw [hb] at hp
    simp only [Option.some.injEq, Obj.cells.injEq] at hp
    exact h1 hp.2.1
  exact ⟨⟨v, (hx.blk (blk_lt hp) hne).trans hp, hv.ext hx (fun g cur hc e => by subst e; exact hc.ne hb h2)⟩, hne⟩
theorem RdSt.num {w wi w' : World} {p C A : Nat} {x y z : Int} {s s' : RS} (h : RdSt w wi p C A x y z s) (hx : Ext (fun b => b = p) wi w') (hr : IsRd w' p s') : RdSt w w' p C A x y z s' := by
  have h1 := (h.rd.other h.c (Ext.refl _ _) (by decide) (by decide)).2
  have h2 := (h.rd.other h.a (Ext.refl _ _) (by decide) (by decide)).2
  exact ⟨h.ext.trans hx, hr, (hx.blk (blk_lt h.c) (fun e => h1 e.symm)).trans h.c, (hx.blk (blk_lt h.a) (fun e => h2 e.symm)).trans h.a⟩
theorem RdSt.set {w wi : World} {p C A : Nat} {x y z : Int} {s : RS} (h : RdSt w wi p C A x y z s) (hA : w.heap.size ≤ A) (hCA : ¬ C = A) (i : Nat) (v : Value) {x' y' z' : Int} (he : #[Value.int .u64 x, .int .u64 y, .int .u64 z].setIfInBounds i v = #[.int .u64 x', .int .u64 y', .int .u64 z']) :
    RdSt w (wi.setCell ⟨A, i, none⟩ v) p C A x' y' z' s := by
  have hx : Ext (fun b => b = A) wi (wi.setCell ⟨A, i, none⟩ v) := (Ext.refl _ wi).setCell _ (fun _ => rfl)
  exact ⟨h.ext.trans' hx (fun k hk (e : k = A) => absurd hk (by omega)), (h.rd.other h.a hx (by decide) (by decide)).1, (hx.blk (blk_lt h.c) hCA).trans h.c, by rw [← he]; exact blk_setCell_same h.a i v⟩
theorem arr_cells {w : World} {A : Nat} {x y z : Int} (h : blk w A = some (.cells #[.int .u64 x, .int .u64 y, .int .u64 z] 148 (0, 0))) : (w.cell? ⟨A, 0, none⟩ = some (.int .u64 x) ∧ w.cell? ⟨A, 1, none⟩ = some (.int .u64 y) ∧ w.cell? ⟨A, 2, none⟩ = some (.int .u64 z)) ∧ (w.frozen? ⟨A, 0, none⟩ = false ∧ w.frozen? ⟨A, 1, none⟩ = false ∧ w.frozen? ⟨A, 2, none⟩ = false) ∧ A < w.heap.size :=
  ⟨box_cells h, ⟨free_of_cells h 0, free_of_cells h 1, free_of_cells h 2⟩, blk_lt h⟩
def set3E (w : World) (R : Nat) (u0 u1 u2 : Value) : World := ((w.setCell ⟨R, 0, none⟩ u0).setCell ⟨R, 1, none⟩ u1).setCell ⟨R, 2, none⟩ u2
theorem set3E_done {w : World} {R : Nat} {v0 v1 v2 : Value} {t : TypeId} (h : blk w R = some (.cells #[v0, v1, v2] t (0, 0))) (u0 u1 u2 : Value) :
    blk (set3E w R u0 u1 u2) R = some (.cells #[u0, u1, u2] t (0, 0)) ∧ Ext (fun b => b = R) w (set3E w R u0 u1 u2) := by
  unfold set3E
  exact ⟨by simpa using blk_setCell_same (blk_setCell_same (blk_setCell_same h 0 u0) 1 u1) 2 u2, (((Ext.refl (fun b => b = R) w).setCell (p := ⟨R, 0, none⟩) _ (fun _ => rfl)).setCell (p := ⟨R, 1, none⟩) _ (fun _ => rfl)).setCell (p := ⟨R, 2, none⟩) _ (fun _ => rfl)⟩
def EpFin (w : World) (p : Nat) (x y z : Nat) (s3 : RS) (r : Ending) (w' : World) : Prop :=
  Ext (fun b => b = p) w w' ∧
  match (if x ≤ 1099511627776 ∧ y ≤ 65536 ∧ z ≤ 1099511627777 ∧ 1 ≤ x ∧ 1 ≤ y then some ((⟨x, y, z⟩ : Ep), s3) else none) with
  | some (e, s') => r = .returned (.tuple #[.agg #[.int .i64 e.a, .int .i64 e.t, .int .i64 e.g], .bool true]) ∧ IsRd w' p s'
  | none => ∃ e : Ep, r = .returned (.tuple #[.agg #[.int .i64 e.a, .int .i64 e.t, .int .i64 e.g], .bool false]) ∧ ∃ s', IsRd w' p s'
theorem epfin_ok {w w' : World} {p x y z : Nat} {s3 : RS} (hx : Ext (fun b => b = p) w w') (hr : IsRd w' p s3) (b1 : x ≤ 1099511627776) (b2 : y ≤ 65536) (b3 : z ≤ 1099511627777) :
    EpFin w p x y z s3 (.returned (.tuple #[.agg #[.int .i64 x, .int .i64 y, .int .i64 z], .bool (decide (1 ≤ x) && decide (1 ≤ y))])) w' := by
  refine ⟨hx, ?_⟩
  by_cases hp : 1 ≤ x ∧ 1 ≤ y
  · rw [if_pos ⟨b1, b2, b3, hp⟩]
    exact ⟨by simp [hp.1, hp.2], hr⟩
  · rw [if_neg (fun h => hp h.2.2.2)]
    exact ⟨⟨x, y, z⟩, by rw [← Bool.decide_and, decide_eq_false hp], s3, hr⟩
theorem epfin_no {w w' : World} {p x y z : Nat} {s3 : RS} (hx : Ext (fun b => b = p) w w') (hr : IsRd w' p s3) (h : ¬ (x ≤ 1099511627776 ∧ y ≤ 65536 ∧ z ≤ 1099511627777)) :
    EpFin w p x y z s3 (.returned (.tuple #[.agg #[.int .i64 0, .int .i64 0, .int .i64 0], .bool false])) w' := by
  refine ⟨hx, ?_⟩
  rw [if_neg (fun h' => h ⟨h'.1, h'.2.1, h'.2.2.1⟩)]
  exact ⟨⟨0, 0, 0⟩, rfl, s3, hr⟩
set_option maxRecDepth 100000 in
set_option maxHeartbeats 4000000 in
theorem readep_any (w : World) (p : Nat) (s : RS) (h : IsRd w p s) : Calls Try.prog 49 #[.pointer (some ⟨p, 0, none⟩)] w (EpPost w p s) := by
  have hlt := h.lt
  obtain ⟨w1, hw1⟩ : ∃ w1, w1 = (w.alloc (.cells #[.int .i64 0, .int .i64 0, .int .i64 0] 100)).alloc (.cells #[.int .u64 0, .int .u64 0, .int .u64 0] 148) := ⟨_, rfl⟩
  have hS : RdSt w w1 p w.heap.size (w.heap.size + 1) 0 0 0 s := by
    rw [hw1]
    exact ⟨((Ext.refl _ w).alloc _).alloc _, h.keep (((Ext.refl _ w).alloc _).alloc _), (blk_alloc_past _ _ _ (by simp)).trans (blk_alloc_at _ _), by simpa using blk_alloc_at (w.alloc (.cells #[.int .i64 0, .int .i64 0, .int .i64 0] 100)) (.cells #[.int .u64 0, .int .u64 0, .int .u64 0] 148)⟩
  obtain ⟨⟨a0, a1, a2⟩, ⟨f0, f1, f2⟩, hltA⟩ := arr_cells hS.a
  have hn1 := fun (W : World) (h : IsRd W p s) => number_any W p s h
  have hn2 := fun (W : World) (h : IsRd W p (numberM s).2) => number_any W p _ h
  have hn3 := fun (W : World) (h : IsRd W p (numberM (numberM s).2).2) => number_any W p _ h
  have hep : epP s = if (numberM s).1 ≤ 1099511627776 ∧ (numberM (numberM s).2).1 ≤ 65536 ∧ (numberM (numberM (numberM s).2).2).1 ≤ 1099511627777 ∧ 1 ≤ (numberM s).1 ∧ 1 ≤ (numberM (numberM s).2).1 then
    some (⟨(numberM s).1, (numberM (numberM s).2).1, (numberM (numberM (numberM s).2).2).1⟩, (numberM (numberM (numberM s).2).2).2) else none := rfl
  have hl1 := numberM_lt s
  have hl2 := numberM_lt (numberM s).2
  have hl3 := numberM_lt (numberM (numberM s).2).2
  generalize numberM (numberM (numberM s).2).2 = n3 at *
  generalize numberM (numberM s).2 = n2 at *
  generalize numberM s = n1 at *
  obtain ⟨x, s1⟩ := n1
  obtain ⟨y, s2⟩ := n2
  obtain ⟨z, s3⟩ := n3
  simp only at hn2 hn3 hep hl1 hl2 hl3
  unfold EpPost
  rw [hep]
  show Calls Try.prog 49 #[.pointer (some ⟨p, 0, none⟩)] w (EpFin w p x y z s3)
  have Hn1 := Lib.hid hn1
  have Hn2 := Lib.hid hn2
  have Hn3 := Lib.hid hn3
  have HS := Lib.hid hS
  have hCA : ¬ w.heap.size = w.heap.size + 1 := by omega
  clear hn1 hn2 hn3 hS h hep
  go_enter Try.func49, Try.ntmps49
  go_upto_region 3 with fail
  rw [← hw1]
  clear hw1
  refine wp_loop_rounds 4 ?_
  rw [rounds_succ]
  go_wp2_with fail
  refine (Hn1.out w1 HS.out.rd).mono ?_
  rintro r w2 ⟨rfl, hr2, hx2⟩
  have hS2 := HS.out.num hx2 hr2
  obtain ⟨⟨a0, a1, a2⟩, ⟨f0, f1, f2⟩, hltA⟩ := arr_cells hS2.a
  have hS3 := hS2.set (by omega) hCA 0 (.int .u64 x) (x' := x) (y' := 0) (z' := 0) rfl
  have HS := Lib.hid hS3
  clear hS2 hS3 hr2 hx2
  go_wp2_with fail
  rw [rounds_succ]
  generalize w2.setCell ⟨w.heap.size + 1, 0, none⟩ (.int .u64 x) = w3 at *
  clear a0 a1 a2 f0 f1 f2 hltA
  go_wp2_with fail
  refine (Hn2.out w3 HS.out.rd).mono ?_
  rintro r w4 ⟨rfl, hr4, hx4⟩
  have hS4 := HS.out.num hx4 hr4
  obtain ⟨⟨a0, a1, a2⟩, ⟨f0, f1, f2⟩, hltA⟩ := arr_cells hS4.a
  have hS5 := hS4.set (by omega) hCA 1 (.int .u64 y) (x' := x) (y' := y) (z' := 0) rfl
  have HS := Lib.hid hS5
  clear hS4 hS5 hr4 hx4
  go_wp2_with fail
  rw [rounds_succ]
  generalize w4.setCell ⟨w.heap.size + 1, 1, none⟩ (.int .u64 y) = w5 at *
  clear a0 a1 a2 f0 f1 f2 hltA
  go_wp2_with fail
  refine (Hn3.out w5 HS.out.rd).mono ?_
  rintro r w6 ⟨rfl, hr6, hx6⟩
  have hS6 := HS.out.num hx6 hr6
  obtain ⟨⟨a0, a1, a2⟩, ⟨f0, f1, f2⟩, hltA⟩ := arr_cells hS6.a
  have hS7 := hS6.set (by omega) hCA 2 (.int .u64 z) (x' := x) (y' := y) (z' := z) rfl
  have HS := Lib.hid hS7
  clear hS6 hS7 hr6 hx6
  go_wp2_with fail
  rw [rounds_succ]
  generalize w6.setCell ⟨w.heap.size + 1, 2, none⟩ (.int .u64 z) = w7 at *
  clear a0 a1 a2 f0 f1 f2 hltA
  obtain ⟨⟨a0, a1, a2⟩, ⟨f0, f1, f2⟩, hltA⟩ := arr_cells HS.out.a
  obtain ⟨c0, c1, c2⟩ := box_cells HS.out.c
  have g0 := free_of_cells HS.out.c 0
  have g1 := free_of_cells HS.out.c 1
  have g2 := free_of_cells HS.out.c 2
  have hltC := blk_lt HS.out.c
  have hAC : ¬ w.heap.size + 1 = w.heap.size := by omega
  by_cases hbig : x ≤ 1099511627776 ∧ y ≤ 65536 ∧ z ≤ 1099511627777
  · obtain ⟨b1, b2, b3⟩ := hbig
    have i1 : IntKind.i64.wrap (x : Int) = x := IntWalk.i64_in _ (by omega)
    have i2 : IntKind.i64.wrap (y : Int) = y := IntWalk.i64_in _ (by omega)
    have i3 : IntKind.i64.wrap (z : Int) = z := IntWalk.i64_in _ (by omega)
    go_upto_region 10 with fail
    have hx8 := HS.out.ext.alloc (.cells #[.int .i64 x, .int .i64 y, .int .i64 z] 100)
    have hb8 := blk_alloc_at w7 (.cells #[.int .i64 x, .int .i64 y, .int .i64 z] 100)
    have hc8 := (blk_alloc_past w7 (.cells #[.int .i64 x, .int .i64 y, .int .i64 z] 100) _ hltC).trans HS.out.c
    have hr8 := HS.out.rd.keep ((Ext.refl (fun _ => False) w7).alloc (.cells #[.int .i64 x, .int .i64 y, .int .i64 z] 100))
    have hX : ¬ w.heap.size = w7.heap.size := by omega
    have hwX : w.heap.size < w7.heap.size := hltC
    clear a0 a1 a2 f0 f1 f2 c0 c1 c2 g0 g1 g2 HS hltA hltC
    generalize w7.alloc (.cells #[.int .i64 x, .int .i64 y, .int .i64 z] 100) = w8 at *
    generalize w7.heap.size = X at *
    obtain ⟨d0, d1, d2⟩ := box_cells hb8
    have hv : validB x y = decide (1 ≤ x ∧ 1 ≤ y) := by
      unfold validB
      by_cases h1 : 1 ≤ x <;> by_cases h2 : 1 ≤ y <;> simp [h1, h2, b1, b2] <;> omega
    have Hb8 := Lib.hid hb8
    have Hc8 := Lib.hid hc8
    have Hr8 := Lib.hid hr8
    have Hx8 := Lib.hid hx8
    have hlX := blk_lt hb8
    have hlC := blk_lt hc8
    clear hb8 hc8 hr8 hx8
    go_region_held3 (fun w' => w'.cell? ⟨X, 0, none⟩ = some (.int .i64 x) ∧ w'.cell? ⟨X, 1, none⟩ = some (.int .i64 y) ∧ w'.cell? ⟨X, 2, none⟩ = some (.int .i64 z))
      (first | (refine ⟨?_, ?_, ?_⟩ <;> (with_reducible assumption)) | (refine ⟨?_, ?_, ?_⟩ <;> (simp only [cell?_setCell_if, hX, false_and, if_false]; with_reducible assumption)) | go_keep)
      (first | (go_at_call 36; have q3 := valid_any (x : Int) (y : Int) (z : Int) w8.drew; (with_reducible refine q3.mono ?_); clear q3; rintro r w9 ⟨rfl, hx9d⟩; have hx9 : Ext (fun _ => False) w8 w9 := ((Ext.refl _ w8).drew).trans hx9d; have hc9 := (hx9.blk hlC id).trans Hc8.out; obtain ⟨c0, c1, c2⟩ := box_cells hc9; obtain ⟨e0, e1, e2⟩ := box_cells ((hx9.blk hlX id).trans Hb8.out); have g0 := free_of_cells hc9 0; have g1 := free_of_cells hc9 1; have g2 := free_of_cells hc9 2; have hltC := blk_lt hc9; have Hr9 := Lib.hid (Hr8.out.keep hx9); have Hx9 := Lib.hid (Hx8.out.trans' hx9 (fun _ _ e => e.elim)); have Hc9 := Lib.hid hc9; clear hx9 hx9d hc9 d0 d1 d2))
    have hq := set3E_done Hc9.out (.int .i64 x) (.int .i64 y) (.int .i64 z)
    obtain ⟨z0, z1, z2⟩ := box_cells hq.1
    have Hrr := Lib.hid (Hr9.out.other Hc9.out hq.2 (by decide) (by decide)).1
    have Hxx := Lib.hid (Hx9.out.trans' hq.2 (fun k hk (e : k = w.heap.size) => absurd hk (by omega)))
    clear hq c0 c1 c2 e0 e1 e2 g0 g1 g2
    unfold set3E at z0 z1 z2 Hrr Hxx
    go_wp2
    exact bodyPost_ret (v := .tuple #[.agg #[.int .i64 x, .int .i64 y, .int .i64 z], .bool (decide (1 ≤ x) && decide (1 ≤ y))]) (by simp [results, Try.results49, go_sem, z0, z1, z2]) rfl (epfin_ok Hxx.out Hrr.out b1 b2 b3)
  · have hq := set3E_done HS.out.c (.int .i64 0) (.int .i64 0) (.int .i64 0)
    obtain ⟨z0, z1, z2⟩ := box_cells hq.1
    have Hrr := Lib.hid (HS.out.rd.other HS.out.c hq.2 (by decide) (by decide)).1
    have Hxx := Lib.hid (HS.out.ext.trans' hq.2 (fun k hk (e : k = w.heap.size) => absurd hk (by omega)))
    clear hq
    unfold set3E at z0 z1 z2 Hrr Hxx
    have Hbig := Lib.hid hbig
    by_cases b1 : x ≤ 1099511627776
    · by_cases b2 : y ≤ 65536
      · have b3 : ¬ z ≤ 1099511627777 := fun h => hbig ⟨b1, b2, h⟩
        clear hbig
        go_wp2
        exact bodyPost_ret (v := .tuple #[.agg #[.int .i64 0, .int .i64 0, .int .i64 0], .bool false]) (by simp [results, Try.results49, go_sem, z0, z1, z2]) rfl (epfin_no Hxx.out Hrr.out Hbig.out)
      · clear hbig
        go_wp2
        exact bodyPost_ret (v := .tuple #[.agg #[.int .i64 0, .int .i64 0, .int .i64 0], .bool false]) (by simp [results, Try.results49, go_sem, z0, z1, z2]) rfl (epfin_no Hxx.out Hrr.out Hbig.out)
    · clear hbig
      go_wp2
      exact bodyPost_ret (v := .tuple #[.agg #[.int .i64 0, .int .i64 0, .int .i64 0], .bool false]) (by simp [results, Try.results49, go_sem, z0, z1, z2]) rfl (epfin_no Hxx.out Hrr.out Hbig.out)
end Go.Proofs.Ytgmopnbejjfbjaa
