/-
  The reference of package names: Lookup. Conditions: IsRef45.
-/
import Derived.Test.YtgmopnbejjfbjaaR12
namespace Go.Proofs.Ytgmopnbejjfbjaa
open Go.RowKit Go.MapKept
open Go.ChangeMaps (setBlock)

def set4 (w : World) (R : Nat) (u0 u1 u2 u3 : Value) : World := (((w.setCell ⟨R, 0, none⟩ u0).setCell ⟨R, 1, none⟩ u1).setCell ⟨R, 2, none⟩ u2).setCell ⟨R, 3, none⟩ u3
theorem set4_done {w : World} {R : Nat} {v0 v1 v2 v3 : Value} {t : TypeId} (h : blk w R = some (.cells #[v0, v1, v2, v3] t (0, 0))) (u0 u1 u2 u3 : Value) :
    blk (set4 w R u0 u1 u2 u3) R = some (.cells #[u0, u1, u2, u3] t (0, 0)) ∧ Ext (fun x => x = R) w (set4 w R u0 u1 u2 u3) := by
  refine ⟨by simpa [set4] using blk_setCell_same (blk_setCell_same (blk_setCell_same (blk_setCell_same h 0 u0) 1 u1) 2 u2) 3 u3, ?_⟩
  exact ((((Ext.refl (fun x => x = R) w).setCell (p := ⟨R, 0, none⟩) u0 (fun _ => rfl)).setCell (p := ⟨R, 1, none⟩) u1 (fun _ => rfl)).setCell (p := ⟨R, 2, none⟩) u2 (fun _ => rfl)).setCell (p := ⟨R, 3, none⟩) u3 (fun _ => rfl)
theorem box4 {w : World} {b : Nat} {v0 v1 v2 v3 : Value} {t : TypeId} {f : Nat × Nat} (h : blk w b = some (.cells #[v0, v1, v2, v3] t f)) : w.cell? ⟨b, 0, none⟩ = some v0 ∧ w.cell? ⟨b, 1, none⟩ = some v1 ∧ w.cell? ⟨b, 2, none⟩ = some v2 ∧ w.cell? ⟨b, 3, none⟩ = some v3 :=
  ⟨by simpa using cell_of_cells h 0, by simpa using cell_of_cells h 1, by simpa using cell_of_cells h 2, by simpa using cell_of_cells h 3⟩
def RLookPost (w : World) (m : List (ByteArray × List Ep) × Ent × Int) (r : Ending) (w' : World) : Prop :=
  ∃ v', r = .returned (.tuple #[v', m.2.1.v, .int .i64 m.2.2]) ∧ IsRef45 w' v' m.1 ∧ Ext (fun _ => False) w w'

set_option maxRecDepth 100000 in
set_option maxHeartbeats 4000000 in
theorem rlookup_short (w : World) (v : Value) (M : List (ByteArray × List Ep)) (hr : IsRef45 w v M) (hn : (M.map Prod.fst).Nodup) (hm : M.length ≤ 1000000) (n : ByteArray) (now : Int) (h : readB now = false ∨ (assoc M n).getD [] = []) :
    Calls Try.prog 26 #[v, .string n, .int .i64 now] w (RLookPost w (lookupM M n now)) := by
  have hr0 := hr
  obtain ⟨R, hr, hR⟩ := hr
  have hg := rising_valN hn hR
  have hRl := ref_length hR
  have hepo := fun (W : World) (hx : Ext (fun _ => False) w W) => epochs_any W v R (hr.keep hx) hg (by omega) n
  have hown := rslot_owns hr n
  have hl := rslot_l hn hR n
  obtain ⟨w0, hw0⟩ : ∃ w0, w0 = w.alloc (.cells #[.string { data := #[] }, .int .i64 0, .int .i64 0, .int .i64 0] 28) := ⟨_, rfl⟩
  have hb0 : blk w0 w.heap.size = some (.cells #[.string { data := #[] }, .int .i64 0, .int .i64 0, .int .i64 0] 28 (0, 0)) := by rw [hw0]; exact blk_alloc_at _ _
  have hx0 : Ext (fun _ => False) w w0 := by rw [hw0]; exact (Ext.refl _ w).alloc _
  have Hr0 := Lib.hid hr0
  have Hx0 := Lib.hid hx0
  have Hepo := Lib.hid hepo
  cases h1 : readB now with
  | false =>
    have hs : lookupM M n now = (M, .zero, 1) := by unfold lookupM; rw [h1]; rfl
    rw [hs]
    have hq := set4_done hb0 (.string { data := #[] }) (.int .i64 0) (.int .i64 0) (.int .i64 0)
    obtain ⟨y0, y1, y2, y3⟩ := box4 hb0
    have f0 := free_of_cells hb0 0
    have f1 := free_of_cells hb0 1
    have f2 := free_of_cells hb0 2
    have f3 := free_of_cells hb0 3
    have Hq1 := Lib.hid (box4 hq.1)
    have Hq2 := Lib.hid (Hx0.out.trans' hq.2 (fun k hk (e : k = w.heap.size) => absurd hk (by omega)))
    unfold set4 at Hq1 Hq2
    clear hs hq hb0 hx0 hr0 hepo hl hown hRl hg hR hr h
    go_enter Try.func26, Try.ntmps26
    go_upto_region 1 with fail
    rw [← hw0]
    clear hw0
    go_wp2_with (first | (go_at_call 41; refine (rreading_any _ _).mono ?_; rintro r w' ⟨rfl, hw⟩; obtain rfl := hw.symm; rw [h1]))
    clear y0 y1 y2 y3 f0 f1 f2 f3
    obtain ⟨z0, z1, z2, z3⟩ := Hq1.out
    exact bodyPost_ret (v := .tuple #[v, .agg #[.string { data := #[] }, .int .i64 0, .int .i64 0, .int .i64 0], .int .i64 1]) (by simp [results, Try.results26, go_sem, z0, z1, z2, z3]) rfl ⟨v, rfl, Hr0.out.keep Hq2.out, Hq2.out⟩
  | true =>
    have h0 : (assoc M n).getD [] = [] := h.resolve_left (by rw [h1]; decide)
    have hs : lookupM M n now = (M, .zero, 6) := by unfold lookupM; rw [h1, h0]; rfl
    rw [hs]
    rw [h0] at hl
    obtain ⟨⟨sv, l⟩, hsl⟩ : ∃ s, rslot R n = s := ⟨_, rfl⟩
    rw [hsl] at Hepo hown hl
    simp only at Hepo hown hl
    subst hl
    obtain ⟨ao, cap, rfl⟩ := ownsRow_shape hown
    have Hb0 := Lib.hid hb0
    clear hs hb0 hx0 hr0 hepo hown hRl hg hR hr h h0 hsl
    go_enter Try.func26, Try.ntmps26
    go_upto_region 1 with fail
    rw [← hw0]
    clear hw0
    go_wp2_with (first | (go_at_call 41; refine (rreading_any _ _).mono ?_; rintro r w' ⟨rfl, hw⟩; obtain rfl := hw.symm; rw [h1]))
    refine (Hepo.out w0 Hx0.out).mono ?_
    rintro r w3 ⟨rfl, hx3⟩
    have hb3 := (hx3.blk (blk_lt Hb0.out) id).trans Hb0.out
    have hq := set4_done hb3 (.string { data := #[] }) (.int .i64 0) (.int .i64 0) (.int .i64 0)
    obtain ⟨y0, y1, y2, y3⟩ := box4 hb3
    have f0 := free_of_cells hb3 0
    have f1 := free_of_cells hb3 1
    have f2 := free_of_cells hb3 2
    have f3 := free_of_cells hb3 3
    have Hq1 := Lib.hid (box4 hq.1)
    have Hq2 := Lib.hid ((Hx0.out.trans hx3).trans' hq.2 (fun k hk (e : k = w.heap.size) => absurd hk (by omega)))
    unfold set4 at Hq1 Hq2
    clear hq hb3 hx3 Hb0
    go_wp2
    clear y0 y1 y2 y3 f0 f1 f2 f3
    obtain ⟨z0, z1, z2, z3⟩ := Hq1.out
    exact bodyPost_ret (v := .tuple #[v, .agg #[.string { data := #[] }, .int .i64 0, .int .i64 0, .int .i64 0], .int .i64 6]) (by simp [results, Try.results26, go_sem, z0, z1, z2, z3]) rfl ⟨v, rfl, Hr0.out.keep Hq2.out, Hq2.out⟩
end Go.Proofs.Ytgmopnbejjfbjaa
