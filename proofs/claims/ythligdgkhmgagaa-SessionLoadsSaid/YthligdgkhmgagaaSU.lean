/-
  Package session: put and the two functions that write a row. Conditions: the slice is the caller's own; numbers not negative.
-/
import Derived.Test.YthligdgkhmgagaaST
namespace Go.Proofs.Ythligdgkhmgagaa
open Go.RowKit Go.MapKept
open Go.ChangeMaps (setBlock)

theorem appendNumber_of (w : World) (v : Value) (l : List UInt8) (n : Nat) {x : Int} (hx : x = n) (hb : IsBytes w v l) (hn : n ≤ 18446744073709551615) (hl : l.length ≤ 1073741824) :
    Calls Try.prog 73 #[v, .int .u64 x] w (AppPost w v (l ++ encNum n)) := by subst hx; exact appendNumber_any w v l n hb hn hl
theorem AppPost.trans {w w1 w2 : World} {v v1 : Value} {l : List UInt8} {r : Ending} (hx : Ext (fun b => v.ownBlock = some b) w w1) (ha : ∀ g, v1.ownBlock = some g → v.ownBlock = some g ∨ w.heap.size ≤ g) (h : AppPost w1 v1 l r w2) : AppPost w v l r w2 := by
  obtain ⟨v2, rfl, hb, hx2, ha2⟩ := h
  refine ⟨v2, rfl, hb, hx.trans' hx2 (fun k hk e => (ha k e).elim id (fun h => absurd hk (Nat.not_lt.2 h))), fun g hg => ?_⟩
  rcases ha2 g hg with h | h
  · exact ha g h
  · exact .inr (Nat.le_trans hx.size h)
set_option maxRecDepth 100000 in
set_option maxHeartbeats 1000000 in
theorem put1_any (w : World) (v : Value) (l : List UInt8) (g cap : Nat) (a : Nat) (hb : IsBytes w v l) (hl : l.length ≤ 1073741000) (h0 : w.cell? ⟨g, 0, none⟩ = some (.int .i64 a)) (ha : a ≤ 9223372036854775807) :
    Calls Try.prog 45 #[v, .slice (some ⟨g, 0, none⟩) 1 cap] w (AppPost w v (l ++ encNum a)) := by
  have Hb := Lib.hid hb
  obtain ⟨ab, cb, rfl⟩ := hb.shape
  have hn : IntKind.u64.wrap (a : Int) = a := u64_nat a (by omega)
  have Hn := Lib.hid hn
  clear hb hn
  go_enter Try.func45, Try.ntmps45
  go_wp2_with fail
  refine wp_loop_rounds 2 ?_
  rw [rounds_succ]
  go_wp2_with fail
  refine (appendNumber_of _ _ l a rfl Hb.out (by omega) (by omega)).mono ?_
  rintro r w1 ⟨v1, rfl, h⟩
  have H := Lib.hid h
  clear h
  go_wp2_with fail
  rw [rounds_succ]
  go_wp2
  go_ret
  exact ⟨v1, rfl, H.out⟩
set_option maxRecDepth 100000 in
set_option maxHeartbeats 1000000 in
theorem put2_any (w : World) (v : Value) (l : List UInt8) (g cap : Nat) (a b : Nat) (hb : IsBytes w v l) (hl : l.length ≤ 1073741000) (h0 : w.cell? ⟨g, 0, none⟩ = some (.int .i64 a)) (h1 : w.cell? ⟨g, 1, none⟩ = some (.int .i64 b)) (hg : v.ownBlock ≠ some g)
    (ha : a ≤ 9223372036854775807) (hbb : b ≤ 9223372036854775807) :
    Calls Try.prog 45 #[v, .slice (some ⟨g, 0, none⟩) 2 cap] w (AppPost w v (l ++ encNum a ++ encNum b)) := by
  have Hb := Lib.hid hb
  have hgl := World.block_lt_of_cell? w _ h1
  simp only at hgl
  obtain ⟨ab, cb, rfl⟩ := hb.shape
  have Hg := Lib.hid hg
  clear hb hg
  go_enter Try.func45, Try.ntmps45
  go_wp2_with fail
  refine wp_loop_rounds 3 ?_
  rw [rounds_succ]
  go_wp2_with fail
  refine (appendNumber_of _ _ l a rfl Hb.out (by omega) (by omega)).mono ?_
  rintro r w1 ⟨v1, rfl, hb1, hx1, ha1⟩
  have h1' := (hx1.cell (p := ⟨g, 1, none⟩) hgl Hg.out).trans h1
  have Hb1 := Lib.hid hb1
  have Hx1 := Lib.hid hx1
  have Ha1 := Lib.hid ha1
  clear hb1 hx1 ha1 h0 h1
  go_wp2_with fail
  rw [rounds_succ]
  go_wp2_with fail
  refine (appendNumber_of _ _ _ b rfl Hb1.out (by omega) (by have := encNum_length a (by omega); rw [List.length_append]; omega)).mono ?_
  rintro r w2 h2
  obtain ⟨v2, rfl, h3⟩ := AppPost.trans Hx1.out Ha1.out h2
  have H := Lib.hid h3
  clear h2 h3
  go_wp2_with fail
  rw [rounds_succ]
  go_wp2
  go_ret
  exact ⟨v2, rfl, H.out⟩
set_option maxRecDepth 100000 in
set_option maxHeartbeats 1000000 in
theorem clo2_any (w : World) (v : Value) (l : List UInt8) (k : Nat) (c : Int) (hb : IsBytes w v l) (hl : l.length ≤ 1073740000) (hk : k ≤ 9223372036854775807) (hc : InR c) :
    Calls Try.prog 47 #[v, .int .i64 k, .int .i64 c] w (AppPost w v (l ++ encS (k, c))) := by
  have Hb := Lib.hid hb
  obtain ⟨ab, cb, rfl⟩ := hb.shape
  clear hb
  go_enter Try.func47, Try.ntmps47
  go_wp2_with fail
  refine (put1_any _ _ l _ _ k (Hb.out.ext (S := fun _ => False) ((Ext.refl _ w).alloc _) (fun _ _ h => h)) (by omega) (by simp) hk).mono ?_
  rintro r w1 ⟨v1, rfl, hb1, hx1, ha1⟩
  have hx1' : Ext (fun b => (Value.slice ab l.length cb).ownBlock = some b) w w1 := ((Ext.refl _ w).alloc _).trans hx1
  have ha1' : ∀ g, v1.ownBlock = some g → (Value.slice ab l.length cb).ownBlock = some g ∨ w.heap.size ≤ g := fun g e => (ha1 g e).imp id (fun h => by simp at h; omega)
  have Hb1 := Lib.hid hb1
  have Hx1 := Lib.hid hx1'
  have Ha1 := Lib.hid ha1'
  clear hb1 hx1 ha1 hx1' ha1'
  go_wp2_with fail
  refine (appendInt_any _ _ _ c Hb1.out hc.1 hc.2 (by have := encNum_length k (by omega); rw [List.length_append]; omega)).mono ?_
  rintro r w2 h2
  obtain ⟨v2, rfl, h3⟩ := AppPost.trans Hx1.out Ha1.out h2
  have H := Lib.hid h3
  clear h2 h3
  go_wp2
  go_ret
  refine ⟨v2, rfl, ?_⟩
  have := H.out
  simpa [encS] using this
end Go.Proofs.Ythligdgkhmgagaa
