/-
  (*Registry).Publish in every case, and (*Registry).MayCut, return what publishM and mayCutM say. Conditions: the registry stands as IsReg says, its epochs are valid.
-/
import Derived.Test.YtgmopnbejjfbjaaX8
namespace Go.Proofs.Ytgmopnbejjfbjaa
open Go.RowKit Go.MapKept
open Go.ChangeMaps (setBlock)
theorem PubPost.same {w w' : World} {rb mb : Nat} {L : List (ByteArray × Slot)} {m : List (ByteArray × List Ep) × Int × Int} (hR : IsReg w rb mb L) (hx : Ext (fun _ => False) w w') (hm : m.1 = regM L) :
    PubPost w rb mb L m (.returned (.tuple #[.int .i64 m.2.1, .int .i64 m.2.2])) w' :=
  ⟨rfl, hx.mono (fun _ _ h => h.elim), L, hR.ext hx (fun _ _ h => h), hm.symm, fun _ h => .inl h⟩
set_option maxRecDepth 100000 in
set_option maxHeartbeats 1000000 in
theorem publish_arg (rb mb : Nat) (w : World) (L : List (ByteArray × Slot)) (hR : IsReg w rb mb L) (n : ByteArray) (a t now : Int) (hns : n.size ≤ 9223372036854775807)
    (hb : (isNameB n && validB a t && readB now) = false) :
    Calls Try.prog 19 #[.pointer (some ⟨rb, 0, none⟩), .string n, .int .i64 a, .int .i64 t, .int .i64 now] w (PubPost w rb mb L (publishM (regM L) n a t now)) := by
  have hs : publishM (regM L) n a t now = (regM L, 0, 1) := by unfold publishM; rw [hb]; rfl
  rw [hs]
  have HR := Lib.hid hR
  clear hs hR
  cases h1 : isNameB n
  · clear hb
    go_enter Try.func19, Try.ntmps19
    go_wp2_with (first | (go_at_call 35; refine (isName_any _ _ hns).mono ?_; rintro r w' ⟨rfl, rfl⟩; rw [h1]))
    go_ret2
    exact PubPost.same HR.out (by repeat (first | exact Ext.refl _ _ | apply Ext.drew | apply Ext.alloc)) rfl
  · cases h2 : validB a t
    · clear hb
      go_enter Try.func19, Try.ntmps19
      go_wp2_with (first | (go_at_call 35; refine (isName_any _ _ hns).mono ?_; rintro r w' ⟨rfl, rfl⟩; rw [h1]) | (go_at_call 36; refine (valid_any _ _ _ _).mono ?_; rintro r W ⟨rfl, hx1⟩; rw [h2]))
      go_ret2
      exact PubPost.same HR.out (((Ext.refl _ w).alloc _).trans' (T := fun _ => False) hx1 (fun _ _ h => h)) rfl
    · have h3 : readB now = false := by simpa [h1, h2] using hb
      clear hb
      go_enter Try.func19, Try.ntmps19
      go_wp2_with (first | (go_at_call 35; refine (isName_any _ _ hns).mono ?_; rintro r w' ⟨rfl, rfl⟩; rw [h1]) | (go_at_call 36; refine (valid_any _ _ _ _).mono ?_; rintro r W ⟨rfl, hx1⟩; rw [h2]) | (go_at_call 37; refine (reading_any _ _).mono ?_; rintro r w' ⟨rfl, hw⟩; obtain rfl := hw.symm; rw [h3]))
      go_ret2
      exact PubPost.same HR.out (((Ext.refl _ w).alloc _).trans' (T := fun _ => False) hx1 (fun _ _ h => h)) rfl

set_option maxRecDepth 100000 in
set_option maxHeartbeats 1000000 in
theorem publish_large (rb mb : Nat) (w : World) (L : List (ByteArray × Slot)) (hR : IsReg w rb mb L) (n : ByteArray) (a t now : Int) (hns : n.size ≤ 9223372036854775807)
    (h1 : isNameB n = true) (h2 : validB a t = true) (h3 : readB now = true) (h4 : 1024 ≤ (slotL L n).length) :
    Calls Try.prog 19 #[.pointer (some ⟨rb, 0, none⟩), .string n, .int .i64 a, .int .i64 t, .int .i64 now] w (PubPost w rb mb L (publishM (regM L) n a t now)) := by
  have hs : publishM (regM L) n a t now = (regM L, 0, 8) := by
    unfold publishM
    simp only [h1, h2, h3, Bool.and_self, if_true, ← slotL_eq]
    rw [if_pos h4]
  rw [hs]
  have ⟨hc, ⟨es, clock, hm, hl⟩, _⟩ := hR
  have hown := hR.owns n
  obtain ⟨ao, cap, hv⟩ := ownsRow_shape hown
  have hlk : ∀ W : World, blk W mb = some (.map es clock) → (Instr.lookup 94 (.map (some mb)) (.string n) false).run Try.prog W = .ok (.slice ao (slotL L n).length cap) W := fun W hW => by
    have := run_lookup_str (P := Try.prog) Try.underlying94 Try.underlying9 hW hl.1 (zero103 W) n false
    rw [this, ← hv]
    unfold slotV
    rw [assoc_map]
    cases assoc L n <;> rfl
  have hrb := blk_lt hc
  have hmb := blk_lt hm
  have hc0 := cell_of_cells hc 0
  simp at hc0
  have HR := Lib.hid hR
  have Hown := Lib.hid hown
  have Hv := Lib.hid hv
  clear hR hs hown hv hc hl
  generalize hk : (slotL L n).length = k at *
  have Hk := Lib.hid hk
  clear hk
  have h4' : (1024 : Int) ≤ k := by omega
  go_enter Try.func19, Try.ntmps19
  go_wp2_with (first | (go_at_call 35; refine (isName_any _ _ hns).mono ?_; rintro r w' ⟨rfl, rfl⟩; rw [h1]))
  refine (valid_any _ _ _ _).mono ?_
  rintro r W ⟨rfl, hx1⟩
  rw [h2]
  have q0 : W.cell? ⟨rb, 0, none⟩ = some (.map (some mb)) := (hx1.cell (p := ⟨rb, 0, none⟩) (by simp; omega) id).trans (by simp [World.cell?_alloc_past, hrb, hc0])
  have q4 : blk W mb = some (.map es clock) := (hx1.blk (by simp; omega) id).trans (by rw [blk_alloc_past _ _ _ hmb]; exact hm)
  have hxW : Ext (fun _ => False) w W := ((Ext.refl _ w).alloc _).trans' (T := fun _ => False) hx1 (fun _ _ h => h)
  have HxW := Lib.hid hxW
  clear hxW hx1 hc0 hm
  go_wp2_with (first | (go_at_call 37; refine (reading_any _ _).mono ?_; rintro r w' ⟨rfl, hw⟩; obtain rfl := hw.symm; rw [h3]))
  go_ret2
  exact PubPost.same HR.out HxW.out rfl

theorem publish_any (rb mb : Nat) (w : World) (L : List (ByteArray × Slot)) (hR : IsReg w rb mb L) (n : ByteArray) (a t now : Int) (hns : n.size ≤ 9223372036854775807) :
    Calls Try.prog 19 #[.pointer (some ⟨rb, 0, none⟩), .string n, .int .i64 a, .int .i64 t, .int .i64 now] w (PubPost w rb mb L (publishM (regM L) n a t now)) := by
  cases hb : (isNameB n && validB a t && readB now)
  · exact publish_arg rb mb w L hR n a t now hns hb
  · simp only [Bool.and_eq_true] at hb
    by_cases h4 : (slotL L n).length < 1024
    · exact publish_ok rb mb w L hR n a t now hns hb.1.1 hb.1.2 hb.2 h4
    · exact publish_large rb mb w L hR n a t now hns hb.1.1 hb.1.2 hb.2 (by omega)

/-! ### MayCut -/
def mayCutM (M : List (ByteArray × List Ep)) (n : ByteArray) (ep now : Int) : Bool :=
  let l := (assoc M n).getD []
  if ep < 1 ∨ (l.length : Int) ≤ ep then false else
    match l[(ep - 1).toNat]? with
    | some x => decide (x.g = 0) || decide (x.g - 1 + marginI x.t ≤ now)
    | none => false

def okEp (x : Ep) : Prop := 1 ≤ x.a ∧ x.a ≤ 1099511627776 ∧ 1 ≤ x.t ∧ x.t ≤ 65536 ∧ 0 ≤ x.g ∧ x.g ≤ 1099511627777

set_option maxRecDepth 100000 in
set_option maxHeartbeats 1000000 in
theorem maycut_any (rb mb : Nat) (w : World) (L : List (ByteArray × Slot)) (hR : IsReg w rb mb L) (n : ByteArray) (ep now : Int) (hL : ∀ x ∈ slotL L n, okEp x) (hlen : (slotL L n).length ≤ 1024) (hep : -9223372036854775808 ≤ ep) :
    Calls Try.prog 22 #[.pointer (some ⟨rb, 0, none⟩), .string n, .int .i64 ep, .int .i64 now] w (ValPost w (mayCutM (regM L) n ep now)) := by
  have ⟨hc, ⟨es, clock, hm, hl⟩, _⟩ := hR
  have hown := hR.owns n
  obtain ⟨ao, cap, hv⟩ := ownsRow_shape hown
  have hlk : ∀ W : World, blk W mb = some (.map es clock) → (Instr.lookup 94 (.map (some mb)) (.string n) false).run Try.prog W = .ok (.slice ao (slotL L n).length cap) W := fun W hW => by
    have := run_lookup_str (P := Try.prog) Try.underlying94 Try.underlying9 hW hl.1 (zero103 W) n false
    rw [this, ← hv]
    unfold slotV
    rw [assoc_map]
    cases assoc L n <;> rfl
  have hrb := blk_lt hc
  have hmb := blk_lt hm
  have hc0 := cell_of_cells hc 0
  simp at hc0
  obtain ⟨f0, f1, f2, f3, f4, f5⟩ := ne_sizes hmb
  have hs : mayCutM (regM L) n ep now = if ep < 1 ∨ ((slotL L n).length : Int) ≤ ep then false else
    match (slotL L n)[(ep - 1).toNat]? with
    | some x => decide (x.g = 0) || decide (x.g - 1 + marginI x.t ≤ now)
    | none => false := by unfold mayCutM; rw [slotL_eq]
  by_cases h1 : ep < 1
  · rw [hs, if_pos (.inl h1)]
    clear hs hR hL hl hc hown
    go_enter Try.func22, Try.ntmps22
    go_wp2
    go_ret
    exact ⟨rfl, Ext.refl _ _⟩
  · by_cases h2 : ((slotL L n).length : Int) ≤ ep
    · rw [hs, if_pos (.inr h2)]
      clear hs hR hL hl hc hown hv
      generalize (slotL L n).length = k at *
      go_enter Try.func22, Try.ntmps22
      go_wp2
      go_ret
      exact ⟨rfl, Ext.refl _ _⟩
    · obtain ⟨q, hq⟩ := Int.eq_ofNat_of_zero_le (show 0 ≤ ep - 1 by omega)
      obtain rfl : ep = q + 1 := by omega
      have hlt : q < (slotL L n).length := by omega
      have e1 : ((q : Int) + 1 - 1).toNat = q := by omega
      rw [hs, if_neg (by omega), e1, List.getElem?_eq_getElem hlt]
      have hx := hL _ (List.getElem_mem hlt)
      have hcs : ∀ j u, ((slotL L n)[q]).cs[j]? = some u → ∃ g, ao = some ⟨g, 0, none⟩ ∧ w.cell? ⟨g, q * 3 + j, none⟩ = some u := fun j u h => by
        have hj : j < 3 := (List.getElem?_eq_some_iff.1 h).1
        rw [hv] at hown
        cases ao with
        | none =>
          rcases hown.2 with ⟨h5, h6⟩ | ⟨g', cap', cur, h5, _⟩
          · omega
          · cases h5
        | some ad =>
          have hsh : ∃ g, ad = ⟨g, 0, none⟩ := by
            rcases hown.2 with ⟨h5, h6⟩ | ⟨g', cap', cur, h5, _⟩
            · cases h5
            · cases h5; exact ⟨g', rfl⟩
          obtain ⟨g, rfl⟩ := hsh
          have := hown.cells (g := g) rfl (q * 3 + j) u (by rw [eps_get _ q hlt j hj]; exact h)
          exact ⟨g, rfl, by rwa [Addr.add_lit, Nat.zero_add] at this⟩
      obtain ⟨⟨xa, xt, xg⟩, hy⟩ : ∃ y, (slotL L n)[q] = y := ⟨_, rfl⟩
      rw [hy] at hcs hx ⊢
      show Calls Try.prog 22 _ w (ValPost w (decide (xg = 0) || decide (xg - 1 + marginI xt ≤ now)))
      obtain ⟨g, rfl, c0⟩ := hcs 0 _ rfl
      have c1 : w.cell? ⟨g, q * 3 + 1, none⟩ = some (.int .i64 xt) := by obtain ⟨g', e, c⟩ := hcs 1 _ rfl; cases e; exact c
      have c2 : w.cell? ⟨g, q * 3 + 2, none⟩ = some (.int .i64 xg) := by obtain ⟨g', e, c⟩ := hcs 2 _ rfl; cases e; exact c
      simp only [Nat.add_zero] at c0
      simp only [okEp] at hx
      obtain ⟨b1, b2, b3, b4, b5, b6⟩ := hx
      clear hs hR hL hl hc hown hv hcs hy
      generalize (slotL L n).length = k at *
      have hm0 : 0 ≤ marginI xt ∧ marginI xt ≤ 100000 := by unfold marginI; omega
      obtain ⟨m0, m1⟩ := hm0
      by_cases hg0 : xg = 0
      · subst hg0
        rw [show (decide ((0 : Int) = 0) || decide ((0 : Int) - 1 + marginI xt ≤ now)) = true from by simp]
        go_enter Try.func22, Try.ntmps22
        go_wp2
        go_quiet (fail)
        go_wp2
        go_ret
        exact ⟨rfl, by repeat (first | exact Ext.refl _ _ | apply Ext.drewN | apply Ext.drew | apply Ext.alloc)⟩
      · have hg1 : (xg == 0) = false := by simpa using hg0
        have w1 : IntKind.i64.wrap (xg - 1) = xg - 1 := IntWalk.i64_in _ (by omega)
        have w2 : IntKind.i64.wrap (xg - 1 + marginI xt) = xg - 1 + marginI xt := IntWalk.i64_in _ (by omega)
        have hb : (decide (xg = 0) || decide (xg - 1 + marginI xt ≤ now)) = decide (xg - 1 + marginI xt ≤ now) := by simp [hg0]
        rw [hb]
        clear hb hg0
        go_enter Try.func22, Try.ntmps22
        go_wp2
        go_quiet ((go_at_call 27; exact Calls.quiet_of_same (margin_any _ _ (by omega) (by omega))))
        go_wp2
        go_ret
        exact ⟨ret_bool (by first | rfl | simp), by repeat (first | exact Ext.refl _ _ | apply Ext.drewN | apply Ext.drew | apply Ext.alloc)⟩
end Go.Proofs.Ytgmopnbejjfbjaa
