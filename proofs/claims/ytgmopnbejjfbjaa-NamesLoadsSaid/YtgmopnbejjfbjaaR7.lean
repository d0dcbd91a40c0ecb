/-
  The reference of package names: MayCut. Conditions: IsRef45; the epochs are valid.
-/
import Derived.Test.YtgmopnbejjfbjaaR6
namespace Go.Proofs.Ytgmopnbejjfbjaa
open Go.RowKit Go.MapKept
open Go.ChangeMaps (setBlock)

set_option maxRecDepth 100000 in
set_option maxHeartbeats 2000000 in
theorem rmaycut_any (w : World) (v : Value) (M : List (ByteArray × List Ep)) (hr : IsRef45 w v M) (hn : (M.map Prod.fst).Nodup) (hm : M.length ≤ 1000000) (n : ByteArray) (ep now : Int)
    (hL : ∀ x ∈ (assoc M n).getD [], okEp x) (hlen : ((assoc M n).getD []).length ≤ 1024) (hep : -9223372036854775808 ≤ ep) :
    Calls Try.prog 55 #[v, .string n, .int .i64 ep, .int .i64 now] w (StayPost w (.bool (mayCutM M n ep now))) := by
  obtain ⟨R, hr, hR⟩ := hr
  have hg := rising_valN hn hR
  have hRl := ref_length hR
  have hepo := fun (W : World) (hx : Ext (fun _ => False) w W) => epochs_any W v R (hr.keep hx) hg (by omega) n
  have hown := rslot_owns hr n
  have hl := rslot_l hn hR n
  rw [← hl] at hL hlen
  have hs : mayCutM M n ep now = if ep < 1 ∨ ((rslot R n).l.length : Int) ≤ ep then false else
    match (rslot R n).l[(ep - 1).toNat]? with
    | some x => decide (x.g = 0) || decide (x.g - 1 + marginI x.t ≤ now)
    | none => false := by unfold mayCutM; rw [hl]; rfl
  rw [hs]
  clear hs hl
  obtain ⟨⟨sv, l⟩, hsl⟩ : ∃ s, rslot R n = s := ⟨_, rfl⟩
  rw [hsl] at hepo hown hL hlen ⊢
  clear hsl
  simp only at hepo hown hL hlen ⊢
  obtain ⟨ao, cap, rfl⟩ := ownsRow_shape hown
  obtain ⟨aR, cR, rfl⟩ := ownsRow_shape hr.1
  generalize R.length = N at *
  have Hepo := Lib.hid hepo
  have Hown := Lib.hid hown
  clear hepo hown hr hR hg hm hn hRl
  by_cases h1 : ep < 1
  · rw [if_pos (.inl h1)]
    generalize l.length = k at *
    clear Hown hL
    go_enter Try.func55, Try.ntmps55
    go_wp2_with fail
    refine (Hepo.out _ (Ext.refl _ w)).mono ?_
    rintro r w3 ⟨rfl, hx3⟩
    have Hx3 := Lib.hid hx3
    clear hx3
    go_wp2
    go_ret
    exact ⟨rfl, Hx3.out⟩
  · by_cases h2 : (l.length : Int) ≤ ep
    · rw [if_pos (.inr h2)]
      generalize l.length = k at *
      clear Hown hL
      go_enter Try.func55, Try.ntmps55
      go_wp2_with fail
      refine (Hepo.out _ (Ext.refl _ w)).mono ?_
      rintro r w3 ⟨rfl, hx3⟩
      have Hx3 := Lib.hid hx3
      clear hx3
      go_wp2
      go_ret
      exact ⟨rfl, Hx3.out⟩
    · obtain ⟨q, hq⟩ := Int.eq_ofNat_of_zero_le (show 0 ≤ ep - 1 by omega)
      obtain rfl : ep = q + 1 := by omega
      have hlt : q < l.length := by omega
      have e1 : ((q : Int) + 1 - 1).toNat = q := by omega
      rw [if_neg (by omega), e1, List.getElem?_eq_getElem hlt]
      have hx := hL _ (List.getElem_mem hlt)
      obtain ⟨g, rfl, hglt⟩ := row_form Hown.out (by omega)
      have hcs : ∀ j u, (l[q]).cs[j]? = some u → w.cell? ⟨g, q * 3 + j, none⟩ = some u := fun j u h => by
        have hj : j < 3 := (List.getElem?_eq_some_iff.1 h).1
        have := Hown.out.cells (g := g) rfl (q * 3 + j) u (by rw [eps_get _ q hlt j hj]; exact h)
        rwa [Addr.add_lit, Nat.zero_add] at this
      obtain ⟨⟨xa, xt, xg⟩, hy⟩ : ∃ y, l[q] = y := ⟨_, rfl⟩
      rw [hy] at hcs hx ⊢
      show Calls Try.prog 55 _ w (StayPost w (.bool (decide (xg = 0) || decide (xg - 1 + marginI xt ≤ now))))
      have Hcs := Lib.hid (And.intro (hcs 0 _ rfl) (And.intro (hcs 1 _ rfl) (hcs 2 _ rfl)))
      simp only [okEp] at hx
      obtain ⟨b1, b2, b3, b4, b5, b6⟩ := hx
      clear hL hcs hy Hown
      generalize l.length = k at *
      have hm0 : 0 ≤ marginI xt ∧ marginI xt ≤ 100000 := by unfold marginI; omega
      obtain ⟨m0, m1⟩ := hm0
      have j0 : (0 : Int) ≤ (q : Int) := by omega
      have j1 : (q : Int) < (k : Int) := by omega
      by_cases hg0 : xg = 0
      · subst hg0
        rw [show (decide ((0 : Int) = 0) || decide ((0 : Int) - 1 + marginI xt ≤ now)) = true from by simp]
        go_enter Try.func55, Try.ntmps55
        go_wp2_with fail
        refine (Hepo.out _ (Ext.refl _ w)).mono ?_
        rintro r w3 ⟨rfl, hx3⟩
        obtain ⟨c0, c1, c2⟩ := Hcs.out
        have d0 := (hx3.cell (p := ⟨g, q * 3 + 0, none⟩) hglt id).trans c0
        have d1 := (hx3.cell (p := ⟨g, q * 3 + 1, none⟩) hglt id).trans c1
        have d2 := (hx3.cell (p := ⟨g, q * 3 + 2, none⟩) hglt id).trans c2
        simp only [Nat.add_zero] at d0
        have Hx3 := Lib.hid hx3
        clear hx3 c0 c1 c2
        go_wp2
        go_quiet (fail)
        go_wp2
        go_ret
        exact ⟨rfl, (Hx3.out.trans (by repeat (first | exact Ext.refl _ _ | apply Ext.drewN | apply Ext.drew | apply Ext.alloc)))⟩
      · have hg1 : (xg == 0) = false := by simpa using hg0
        have w1 : IntKind.i64.wrap (xg - 1) = xg - 1 := IntWalk.i64_in _ (by omega)
        have w2 : IntKind.i64.wrap (xg - 1 + marginI xt) = xg - 1 + marginI xt := IntWalk.i64_in _ (by omega)
        have hb : (decide (xg = 0) || decide (xg - 1 + marginI xt ≤ now)) = decide (xg - 1 + marginI xt ≤ now) := by simp [hg0]
        rw [hb]
        clear hb hg0
        go_enter Try.func55, Try.ntmps55
        go_wp2_with fail
        refine (Hepo.out _ (Ext.refl _ w)).mono ?_
        rintro r w3 ⟨rfl, hx3⟩
        obtain ⟨c0, c1, c2⟩ := Hcs.out
        have d0 := (hx3.cell (p := ⟨g, q * 3 + 0, none⟩) hglt id).trans c0
        have d1 := (hx3.cell (p := ⟨g, q * 3 + 1, none⟩) hglt id).trans c1
        have d2 := (hx3.cell (p := ⟨g, q * 3 + 2, none⟩) hglt id).trans c2
        simp only [Nat.add_zero] at d0
        have Hx3 := Lib.hid hx3
        clear hx3 c0 c1 c2
        go_wp2
        go_quiet ((go_at_call 75; exact Calls.quiet_of_same (rmargin_any _ _ (by omega) (by omega))))
        go_wp2
        go_ret
        exact ⟨by first | rfl | (refine congrArg _ (congrArg _ ?_); simp), (Hx3.out.trans (by repeat (first | exact Ext.refl _ _ | apply Ext.drewN | apply Ext.drew | apply Ext.alloc)))⟩
end Go.Proofs.Ytgmopnbejjfbjaa
