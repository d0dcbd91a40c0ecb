/-
  The reference of package names: Publish. Conditions: IsRef45.
-/
import Derived.Test.YtgmopnbejjfbjaaR11
namespace Go.Proofs.Ytgmopnbejjfbjaa
open Go.RowKit Go.MapKept
open Go.ChangeMaps (setBlock)

set_option maxRecDepth 100000 in
set_option maxHeartbeats 4000000 in
theorem rpublish_any (w : World) (v : Value) (M : List (ByteArray × List Ep)) (hr : IsRef45 w v M) (hn : (M.map Prod.fst).Nodup) (hm : M.length ≤ 1000000) (hlen : ∀ n, ((assoc M n).getD []).length ≤ 100000) (n : ByteArray) (a t now : Int) (hns : n.size ≤ 9223372036854775807) :
    Calls Try.prog 54 #[v, .string n, .int .i64 a, .int .i64 t, .int .i64 now] w (RPubPost w (publishM M n a t now)) := by
  cases hb : (isNameB n && validB a t && readB now) with
  | false =>
    have hs : publishM M n a t now = (M, 0, 1) := by unfold publishM; rw [hb]; rfl
    rw [hs]
    exact rpublish_arg w v M hr n a t now hns hb
  | true =>
    simp only [Bool.and_eq_true] at hb
    obtain ⟨⟨h1, h2⟩, h3⟩ := hb
    have hlen := hlen n
    have hs : publishM M n a t now = if 1024 ≤ ((assoc M n).getD []).length then (M, 0, 8) else (aput M n (((assoc M n).getD []) ++ [⟨a, t, 0⟩]), (((assoc M n).getD []).length : Int) + 1, 0) := by
      unfold publishM
      simp only [h1, h2, h3, Bool.and_self, if_true]
    rw [hs]
    clear hs
    have b1 : ¬ (n.size : Int) < 1 := by unfold isNameB at h1; simp at h1; omega
    have b2 : ¬ (31 : Int) < n.size := by unfold isNameB at h1; simp at h1; omega
    have b3 : ¬ a < 1 := by unfold validB at h2; simp at h2; omega
    have b4 : ¬ 1099511627776 < a := by unfold validB at h2; simp at h2; omega
    have b5 : ¬ t < 1 := by unfold validB at h2; simp at h2; omega
    have b6 : ¬ 65536 < t := by unfold validB at h2; simp at h2; omega
    clear h1 h2
    have hr0 := hr
    obtain ⟨R, hr, hR⟩ := hr
    have hg := rising_valN hn hR
    have hRl := ref_length hR
    have hepo := fun (W : World) (hx : Ext (fun _ => False) w W) => epochs_any W v R (hr.keep hx) hg (by omega) n
    have hset := fun (W : World) (lv : Value) (ls : List Ep) (hx : Ext (fun _ => False) w W) (hls : W.ownsRow 0 110 3 lv ls.length (eps ls)) => set_any W v R (hr.keep hx) hg (by omega) n lv ls hls
    have hval := fun (s : Slot) => setN_val hn hR n s
    have hown := rslot_owns hr n
    have hl := rslot_l hn hR n
    rw [← hl] at hlen ⊢
    clear hl
    obtain ⟨⟨sv, l⟩, hsl⟩ : ∃ s, rslot R n = s := ⟨_, rfl⟩
    rw [hsl] at hepo hown hlen ⊢
    clear hsl
    simp only at hepo hown hlen ⊢
    obtain ⟨ao, cap, rfl⟩ := ownsRow_shape hown
    have Hepo := Lib.hid hepo
    have Hset := Lib.hid hset
    have Hval := Lib.hid hval
    have Hown := Lib.hid hown
    have Hr0 := Lib.hid hr0
    clear hepo hset hval hown hr0 hr hR hg hn hRl hm
    generalize hk : l.length = k at *
    have Hk := Lib.hid hk
    clear hk
    by_cases hlt : 1024 ≤ k
    · rw [if_pos hlt]
      have hlt' : (1024 : Int) ≤ k := by omega
      go_enter Try.func54, Try.ntmps54
      go_wp2_with (first | (go_at_call 41; refine (rreading_any _ _).mono ?_; rintro r w' ⟨rfl, hw⟩; obtain rfl := hw.symm; rw [h3]))
      refine (Hepo.out _ (Ext.refl _ w)).mono ?_
      rintro r w3 ⟨rfl, hx3⟩
      have Hx3 := Lib.hid hx3
      clear hx3
      go_wp2
      exact bodyPost_ret (v := .tuple #[v, .int .i64 0, .int .i64 8]) (by simp [results, Try.results54, go_sem]) rfl ⟨v, rfl, Hr0.out.keep Hx3.out, Hx3.out⟩
    · rw [if_neg hlt]
      have hlt' : ¬ (1024 : Int) ≤ k := by omega
      obtain ⟨s1, s2, s3⟩ := row_source Hown.out
      have Hs1 := Lib.hid s1
      have Hs2 := Lib.hid s2
      have Hs3 := Lib.hid s3
      have Hel := Lib.hid (show (eps l).length = k * 3 by rw [eps_length, Hk.out])
      obtain ⟨i0, hi, hz0, hz1, hz2⟩ := info_parts Try.infoEpoch
      clear s1 s2 s3
      go_enter Try.func54, Try.ntmps54
      go_wp2_with (first | (go_at_call 41; refine (rreading_any _ _).mono ?_; rintro r w' ⟨rfl, hw⟩; obtain rfl := hw.symm; rw [h3]))
      refine (Hepo.out _ (Ext.refl _ w)).mono ?_
      rintro r w3 ⟨rfl, hx3⟩
      have Hxw3 := Lib.hid hx3
      clear hx3
      have hb4 := blk_alloc_at w3 (.cells #[] 110)
      have hx4 : Ext (fun b => w3.heap.size ≤ b) w3 (w3.alloc (.cells #[] 110)) := (Ext.refl _ w3).alloc _
      have L4 := Hs2.out.ext (ext_any (Hxw3.out.alloc (.cells #[] 110)) (fun b => w3.heap.size ≤ b)) (fun ad e _ => by have := Hs3.out ad e; have := Hxw3.out.size; omega) (by rw [Hel.out]; omega)
      go_wp2_with (first
        | (at_builtin; refine wpList_append_any rfl (.tmp 51) (.tmp 52) 107 rfl 0 110 i0 _ 3 24 Try.underlying107 hi hz0 hz1 hz2 rfl (by decide) _ 0 [] rfl (ownsRow_empty 3 hb4) _ _ _ Hs1.out _ rfl Hel.out L4 (eps_one _) (by simp only [maxLen]; omega) (by omega) (Nat.zero_le _) ?_; intro v5 w5 hown5 hgrow5 hat5; have hx5 : Ext (fun b => w3.heap.size ≤ b) w3 w5 := hx4.grown hgrow5 (fun k e _ => Nat.le_of_eq (Option.some.inj e)); have hs5 : w3.heap.size < w5.heap.size := Nat.lt_of_lt_of_le (by simp) hgrow5.size; have hv5 : ∀ g, v5.ownBlock = some g → w3.heap.size ≤ g := own_step hat5 (fun g e => Nat.le_of_eq (Option.some.inj e)) (by simp); have Hx5 := Lib.hid hx5; have Hv5 := Lib.hid hv5; have Hown5 := Lib.hid hown5; clear hx5 hv5 hown5 hgrow5 hat5 L4 hx4 hb4)
        | (at_builtin; refine wpList_append_any rfl (.tmp 53) (.tmp 57) 107 rfl 0 110 i0 _ 3 24 Try.underlying107 hi hz0 hz1 hz2 rfl (by decide) _ _ _ rfl (Hown5.out.alloc _) _ 1 1 (fun e => (by cases e)) (Ep.cs ⟨a, t, 0⟩) rfl rfl (.inr ⟨_, rfl, cells_new (Ep.cs ⟨a, t, 0⟩) _ rfl⟩) (by simp [Ep.cs, Value.oneCell']) (by simp only [maxLen]; omega) (by omega) (Nat.zero_le _) ?_; intro v6 w6 hown6 hgrow6 hat6; have hx6 : Ext (fun b => w3.heap.size ≤ b) w3 w6 := (Hx5.out.alloc _).grown hgrow6 (fun k e _ => Hv5.out k e); obtain ⟨a6, m6, c6, rfl, hown6b⟩ := row_shape' hown6; have hm6 : m6 = k + 1 := (by have h1 := hown6b.1; have h2 := hown6.1; omega); subst hm6; have Hx6 := Lib.hid hx6; have Hown6 := Lib.hid hown6b; clear hx6 hown6 hown6b hgrow6 hat6 Hown5 Hx5 Hv5))
      have hxf : Ext (fun _ => False) w w6 := Hxw3.out.trans' Hx6.out (fun k hk (e : w3.heap.size ≤ k) => absurd hk (by have := Hxw3.out.size; omega))
      have hls : w6.ownsRow 0 110 3 (.slice a6 (k + 1) c6) (l ++ [(⟨a, t, 0⟩ : Ep)]).length (eps (l ++ [⟨a, t, 0⟩])) := by
        rw [eps_append, List.length_append, Hk.out]; simpa [eps] using Hown6.out
      refine (Hset.out w6 _ _ hxf hls).mono ?_
      rintro r w7 ⟨v7, rfl, hr7, hx7⟩
      have hfin : RPubPost w (aput M n (l ++ [⟨a, t, 0⟩]), (k : Int) + 1, 0) (.returned (.tuple #[v7, .int .i64 ((k : Int) + 1), .int .i64 0])) w7 := ⟨v7, rfl, ⟨_, hr7, Hval.out _⟩, hxf.trans hx7⟩
      have Hfin := Lib.hid hfin
      clear hfin hr7 hx7 hxf hls
      go_wp2
      exact bodyPost_ret (v := .tuple #[v7, .int .i64 ((k : Int) + 1), .int .i64 0]) (by simp [results, Try.results54, go_sem]) rfl Hfin.out
end Go.Proofs.Ytgmopnbejjfbjaa
