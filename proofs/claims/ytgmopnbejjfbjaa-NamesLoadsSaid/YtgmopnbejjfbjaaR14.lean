/-
  The reference of package names: Lookup. Conditions: IsRef45.
-/
import Derived.Test.YtgmopnbejjfbjaaR13
namespace Go.Proofs.Ytgmopnbejjfbjaa
open Go.RowKit Go.MapKept
open Go.ChangeMaps (setBlock)

set_option maxRecDepth 100000 in
set_option maxHeartbeats 4000000 in
theorem rlookup_some (w : World) (v : Value) (M : List (ByteArray × List Ep)) (hr : IsRef45 w v M) (hn : (M.map Prod.fst).Nodup) (hm : M.length ≤ 1000000) (n : ByteArray) (now : Int) (h1 : readB now = true)
    (k : Nat) (hk : ((assoc M n).getD []).length = k + 1) (hlen : k ≤ 100000) (xa xt xg : Int) (hlast : ((assoc M n).getD []).getLast? = some ⟨xa, xt, xg⟩) :
    Calls Try.prog 26 #[v, .string n, .int .i64 now] w (RLookPost w (lookupM M n now)) := by
  have hn1 : 0 ≤ now ∧ now ≤ 1099511627776 := by simpa [readB] using h1
  obtain ⟨hn1, hn2⟩ := hn1
  have hs : lookupM M n now = (aput M n (noteM ((assoc M n).getD []) now), ⟨n, (k : Int) + 1, xa, xt⟩, 0) := by
    unfold lookupM; rw [h1]; simp only [if_true, hlast, hk]; rfl
  rw [hs]
  obtain ⟨R, hr, hR⟩ := hr
  have hg := rising_valN hn hR
  have hRl := ref_length hR
  have hepo := fun (W : World) (hx : Ext (fun _ => False) w W) => epochs_any W v R (hr.keep hx) hg (by omega) n
  have hset := fun (W : World) (lv : Value) (ls : List Ep) (hx : Ext (fun _ => False) w W) (hls : W.ownsRow 0 110 3 lv ls.length (eps ls)) => set_any W v R (hr.keep hx) hg (by omega) n lv ls hls
  have hval := fun (s : Slot) => setN_val hn hR n s
  have hown := rslot_owns hr n
  have hl := rslot_l hn hR n
  rw [← hl] at hk hlast ⊢
  clear hl hs
  obtain ⟨⟨sv, l⟩, hsl⟩ : ∃ s, rslot R n = s := ⟨_, rfl⟩
  rw [hsl] at hepo hown hk hlast ⊢
  clear hsl
  simp only at hepo hown hk hlast ⊢
  have hq : l[k]'(by omega) = ⟨xa, xt, xg⟩ := by
    have := hlast
    rw [List.getLast?_eq_getElem?, hk] at this
    simpa [List.getElem?_eq_getElem (show k < l.length by omega)] using this
  have hcs : ∀ (W : World) (g : Nat) (c : Nat), W.ownsRow 0 110 3 (.slice (some ⟨g, 0, none⟩) (k + 1) c) (k + 1) (eps l) → W.cell? ⟨g, k * 3, none⟩ = some (.int .i64 xa) ∧ W.cell? ⟨g, k * 3 + 1, none⟩ = some (.int .i64 xt) ∧ W.cell? ⟨g, k * 3 + 2, none⟩ = some (.int .i64 xg) := fun W g c ho => by
    have h3 : ∀ j u, ((⟨xa, xt, xg⟩ : Ep).cs)[j]? = some u → W.cell? ⟨g, k * 3 + j, none⟩ = some u := fun j u h => by
      have hj : j < 3 := (List.getElem?_eq_some_iff.1 h).1
      have := ho.cells (g := g) rfl (k * 3 + j) u (by rw [eps_get _ k (by omega) j hj, hq]; exact h)
      rwa [Addr.add_lit, Nat.zero_add] at this
    exact ⟨h3 0 _ rfl, h3 1 _ rfl, h3 2 _ rfl⟩
  have hset' := eps_set (now := now) hlast k hk
  have hone := eps_one l
  have hnl := note_length l now
  rw [hk] at hnl hown
  generalize noteM l now = l2 at *
  obtain ⟨ao, cap, rfl⟩ := ownsRow_shape hown
  obtain ⟨s1, s2, s3⟩ := row_source hown
  have hel : (eps l).length = (k + 1) * 3 := by rw [eps_length, hk]
  generalize eps l = E at *
  obtain ⟨w0, hw0⟩ : ∃ w0, w0 = w.alloc (.cells #[.string { data := #[] }, .int .i64 0, .int .i64 0, .int .i64 0] 28) := ⟨_, rfl⟩
  have hb0 : blk w0 w.heap.size = some (.cells #[.string { data := #[] }, .int .i64 0, .int .i64 0, .int .i64 0] 28 (0, 0)) := by rw [hw0]; exact blk_alloc_at _ _
  have hx0 : Ext (fun _ => False) w w0 := by rw [hw0]; exact (Ext.refl _ w).alloc _
  have Hx0 := Lib.hid hx0
  have Hb0 := Lib.hid hb0
  have Hepo := Lib.hid hepo
  have Hset := Lib.hid hset
  have Hval := Lib.hid hval
  have Hcs := Lib.hid hcs
  have Hset' := Lib.hid hset'
  have Hnl := Lib.hid hnl
  have Hs1 := Lib.hid s1
  have Hs2 := Lib.hid s2
  have Hs3 := Lib.hid s3
  have Hel := Lib.hid hel
  have Hone := Lib.hid hone
  obtain ⟨i0, hi, hz0, hz1, hz2⟩ := info_parts Try.infoEpoch
  clear hx0 hb0 hepo hset hval hcs hset' hnl s1 s2 s3 hel hone hown hk hlast hq hR hr hg hRl hn hm
  have hd1 : -9223372036854775808 ≤ (k : Int) + 1 - 1 := by omega
  go_enter Try.func26, Try.ntmps26
  go_upto_region 1 with fail
  rw [← hw0]
  clear hw0
  go_wp2_with (first | (go_at_call 41; refine (rreading_any _ _).mono ?_; rintro r w' ⟨rfl, hw⟩; obtain rfl := hw.symm; rw [h1]))
  refine (Hepo.out w0 Hx0.out).mono ?_
  rintro r w3 ⟨rfl, hx3⟩
  have Hxw3 := Lib.hid (Hx0.out.trans hx3)
  have Hb3 := Lib.hid ((hx3.blk (blk_lt Hb0.out) id).trans Hb0.out)
  clear hx3 Hb0 Hx0
  have hb4 := blk_alloc_at w3 (.cells #[] 110)
  have hx4 : Ext (fun b => w3.heap.size ≤ b) w3 (w3.alloc (.cells #[] 110)) := (Ext.refl _ w3).alloc _
  have L4 := Hs2.out.ext (ext_any (Hxw3.out.alloc (.cells #[] 110)) (fun b => w3.heap.size ≤ b)) (fun ad e _ => by have := Hs3.out ad e; have := Hxw3.out.size; omega) (by rw [Hel.out]; omega)
  go_upto_region 8 with (first
    | (at_builtin; refine wpList_append_any rfl (.tmp 25) (.tmp 26) 107 rfl 0 110 i0 _ 3 24 Try.underlying107 hi hz0 hz1 hz2 rfl (by decide) _ 0 [] rfl (ownsRow_empty 3 hb4) _ _ _ Hs1.out _ rfl Hel.out L4 Hone.out (by simp only [maxLen]; omega) (by omega) (Nat.zero_le _) ?_; intro v5 w5 hown5 hgrow5 hat5; have hx5 : Ext (fun b => w3.heap.size ≤ b) w3 w5 := hx4.grown hgrow5 (fun k e _ => Nat.le_of_eq (Option.some.inj e)); have hs5 : w3.heap.size < w5.heap.size := Nat.lt_of_lt_of_le (by simp) hgrow5.size; have hv5 : ∀ g, v5.ownBlock = some g → w3.heap.size ≤ g := own_step hat5 (fun g e => Nat.le_of_eq (Option.some.inj e)) (by simp); simp only [Nat.zero_add, List.nil_append] at hown5; obtain ⟨a5, c5, rfl⟩ := ownsRow_shape hown5; obtain ⟨g5, rfl, hg5⟩ := row_form hown5 (by omega); have hge5 : w3.heap.size ≤ g5 := hv5 g5 rfl; have Hx5 := Lib.hid hx5; have Hown5 := Lib.hid hown5; clear hx5 hv5 hown5 hgrow5 hat5 L4 hx4 hb4))
  obtain ⟨c0, c1, c2⟩ := Hcs.out w5 g5 c5 Hown5.out
  have fz := Hown5.out.frozenAt (k * 3 + 2)
  have j0 : (0 : Int) ≤ (k : Int) + 1 - 1 := by omega
  have j1 : (k : Int) + 1 - 1 < (k : Int) + 1 := by omega
  have j2 : ((k : Int) + 1 - 1).toNat = k := by omega
  have j3 : (k : Int) + 1 - 1 = k := by omega
  go_upto_region 10 with fail
  have hst := (Hown5.out.stored (k * 3 + 2) (.int .i64 (max xg (now + 1)))).1
  rw [Hset'.out] at hst
  have hb6 := blk_alloc_at (w5.setCell ⟨g5, k * 3 + 2, none⟩ (.int .i64 (max xg (now + 1)))) (.cells #[.int .i64 xa, .int .i64 xt, .int .i64 xg] 110)
  have hsz6 : (w5.setCell ⟨g5, k * 3 + 2, none⟩ (.int .i64 (max xg (now + 1)))).heap.size = w5.heap.size := by simp [World.setCell]
  rw [hsz6] at hb6
  have hx6 : Ext (fun b => w3.heap.size ≤ b) w3 ((w5.setCell ⟨g5, k * 3 + 2, none⟩ (.int .i64 (max xg (now + 1)))).alloc (.cells #[.int .i64 xa, .int .i64 xt, .int .i64 xg] 110)) := (Hx5.out.setCell _ (fun _ => hge5)).alloc _
  have hst6 := ownsRow_keep hst ((Ext.refl _ _).alloc (.cells #[.int .i64 xa, .int .i64 xt, .int .i64 xg] 110))
  have hlt3 := blk_lt Hb3.out
  have hX : ¬ w.heap.size = w5.heap.size := by omega
  clear c0 c1 c2 fz hst hsz6
  generalize (w5.setCell ⟨g5, k * 3 + 2, none⟩ (.int .i64 (max xg (now + 1)))).alloc (.cells #[.int .i64 xa, .int .i64 xt, .int .i64 xg] 110) = w6 at *
  generalize w5.heap.size = X at *
  have hxw6 : Ext (fun _ => False) w w6 := Hxw3.out.trans' hx6 (fun k hk (e : w3.heap.size ≤ k) => absurd hk (by omega))
  have hq6 := (hx6.blk hlt3 (by show ¬ w3.heap.size ≤ w.heap.size; omega)).trans Hb3.out
  have Hls := Lib.hid (show w6.drew.ownsRow 0 110 3 (.slice (some ⟨g5, 0, none⟩) (k + 1) c5) l2.length (eps l2) by rw [Hnl.out]; exact hst6)
  have Hxw6 := Lib.hid hxw6.drew
  have Hq6 := Lib.hid hq6
  have Hb6 := Lib.hid hb6
  have hlX := blk_lt hb6
  have hlq := blk_lt hq6
  obtain ⟨d0, d1, d2⟩ := box_cells hb6
  clear hst6 hx6 hq6 hb6 hxw6 Hx5 Hown5
  go_region_held3 (fun w' => w'.cell? ⟨X, 0, none⟩ = some (.int .i64 xa) ∧ w'.cell? ⟨X, 1, none⟩ = some (.int .i64 xt))
    (first | (refine ⟨?_, ?_⟩ <;> (with_reducible assumption)) | (refine ⟨?_, ?_⟩ <;> (simp only [cell?_setCell_if, hX, false_and, if_false]; with_reducible assumption)) | go_keep)
    (first | (go_at_call 43; have q3 := Hset.out w6.drew (.slice (some ⟨g5, 0, none⟩) (k + 1) c5) l2 Hxw6.out Hls.out; (with_reducible refine q3.mono ?_); clear q3; rintro r w7 ⟨v7, rfl, hr7, hx7⟩; have hX7 : Ext (fun _ => False) w6 w7 := ((Ext.refl _ w6).drew).trans hx7; have hq7 := (hX7.blk hlq id).trans Hq6.out; obtain ⟨e0, e1, e2⟩ := box_cells ((hX7.blk hlX id).trans Hb6.out); obtain ⟨z0, z1, z2, z3⟩ := box4 hq7; have f0 := free_of_cells hq7 0; have f1 := free_of_cells hq7 1; have f2 := free_of_cells hq7 2; have f3 := free_of_cells hq7 3; have Hr7 := Lib.hid hr7; have Hx7 := Lib.hid (Hxw6.out.trans hx7); have Hq7 := Lib.hid hq7; clear hr7 hx7 hX7 hq7))
  have hq := set4_done Hq7.out (.string n) (.int .i64 ((k : Int) + 1)) (.int .i64 xa) (.int .i64 xt)
  have Hq1 := Lib.hid (box4 hq.1)
  have hxx := Hx7.out.trans' hq.2 (fun k hk (e : k = w.heap.size) => absurd hk (by omega))
  have hrr : IsRows45 (set4 w7 w.heap.size (.string n) (.int .i64 ((k : Int) + 1)) (.int .i64 xa) (.int .i64 xt)) v7 (setN R n ⟨.slice (some ⟨g5, 0, none⟩) (k + 1) c5, l2⟩) := by
    have hne : ∀ {e : TypeId} {size : Nat} {v : Value} {m : Nat} {xs : List Value}, e ≠ 28 → w7.ownsRow 0 e size v m xs → (set4 w7 w.heap.size (.string n) (.int .i64 ((k : Int) + 1)) (.int .i64 xa) (.int .i64 xt)).ownsRow 0 e size v m xs := fun hne ho => ownsRow_ext ho hq.2 (fun g hg e => by
      subst e
      obtain ⟨cur, hcur⟩ := row_type ho hg
      rw [Hq7.out] at hcur
      cases hcur
      exact hne rfl)
    exact ⟨hne (by decide) Hr7.out.1, fun p hp => hne (by decide) (Hr7.out.2 p hp)⟩
  have Hrr := Lib.hid hrr
  have Hxx := Lib.hid hxx
  clear hq hxx hrr z0 z1 z2 z3 f0 f1 f2 f3 d0 d1 d2 e0 e1 e2
  unfold set4 at Hq1 Hxx Hrr
  obtain ⟨z0, z1, z2, z3⟩ := Hq1.out
  go_wp2
  exact bodyPost_ret (v := .tuple #[v7, .agg #[.string n, .int .i64 ((k : Int) + 1), .int .i64 xa, .int .i64 xt], .int .i64 0]) (by simp [results, Try.results26, go_sem, z0, z1, z2, z3]) rfl ⟨v7, rfl, ⟨_, Hrr.out, Hval.out _⟩, Hxx.out⟩
theorem rlookup_any (w : World) (v : Value) (M : List (ByteArray × List Ep)) (hr : IsRef45 w v M) (hn : (M.map Prod.fst).Nodup) (hm : M.length ≤ 1000000) (n : ByteArray) (now : Int) (hlen : ((assoc M n).getD []).length ≤ 100000) :
    Calls Try.prog 26 #[v, .string n, .int .i64 now] w (RLookPost w (lookupM M n now)) := by
  cases h1 : readB now with
  | false => exact rlookup_short w v M hr hn hm n now (.inl h1)
  | true =>
    cases hl : ((assoc M n).getD []).getLast? with
    | none => exact rlookup_short w v M hr hn hm n now (.inr (by simpa using hl))
    | some x =>
      obtain ⟨xa, xt, xg⟩ := x
      have hne : (assoc M n).getD [] ≠ [] := by intro e; rw [e] at hl; simp at hl
      have hpos := List.length_pos_iff.2 hne
      exact rlookup_some w v M hr hn hm n now h1 (((assoc M n).getD []).length - 1) (by omega) (by omega) xa xt xg hl
end Go.Proofs.Ytgmopnbejjfbjaa
