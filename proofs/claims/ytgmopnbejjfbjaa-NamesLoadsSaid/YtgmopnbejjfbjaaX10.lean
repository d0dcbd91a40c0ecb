/-
  (*Registry).Lookup returns what lookupM says and notes the reading. Conditions: the registry stands as IsReg says, at most 1024 epochs.
-/
import Derived.Test.YtgmopnbejjfbjaaX9
namespace Go.Proofs.Ytgmopnbejjfbjaa
open Go.RowKit Go.MapKept
open Go.ChangeMaps (setBlock)

theorem reg_lookup {mb : Nat} {L : List (ByteArray × Slot)} {es : Array MapEntry} {clock : Nat} (hl : StrMap es (L.map fun p => (p.1, p.2.v))) (n : ByteArray) (W : World) (hW : blk W mb = some (.map es clock)) :
    (Instr.lookup 94 (.map (some mb)) (.string n) false).run Try.prog W = .ok (slotV L n) W := by
  have := run_lookup_str (P := Try.prog) Try.underlying94 Try.underlying9 hW hl (zero103 W) n false
  rw [this]
  unfold slotV
  rw [assoc_map]
  cases assoc L n <;> rfl
/-- the newest epoch's reading is noted -/
def noteM (l : List Ep) (now : Int) : List Ep := l.dropLast ++ (match l.getLast? with | some x => [⟨x.a, x.t, max x.g (now + 1)⟩] | none => [])
def lookupM (M : List (ByteArray × List Ep)) (n : ByteArray) (now : Int) : List (ByteArray × List Ep) × Ent × Int :=
  if readB now then
    let l := (assoc M n).getD []
    match l.getLast? with
    | none => (M, .zero, 6)
    | some x => (aput M n (noteM l now), ⟨n, l.length, x.a, x.t⟩, 0)
  else (M, .zero, 1)
def LookPost (w : World) (rb mb : Nat) (L : List (ByteArray × Slot)) (m : List (ByteArray × List Ep) × Ent × Int) (r : Ending) (w' : World) : Prop :=
  r = .returned (.tuple #[m.2.1.v, .int .i64 m.2.2]) ∧ Ext (fpR rb mb L) w w' ∧ ∃ L', IsReg w' rb mb L' ∧ regM L' = m.1 ∧ ∀ b, fpR rb mb L' b → fpR rb mb L b ∨ w.heap.size ≤ b
theorem LookPost.same {w w' : World} {rb mb : Nat} {L : List (ByteArray × Slot)} {m : List (ByteArray × List Ep) × Ent × Int} (hR : IsReg w rb mb L) (hx : Ext (fun _ => False) w w') (hm : m.1 = regM L) :
    LookPost w rb mb L m (.returned (.tuple #[m.2.1.v, .int .i64 m.2.2])) w' :=
  ⟨rfl, hx.mono (fun _ _ h => h.elim), L, hR.ext hx (fun _ _ h => h), hm.symm, fun _ h => .inl h⟩

theorem eps_set {l : List Ep} {x : Ep} {now : Int} (h : l.getLast? = some x) (k : Nat) (hk : l.length = k + 1) : (eps l).set (k * 3 + 2) (.int .i64 (max x.g (now + 1))) = eps (noteM l now) := by
  have e : l = l.dropLast ++ [x] := by
    obtain ⟨ys, rfl⟩ := List.getLast?_eq_some_iff.1 h
    simp
  have hl : l.dropLast.length = k := by simp; omega
  unfold noteM
  rw [h]
  conv => lhs; rw [e]
  rw [eps_append, eps_append]
  have h3 : (eps l.dropLast).length = k * 3 := by rw [eps_length, hl]
  rw [List.set_append_right _ _ (by omega), h3]
  have : k * 3 + 2 - k * 3 = 2 := by omega
  rw [this]
  rfl
theorem note_length (l : List Ep) (now : Int) : (noteM l now).length = l.length := by
  unfold noteM
  cases h : l.getLast? with
  | none => simp at h; simp [h]
  | some x => 
    have : l ≠ [] := by intro e; subst e; simp at h
    have := List.length_pos_iff.2 this
    simp; omega
theorem aput_same {α : Type} {l : List (ByteArray × α)} {s : ByteArray} {u : α} (h : assoc l s = some u) : aput l s u = l := by
  induction l with
  | nil => simp [assoc] at h
  | cons p r ih =>
    obtain ⟨k, x⟩ := p
    simp only [assoc, aput] at *
    by_cases hk : k = s
    · simp only [hk, if_true, Option.some.injEq] at h ⊢; rw [h]
    · simp only [hk, if_false] at h ⊢; rw [ih h]
/-- a name's row is written in place -/
theorem IsReg.upd {w w1 : World} {rb mb : Nat} {L : List (ByteArray × Slot)} (h : IsReg w rb mb L) {n : ByteArray} {g : Nat} (hg : (slotV L n).ownBlock = some g) (hx : Ext (fun b => b = g) w w1) {l' : List Ep}
    (hown : w1.ownsRow 0 100 3 (slotV L n) l'.length (eps l')) : IsReg w1 rb mb (aput L n ⟨slotV L n, l'⟩) := by
  have hrb := h.rb_ne n
  obtain ⟨h1, ⟨es, c, h2, h3⟩, h4, h5⟩ := id h
  have g1 := (hx.blk (blk_lt h1) (fun e => hrb.1 (e ▸ hg))).trans h1
  have g2 := (hx.blk (blk_lt h2) (fun e => hrb.2 (e ▸ hg))).trans h2
  cases hn : assoc L n with
  | none => unfold slotV at hg; rw [hn] at hg; simp [Value.ownBlock] at hg
  | some u =>
    have hu : slotV L n = u.v := by unfold slotV; rw [hn]
    refine ⟨g1, ⟨es, c, g2, ?_⟩, ?_, ?_⟩
    · have := aput_map Slot.v L n ⟨slotV L n, l'⟩
      simp only at this
      rw [← this, aput_same]
      · exact h3
      · rw [assoc_map, hn, hu]; rfl
    · intro p hp
      rcases mem_aput_pw (fun (a b : Slot) => a.v.ownBlock ≠ b.v.ownBlock) (fun _ _ h => Ne.symm h) h5 hp with rfl | ⟨hp, hp'⟩
      · exact ⟨hown, by rw [hg]; simp⟩
      · refine ⟨ownsRow_ext (h4 p hp).1 hx (fun g' hg' e => ?_), (h4 p hp).2⟩
        subst e
        exact hp' u hn (hg'.trans (hu ▸ hg).symm)
    · exact aput_pw_old (fun (a b : Slot) => a.v.ownBlock ≠ b.v.ownBlock) h5 hn (fun x hx => by simpa [hu] using hx) (fun x hx => by simpa [hu] using hx)

set_option maxRecDepth 100000 in
set_option maxHeartbeats 1000000 in
theorem lookup_arg (rb mb : Nat) (w : World) (L : List (ByteArray × Slot)) (hR : IsReg w rb mb L) (n : ByteArray) (now : Int) (h1 : readB now = false) :
    Calls Try.prog 21 #[.pointer (some ⟨rb, 0, none⟩), .string n, .int .i64 now] w (LookPost w rb mb L (lookupM (regM L) n now)) := by
  have hs : lookupM (regM L) n now = (regM L, .zero, 1) := by unfold lookupM; rw [h1]; rfl
  rw [hs]
  have HR := Lib.hid hR
  clear hs hR
  go_enter Try.func21, Try.ntmps21
  go_wp2_with (first | (go_at_call 37; refine (reading_any _ _).mono ?_; rintro r w' ⟨rfl, rfl⟩; rw [h1]))
  exact bodyPost_ret (v := .tuple #[.agg #[.string .empty, .int .i64 0, .int .i64 0, .int .i64 0], .int .i64 1]) (by simp [results, Try.results21, go_sem] <;> rfl) rfl
    (LookPost.same HR.out (by repeat (first | exact Ext.refl _ _ | apply Ext.drew | apply Ext.alloc)) rfl)

set_option maxRecDepth 100000 in
set_option maxHeartbeats 1000000 in
theorem lookup_none (rb mb : Nat) (w : World) (L : List (ByteArray × Slot)) (hR : IsReg w rb mb L) (n : ByteArray) (now : Int) (h1 : readB now = true) (h0 : slotL L n = []) :
    Calls Try.prog 21 #[.pointer (some ⟨rb, 0, none⟩), .string n, .int .i64 now] w (LookPost w rb mb L (lookupM (regM L) n now)) := by
  have hs : lookupM (regM L) n now = (regM L, .zero, 6) := by unfold lookupM; rw [h1, ← slotL_eq, h0]; rfl
  rw [hs]
  have ⟨hc, ⟨es, clock, hm, hl⟩, _⟩ := hR
  have hown := hR.owns n
  obtain ⟨ao, cap, hv⟩ := ownsRow_shape hown
  have hlk : ∀ W : World, blk W mb = some (.map es clock) → (Instr.lookup 94 (.map (some mb)) (.string n) false).run Try.prog W = .ok (.slice ao 0 cap) W := fun W hW => by
    rw [reg_lookup hl.1 n W hW, hv, h0]; rfl
  have hrb := blk_lt hc
  have hmb := blk_lt hm
  obtain ⟨f0, f1, f2, f3, f4, f5⟩ := ne_sizes hmb
  have hc0 := cell_of_cells hc 0
  simp at hc0
  have HR := Lib.hid hR
  clear hs hR hown hv hc hl h0
  go_enter Try.func21, Try.ntmps21
  go_wp2_with (first | (go_at_call 37; refine (reading_any _ _).mono ?_; rintro r w' ⟨rfl, rfl⟩; rw [h1]))
  exact bodyPost_ret (v := .tuple #[.agg #[.string .empty, .int .i64 0, .int .i64 0, .int .i64 0], .int .i64 6]) (by simp [results, Try.results21, go_sem] <;> rfl) rfl
    (LookPost.same HR.out (by repeat (first | exact Ext.refl _ _ | apply Ext.drew | apply Ext.alloc)) rfl)

set_option maxRecDepth 100000 in
set_option maxHeartbeats 1000000 in
theorem lookup_some (rb mb : Nat) (w : World) (L : List (ByteArray × Slot)) (hR : IsReg w rb mb L) (n : ByteArray) (now : Int) (h1 : readB now = true) (k : Nat) (hk : (slotL L n).length = k + 1) (hlen : k ≤ 1024)
    (xa xt xg : Int) (hlast : (slotL L n).getLast? = some ⟨xa, xt, xg⟩) (hn1 : 0 ≤ now) (hn2 : now ≤ 1099511627776) :
    Calls Try.prog 21 #[.pointer (some ⟨rb, 0, none⟩), .string n, .int .i64 now] w (LookPost w rb mb L (lookupM (regM L) n now)) := by
  have hs : lookupM (regM L) n now = (aput (regM L) n (noteM (slotL L n) now), ⟨n, (k : Int) + 1, xa, xt⟩, 0) := by
    unfold lookupM; rw [h1, ← slotL_eq]; simp only [if_true, hlast, hk]; rfl
  have ⟨hc, ⟨es, clock, hm, hl⟩, _⟩ := hR
  have hown := hR.owns n
  have hrn := hR.rb_ne n
  obtain ⟨g, cap, hv⟩ : ∃ g cap, slotV L n = .slice (some ⟨g, 0, none⟩) (k + 1) cap := by
    rcases hown.2 with ⟨h5, h6⟩ | ⟨g', cap', cur, h5, _⟩
    · omega
    · exact ⟨g', cap', by rw [h5, hk]⟩
  have hlk : ∀ W : World, blk W mb = some (.map es clock) → (Instr.lookup 94 (.map (some mb)) (.string n) false).run Try.prog W = .ok (.slice (some ⟨g, 0, none⟩) (k + 1) cap) W := fun W hW => by
    rw [reg_lookup hl.1 n W hW, hv]
  have hrb := blk_lt hc
  have hmb := blk_lt hm
  obtain ⟨f0, f1, f2, f3, f4, f5⟩ := ne_sizes hmb
  have hc0 := cell_of_cells hc 0
  simp at hc0
  rw [hv, hk] at hown
  have hq : (slotL L n)[k]'(by omega) = ⟨xa, xt, xg⟩ := by
    have := hlast
    rw [List.getLast?_eq_getElem?, hk] at this
    simpa [List.getElem?_eq_getElem (show k < (slotL L n).length by omega)] using this
  have hcs : ∀ j u, ((⟨xa, xt, xg⟩ : Ep).cs)[j]? = some u → w.cell? ⟨g, k * 3 + j, none⟩ = some u := fun j u h => by
    have hj : j < 3 := (List.getElem?_eq_some_iff.1 h).1
    have := hown.cells (g := g) rfl (k * 3 + j) u (by rw [eps_get _ k (by omega) j hj, hq]; exact h)
    rwa [Addr.add_lit, Nat.zero_add] at this
  have c0 := hcs 0 _ rfl
  have c1 := hcs 1 _ rfl
  have c2 := hcs 2 _ rfl
  simp only [Nat.add_zero] at c0
  have hfz : w.frozen? ⟨g, k * 3 + 2, none⟩ = false := hown.frozenAt _
  have hg : g < w.heap.size := (hown.lt g rfl).2
  have HR := Lib.hid hR
  have Hs := Lib.hid hs
  have Hown := Lib.hid hown
  have Hv := Lib.hid hv
  have Hrn := Lib.hid hrn
  have Hk := Lib.hid hk
  have Hlast := Lib.hid hlast
  clear hs hR hown hv hc hl hrn hk hlast hq hcs
  by_cases hmx : xg < now + 1
  · have hmx' : max xg (now + 1) = now + 1 := by omega
    have Hmx := Lib.hid hmx'
    clear hmx'
    go_enter Try.func21, Try.ntmps21
    go_wp2_with (first | (go_at_call 37; refine (reading_any _ _).mono ?_; rintro r w' ⟨rfl, hw⟩; obtain rfl := hw.symm; rw [h1]))
    go_region
    go_wp2
    have hst := Hown.out.stored (k * 3 + 2) (.int .i64 (now + 1))
    have hext : Ext (fun b => b = g) w (w.setCell ⟨g, k * 3 + 2, none⟩ (.int .i64 (now + 1))) := (Ext.refl _ w).setCell _ (fun _ => rfl)
    have hgo : (slotV L n).ownBlock = some g := by rw [Hv.out]; rfl
    have hset := eps_set (now := now) Hlast.out k Hk.out
    simp only [Hmx.out] at hset
    rw [hset] at hst
    refine bodyPost_ret (v := .tuple #[.agg #[.string n, .int .i64 ((k : Int) + 1), .int .i64 xa, .int .i64 xt], .int .i64 0]) (by simp [results, Try.results21, go_sem]) rfl ?_
    rw [Hs.out]
    refine ⟨rfl, ?_, aput L n ⟨slotV L n, noteM (slotL L n) now⟩, ?_, ?_, ?_⟩
    · exact ((hext.mono (fun b _ h => .inr (.inr (slotV_own (h ▸ hgo))))).alloc _).drew
    · refine HR.out.upd hgo (hext.alloc _).drew ?_
      rw [note_length, Hk.out, Hv.out]
      exact ((hst.1).alloc _).drew
    · rw [regM_aput]
    · intro b hb
      exact fpR_aput (g := g) hgo (.inl hgo) hb
  · have hmx' : max xg (now + 1) = xg := by omega
    have Hmx := Lib.hid hmx'
    clear hmx'
    go_enter Try.func21, Try.ntmps21
    go_wp2_with (first | (go_at_call 37; refine (reading_any _ _).mono ?_; rintro r w' ⟨rfl, hw⟩; obtain rfl := hw.symm; rw [h1]))
    go_region
    go_wp2
    have hst := Hown.out.stored (k * 3 + 2) (.int .i64 (xg))
    have hext : Ext (fun b => b = g) w (w.setCell ⟨g, k * 3 + 2, none⟩ (.int .i64 (xg))) := (Ext.refl _ w).setCell _ (fun _ => rfl)
    have hgo : (slotV L n).ownBlock = some g := by rw [Hv.out]; rfl
    have hset := eps_set (now := now) Hlast.out k Hk.out
    simp only [Hmx.out] at hset
    rw [hset] at hst
    refine bodyPost_ret (v := .tuple #[.agg #[.string n, .int .i64 ((k : Int) + 1), .int .i64 xa, .int .i64 xt], .int .i64 0]) (by simp [results, Try.results21, go_sem]) rfl ?_
    rw [Hs.out]
    refine ⟨rfl, ?_, aput L n ⟨slotV L n, noteM (slotL L n) now⟩, ?_, ?_, ?_⟩
    · exact ((hext.mono (fun b _ h => .inr (.inr (slotV_own (h ▸ hgo))))).alloc _).drew
    · refine HR.out.upd hgo (hext.alloc _).drew ?_
      rw [note_length, Hk.out, Hv.out]
      exact ((hst.1).alloc _).drew
    · rw [regM_aput]
    · intro b hb
      exact fpR_aput (g := g) hgo (.inl hgo) hb

theorem lookup_any (rb mb : Nat) (w : World) (L : List (ByteArray × Slot)) (hR : IsReg w rb mb L) (n : ByteArray) (now : Int) (hlen : (slotL L n).length ≤ 1024) :
    Calls Try.prog 21 #[.pointer (some ⟨rb, 0, none⟩), .string n, .int .i64 now] w (LookPost w rb mb L (lookupM (regM L) n now)) := by
  cases h1 : readB now
  · exact lookup_arg rb mb w L hR n now h1
  · have h2 : 0 ≤ now ∧ now ≤ 1099511627776 := by simpa [readB] using h1
    cases hl : (slotL L n).getLast? with
    | none => exact lookup_none rb mb w L hR n now h1 (by simpa using hl)
    | some x =>
      obtain ⟨xa, xt, xg⟩ := x
      have hne : slotL L n ≠ [] := by intro e; rw [e] at hl; simp at hl
      have hpos := List.length_pos_iff.2 hne
      exact lookup_some rb mb w L hR n now h1 ((slotL L n).length - 1) (by omega) (by omega) xa xt xg hl h2.1 h2.2
end Go.Proofs.Ytgmopnbejjfbjaa
