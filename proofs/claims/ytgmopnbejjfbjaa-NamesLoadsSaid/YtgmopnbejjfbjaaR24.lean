/-
  The laws on package names: a registry whose blocks are the call's own; its methods; what cutting says. Conditions: Inv.
-/
import Derived.Test.YtgmopnbejjfbjaaR20
namespace Go.Proofs.Ytgmopnbejjfbjaa
open Go.RowKit Go.MapKept
open Go.ChangeMaps (setBlock)

/-- S holds of no block but a registry's own -/
structure Aside (w : World) (mb : Nat) (S : Nat → Prop) : Prop where
  cells : ∀ B cs t f, blk w B = some (.cells cs t f) → t ≠ 96 → t ≠ 100 → ¬ S B
  maps : ∀ B es c, blk w B = some (.map es c) → B ≠ mb → ¬ S B
  iters : ∀ B m c s d, blk w B = some (.mapIter m c s d) → ¬ S B
theorem aside_reg {w : World} {rb mb : Nat} {L : List (ByteArray × Slot)} (h : IsReg w rb mb L) : Aside w mb (fpR rb mb L) := by
  obtain ⟨g1, ⟨es, c, g2, _⟩, g3, _⟩ := h
  refine ⟨fun B cs t f hb h1 h2 hf => ?_, fun B es c hb hne hf => ?_, fun B m c s d hb hf => ?_⟩
  · rcases hf with rfl | rfl | ⟨p, hp, hpg⟩
    · rw [g1] at hb; cases hb; exact h1 rfl
    · rw [g2] at hb; cases hb
    · obtain ⟨cur2, hc2⟩ := row_type (g3 p hp).1 hpg
      rw [hc2] at hb; cases hb; exact h2 rfl
  · rcases hf with rfl | rfl | ⟨p, hp, hpg⟩
    · rw [g1] at hb; cases hb
    · exact hne rfl
    · obtain ⟨cur2, hc2⟩ := row_type (g3 p hp).1 hpg
      rw [hc2] at hb; cases hb
  · rcases hf with rfl | rfl | ⟨p, hp, hpg⟩
    · rw [g1] at hb; cases hb
    · rw [g2] at hb; cases hb
    · obtain ⟨cur2, hc2⟩ := row_type (g3 p hp).1 hpg
      rw [hc2] at hb; cases hb
theorem Aside.row {w w' : World} {mb : Nat} {S : Nat → Prop} (h : Aside w mb S) (hx : Ext S w w') {e : TypeId} {size : Nat} {v : Value} {n : Nat} {xs : List Value} (hr : w.ownsRow 0 e size v n xs) (h1 : e ≠ 96) (h2 : e ≠ 100) : w'.ownsRow 0 e size v n xs :=
  ownsRow_ext hr hx (fun g hg => by
    obtain ⟨cur, hc⟩ := row_type hr hg
    exact h.cells g _ _ _ hc h1 h2)
theorem Aside.ref {w w' : World} {mb : Nat} {S : Nat → Prop} (h : Aside w mb S) (hx : Ext S w w') {v : Value} {M : List (ByteArray × List Ep)} (hr : IsRef45 w v M) : IsRef45 w' v M := by
  obtain ⟨R, ⟨h1, h2⟩, h3⟩ := hr
  exact ⟨R, ⟨h.row hx h1 (by decide) (by decide), fun p hp => h.row hx (h2 p hp) (by decide) (by decide)⟩, h3⟩
theorem Aside.blk {w w' : World} {mb : Nat} {S : Nat → Prop} (h : Aside w mb S) (hx : Ext S w w') {B : Nat} {cs : Array Value} {t : TypeId} {f : Nat × Nat} (hb : blk w B = some (.cells cs t f)) (h1 : t ≠ 96) (h2 : t ≠ 100) : blk w' B = some (.cells cs t f) :=
  (hx.blk (blk_lt hb) (h.cells _ _ _ _ hb h1 h2)).trans hb
theorem Aside.map {w w' : World} {mb : Nat} {S : Nat → Prop} (h : Aside w mb S) (hx : Ext S w w') {B : Nat} {es : Array MapEntry} {c : Nat} (hb : Proofs.Ytgmopnbejjfbjaa.blk w B = some (.map es c)) (h1 : B ≠ mb) : Proofs.Ytgmopnbejjfbjaa.blk w' B = some (.map es c) :=
  (hx.blk (blk_lt hb) (h.maps _ _ _ hb h1)).trans hb
/-- a registry that lies in memory of the call's own -/
def RegAt (w0 w : World) (rb mb : Nat) (M : List (ByteArray × List Ep)) : Prop :=
  ∃ L, IsReg w rb mb L ∧ regM L = M ∧ Ext (fun _ => False) w0 w ∧ ∀ b, fpR rb mb L b → w0.heap.size ≤ b
theorem RegAt.keep {w0 w w' : World} {rb mb : Nat} {M : List (ByteArray × List Ep)} (h : RegAt w0 w rb mb M) (hx : Ext (fun _ => False) w w') : RegAt w0 w' rb mb M := by
  obtain ⟨L, h1, h2, h3, h4⟩ := h
  exact ⟨L, h1.ext hx (fun _ _ h => h), h2, h3.trans hx, h4⟩
theorem RegAt.ext {w0 w : World} {rb mb : Nat} {M : List (ByteArray × List Ep)} (h : RegAt w0 w rb mb M) : Ext (fun _ => False) w0 w := by
  obtain ⟨L, _, _, h3, _⟩ := h
  exact h3
theorem RegAt.lt {w0 w : World} {rb mb : Nat} {M : List (ByteArray × List Ep)} (h : RegAt w0 w rb mb M) : mb < w.heap.size := by
  obtain ⟨L, h1, _⟩ := h
  exact h1.lt (.inr (.inl rfl))
theorem RegAt.next {w0 w w' : World} {rb mb : Nat} {L L' : List (ByteArray × Slot)} (hx0 : Ext (fun _ => False) w0 w) (hfp : ∀ b, fpR rb mb L b → w0.heap.size ≤ b) (h1 : IsReg w' rb mb L') (hx : Ext (fpR rb mb L) w w') (h4 : ∀ b, fpR rb mb L' b → fpR rb mb L b ∨ w.heap.size ≤ b) : RegAt w0 w' rb mb (regM L') :=
  ⟨L', h1, rfl, hx0.trans' hx (fun k hk e => absurd hk (by have := hfp k e; omega)), fun b hb => (h4 b hb).elim (hfp b) (fun h => Nat.le_trans hx0.size h)⟩
def GoesPost (w0 w : World) (rb mb : Nat) (M' : List (ByteArray × List Ep)) (v : Value) (r : Ending) (w' : World) : Prop :=
  r = .returned v ∧ RegAt w0 w' rb mb M' ∧ ∃ S, Ext S w w' ∧ Aside w mb S
theorem lookup_at (w0 w : World) (rb mb : Nat) (M : List (ByteArray × List Ep)) (h : RegAt w0 w rb mb M) (hM : Small M) (n : ByteArray) (now : Int) :
    Calls Try.prog 21 #[.pointer (some ⟨rb, 0, none⟩), .string n, .int .i64 now] w (GoesPost w0 w rb mb (lookupM M n now).1 (.tuple #[(lookupM M n now).2.1.v, .int .i64 (lookupM M n now).2.2])) := by
  obtain ⟨L, h1, rfl, h3, h4⟩ := h
  have := hM.lens n
  refine (lookup_any rb mb w L h1 n now (by rw [slotL_eq]; omega)).mono ?_
  rintro r w' ⟨rfl, hx, L', hL', hm, hf⟩
  refine ⟨rfl, ?_, _, hx, aside_reg h1⟩
  rw [← hm]
  exact RegAt.next h3 h4 hL' hx hf
theorem publish_at (w0 w : World) (rb mb : Nat) (M : List (ByteArray × List Ep)) (h : RegAt w0 w rb mb M) (n : ByteArray) (a t now : Int) (hns : n.size ≤ 9223372036854775807) :
    Calls Try.prog 19 #[.pointer (some ⟨rb, 0, none⟩), .string n, .int .i64 a, .int .i64 t, .int .i64 now] w (GoesPost w0 w rb mb (publishM M n a t now).1 (.tuple #[.int .i64 (publishM M n a t now).2.1, .int .i64 (publishM M n a t now).2.2])) := by
  obtain ⟨L, h1, rfl, h3, h4⟩ := h
  refine (publish_any rb mb w L h1 n a t now hns).mono ?_
  rintro r w' ⟨rfl, hx, L', hL', hm, hf⟩
  refine ⟨rfl, ?_, _, hx, aside_reg h1⟩
  rw [← hm]
  exact RegAt.next h3 h4 hL' hx hf
theorem maycut_at (w0 w : World) (rb mb : Nat) (M : List (ByteArray × List Ep)) (h : RegAt w0 w rb mb M) (hM : Small M) (n : ByteArray) (ep now : Int) (hep : -9223372036854775808 ≤ ep) :
    Calls Try.prog 22 #[.pointer (some ⟨rb, 0, none⟩), .string n, .int .i64 ep, .int .i64 now] w (StayPost w (.bool (mayCutM M n ep now))) := by
  obtain ⟨L, h1, rfl, h3, h4⟩ := h
  have := hM.lens n
  exact maycut_any rb mb w L h1 n ep now (by rw [slotL_eq]; exact hM.eps n) (by rw [slotL_eq]; omega) hep
theorem names_at (w0 w : World) (rb mb : Nat) (M : List (ByteArray × List Ep)) (h : RegAt w0 w rb mb M) (hM : M.length ≤ 1000) :
    Calls Try.prog 25 #[.pointer (some ⟨rb, 0, none⟩)] w (NamesPost w (namesM M)) := by
  obtain ⟨L, h1, rfl, h3, h4⟩ := h
  exact names_any w rb mb L h1 (by simp [regM] at hM; omega)
/-! ### what cutting says -/
theorem assoc_aput {α : Type} (l : List (ByteArray × α)) (s : ByteArray) (v : α) (p : ByteArray) : assoc (aput l s v) p = if p = s then some v else assoc l p := by
  induction l with
  | nil =>
    simp only [aput, assoc]
    by_cases h : s = p
    · rw [if_pos h, if_pos h.symm]
    · rw [if_neg h, if_neg (Ne.symm h)]
  | cons q r ih =>
    obtain ⟨k, u⟩ := q
    simp only [aput]
    by_cases h : k = s
    · subst h
      simp only [if_true, assoc]
      by_cases h2 : k = p
      · rw [if_pos h2, if_pos h2.symm]
      · rw [if_neg h2, if_neg (Ne.symm h2), if_neg h2]
    · rw [if_neg h]
      simp only [assoc]
      by_cases h2 : k = p
      · subst h2
        rw [if_pos rfl, if_neg h, if_pos rfl]
      · rw [if_neg h2, if_neg h2, ih]
theorem mayCutM_out (M : List (ByteArray × List Ep)) (n : ByteArray) (ep t : Int) (h : ep < 1 ∨ (((assoc M n).getD []).length : Int) ≤ ep) : mayCutM M n ep t = false := by
  unfold mayCutM
  exact if_pos h
theorem mayCutM_in (M : List (ByteArray × List Ep)) (n : ByteArray) (k : Nat) (t : Int) (x : Ep) (h1 : 1 ≤ k) (h2 : k < ((assoc M n).getD []).length) (hx : ((assoc M n).getD [])[k - 1]? = some x) : mayCutM M n k t = (decide (x.g = 0) || decide (x.g - 1 + marginI x.t ≤ t)) := by
  unfold mayCutM
  simp only
  rw [if_neg (by omega), show ((k : Int) - 1).toNat = k - 1 by omega, hx]
theorem cuts_law {M : List (ByteArray × List Ep)} {j : Nat} (h : Inv M j) (hj : j ≤ 1000) (n : ByteArray) (now : Int) (hr : readB now = true) :
    (lookupM M n now = (M, .zero, 6) ∧ ∀ t, mayCutM M n 1 t = false) ∨
    ∃ (K : Nat) (x : Ep) (M1 M2 : List (ByteArray × List Ep)) (E : Int), 1 ≤ K ∧ K ≤ j ∧ okEp x ∧ lookupM M n now = (M1, ⟨n, K, x.a, x.t⟩, 0) ∧ Inv M1 (j + 1) ∧ (∀ t, mayCutM M1 n K t = false) ∧ (∀ t, mayCutM M1 n ((K : Int) + 1) t = false) ∧ (∀ t, mayCutM M1 n 0 t = false) ∧
      publishM M1 n 9 1 now = (M2, (K : Int) + 1, 0) ∧ Inv M2 (j + 2) ∧ (∀ t, mayCutM M2 n K t = decide (E ≤ t)) ∧ (∀ t, mayCutM M2 n ((K : Int) + 1) t = false) ∧ now + marginI x.t ≤ E := by
  cases hl : ((assoc M n).getD []).getLast? with
  | none =>
    left
    have he : (assoc M n).getD [] = [] := by simpa using hl
    refine ⟨by unfold lookupM; rw [hr]; simp only [if_true, hl], fun t => mayCutM_out _ _ _ _ (.inr (by rw [he]; simp))⟩
  | some x =>
    right
    obtain ⟨g1, g2, g3⟩ := h.get n
    have hne : (assoc M n).getD [] ≠ [] := by intro e; rw [e] at hl; cases hl
    have hpos := List.length_pos_iff.2 hne
    have hlk : lookupM M n now = (aput M n (noteM ((assoc M n).getD []) now), ⟨n, ((assoc M n).getD []).length, x.a, x.t⟩, 0) := by
      unfold lookupM; rw [hr]; simp only [if_true, hl]
    have hi1 : Inv (aput M n (noteM ((assoc M n).getD []) now)) (j + 1) := by
      have := h.lookup n now
      rw [hlk] at this; exact this
    have hget1 : (assoc (aput M n (noteM ((assoc M n).getD []) now)) n).getD [] = noteM ((assoc M n).getD []) now := by rw [assoc_aput, if_pos rfl]; rfl
    have hpub : publishM (aput M n (noteM ((assoc M n).getD []) now)) n 9 1 now = (aput (aput M n (noteM ((assoc M n).getD []) now)) n (noteM ((assoc M n).getD []) now ++ [⟨9, 1, 0⟩]), (((assoc M n).getD []).length : Int) + 1, 0) := by
      unfold publishM
      rw [g3 hne, hr, show validB 9 1 = true from rfl]
      simp only [Bool.and_self, if_true, hget1, note_length]
      rw [if_neg (by omega)]
    have hi2 : Inv (aput (aput M n (noteM ((assoc M n).getD []) now)) n (noteM ((assoc M n).getD []) now ++ [⟨9, 1, 0⟩])) (j + 2) := by
      have := hi1.publish n 9 1 now
      rw [hpub] at this; exact this
    have hget2 : (assoc (aput (aput M n (noteM ((assoc M n).getD []) now)) n (noteM ((assoc M n).getD []) now ++ [⟨9, 1, 0⟩])) n).getD [] = noteM ((assoc M n).getD []) now ++ [⟨9, 1, 0⟩] := by rw [assoc_aput, if_pos rfl]; rfl
    have hx := g2 x (List.mem_of_getLast? hl)
    refine ⟨((assoc M n).getD []).length, x, _, _, max x.g (now + 1) - 1 + marginI x.t, hpos, g1, hx, hlk, hi1, fun t => mayCutM_out _ _ _ _ (.inr (by rw [hget1, note_length]; omega)), fun t => mayCutM_out _ _ _ _ (.inr (by rw [hget1, note_length]; omega)), fun t => mayCutM_out _ _ _ _ (.inl (by omega)), hpub, hi2, fun t => ?_, fun t => mayCutM_out _ _ _ _ (.inr (by rw [hget2]; simp [note_length])), by omega⟩
    have hat : (noteM ((assoc M n).getD []) now ++ [(⟨9, 1, 0⟩ : Ep)])[((assoc M n).getD []).length - 1]? = some ⟨x.a, x.t, max x.g (now + 1)⟩ := by
      rw [List.getElem?_append_left (by rw [note_length]; omega)]
      unfold noteM
      rw [hl, List.getElem?_append_right (by simp)]
      simp
    rw [mayCutM_in _ n _ t _ hpos (by rw [hget2]; simp [note_length]) (by rw [hget2]; exact hat)]
    unfold readB at hr
    simp at hr
    have : ¬ (max x.g (now + 1) = 0) := by omega
    simp [this]
end Go.Proofs.Ytgmopnbejjfbjaa
