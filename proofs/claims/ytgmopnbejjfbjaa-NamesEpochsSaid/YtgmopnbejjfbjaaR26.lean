/-
  The laws on package names: what a lookup leaves as it was; the newest entries of a registry. Conditions: Inv.
-/
import Derived.Test.YtgmopnbejjfbjaaR24
namespace Go.Proofs.Ytgmopnbejjfbjaa
open Go.RowKit Go.MapKept
open Go.ChangeMaps (setBlock)

/-- the newest entry of a name -/
def entOf (M : List (ByteArray × List Ep)) (n : ByteArray) : Option Ent :=
  match assoc M n with
  | some l => (l.getLast?).map fun x => ⟨n, l.length, x.a, x.t⟩
  | none => none
theorem aput_keys {α : Type} {l : List (ByteArray × α)} {s : ByteArray} (h : (assoc l s).isSome = true) (v : α) : (aput l s v).map Prod.fst = l.map Prod.fst := by
  induction l with
  | nil => cases h
  | cons q r ih =>
    obtain ⟨k, u⟩ := q
    simp only [aput]
    by_cases hk : k = s
    · rw [if_pos hk]; rfl
    · rw [if_neg hk]
      simp only [assoc, if_neg hk] at h
      simp only [List.map_cons, ih h]
theorem aput_new {α : Type} {l : List (ByteArray × α)} {s : ByteArray} (h : assoc l s = none) (v : α) : aput l s v = l ++ [(s, v)] := by
  induction l with
  | nil => rfl
  | cons q r ih =>
    obtain ⟨k, u⟩ := q
    simp only [assoc] at h
    split at h
    · cases h
    · rename_i hk
      simp only [aput, if_neg hk, ih h, List.cons_append]
theorem assoc_isSome {α : Type} {l : List (ByteArray × α)} {s : ByteArray} : (assoc l s).isSome = true ↔ s ∈ l.map Prod.fst := by
  induction l with
  | nil => simp [assoc]
  | cons q r ih =>
    obtain ⟨k, u⟩ := q
    simp only [assoc, List.map_cons, List.mem_cons]
    by_cases hk : k = s
    · subst hk; simp
    · rw [if_neg hk, ih]; simp [Ne.symm hk]
/-- the same names, and each one's newest entry -/
structure Alike (M M' : List (ByteArray × List Ep)) : Prop where
  keys : M'.map Prod.fst = M.map Prod.fst
  ent : ∀ n, entOf M' n = entOf M n
theorem Alike.refl (M : List (ByteArray × List Ep)) : Alike M M := ⟨rfl, fun _ => rfl⟩
theorem Alike.trans {A B C : List (ByteArray × List Ep)} (h : Alike A B) (k : Alike B C) : Alike A C := ⟨k.keys.trans h.keys, fun n => (k.ent n).trans (h.ent n)⟩
theorem Alike.length {A B : List (ByteArray × List Ep)} (h : Alike A B) : B.length = A.length := by
  have := congrArg List.length h.keys
  simpa using this
theorem Alike.some {A B : List (ByteArray × List Ep)} (h : Alike A B) (n : ByteArray) : (assoc B n).isSome = (assoc A n).isSome := by
  rw [Bool.eq_iff_iff, assoc_isSome, assoc_isSome, h.keys]
theorem note_last {l : List Ep} {x : Ep} (now : Int) (h : l.getLast? = some x) : (noteM l now).getLast? = some ⟨x.a, x.t, max x.g (now + 1)⟩ := by
  unfold noteM
  rw [h]
  simp
/-- a name that is there is found, with its newest entry; all else stays -/
theorem lookup_there {M : List (ByteArray × List Ep)} {j : Nat} (h : Inv M j) {n : ByteArray} (hn : (assoc M n).isSome = true) : ∃ e : Ent, entOf M n = some e ∧ e.n = n ∧ 1 ≤ e.e ∧ (lookupM M n 0).2 = (e, 0) ∧ Inv (lookupM M n 0).1 j ∧ Alike M (lookupM M n 0).1 := by
  obtain ⟨l, hl⟩ := Option.isSome_iff_exists.1 hn
  obtain ⟨a, b, c, d⟩ := h.each _ (mem_of_assoc hl)
  simp only at a b c d
  obtain ⟨x, hx⟩ : ∃ x, l.getLast? = some x := by
    cases hx : l.getLast? with
    | some x => exact ⟨x, rfl⟩
    | none => have : l = [] := by simpa using hx
              subst this; simp at b
  have hlk : lookupM M n 0 = (aput M n (noteM l 0), ⟨n, l.length, x.a, x.t⟩, 0) := by
    unfold lookupM
    rw [show readB 0 = true from rfl, hl]
    simp only [if_true, Option.getD_some, hx]
  have hent : entOf M n = some ⟨n, l.length, x.a, x.t⟩ := by unfold entOf; rw [hl]; simp only [hx]; rfl
  refine ⟨⟨n, l.length, x.a, x.t⟩, hent, rfl, by simp only; omega, by rw [hlk], ?_, ?_⟩
  · rw [hlk]
    refine ⟨aput_nodup h.nodup _ _, by rw [(aput_len M n (noteM l 0)).2 hn]; exact h.len, fun p hp => ?_⟩
    rcases mem_aput hp with rfl | hp
    · exact ⟨a, by rw [note_length]; exact b, by rw [note_length]; exact c, note_ok d rfl⟩
    · exact h.each p hp
  · rw [hlk]
    refine ⟨aput_keys hn _, fun m => ?_⟩
    simp only
    by_cases hm : m = n
    · subst hm
      rw [hent]
      unfold entOf
      rw [assoc_aput, if_pos rfl]
      simp only [note_last 0 hx, note_length]
      rfl
    · unfold entOf
      rw [assoc_aput, if_neg hm]
/-- what publishing answers, and leaves -/
theorem publish_there {M : List (ByteArray × List Ep)} {j : Nat} (h : Inv M j) (hj : j ≤ 1000) (n : ByteArray) (a t now : Int) :
    (∃ c, publishM M n a t now = (M, 0, c) ∧ (c = 1 ∨ c = 8)) ∨
    ∃ M', publishM M n a t now = (M', (((entOf M n).map Ent.e).getD 0) + 1, 0) ∧ Inv M' (j + 1) ∧ entOf M' n = some ⟨n, (((entOf M n).map Ent.e).getD 0) + 1, a, t⟩ ∧ (∀ m, m ≠ n → entOf M' m = entOf M m) ∧ (∀ m, (assoc M' m).isSome = (decide (m = n) || (assoc M m).isSome)) ∧ M'.length = if (assoc M n).isSome then M.length else M.length + 1 := by
  have hep : (((entOf M n).map Ent.e).getD 0) = (((assoc M n).getD []).length : Int) := by
    unfold entOf
    cases hl : assoc M n with
    | none => rfl
    | some l =>
      obtain ⟨_, b, _, _⟩ := h.each _ (mem_of_assoc hl)
      simp only at b ⊢
      cases hx : l.getLast? with
      | some x => rfl
      | none => have : l = [] := by simpa using hx
                subst this; rfl
  rw [hep]
  have hinv := h.publish n a t now
  unfold publishM at hinv ⊢
  split at hinv
  · rename_i hb
    rw [if_pos hb]
    simp only at hinv ⊢
    split at hinv
    · rename_i h1
      rw [if_pos h1]
      exact .inl ⟨8, rfl, .inr rfl⟩
    · rename_i h1
      rw [if_neg h1]
      refine .inr ⟨_, rfl, hinv, ?_, fun m hm => ?_, fun m => ?_, ?_⟩
      · unfold entOf
        rw [assoc_aput, if_pos rfl]
        simp
      · unfold entOf
        rw [assoc_aput, if_neg hm]
      · rw [assoc_aput]
        by_cases hm : m = n
        · simp [hm]
        · simp [hm]
      · cases hs : (assoc M n).isSome with
        | true => rw [(aput_len M n _).2 hs]; rfl
        | false =>
          rw [aput_new (by simpa using hs)]
          simp
  · rename_i hb
    rw [if_neg hb]
    exact .inl ⟨1, rfl, .inl rfl⟩
end Go.Proofs.Ytgmopnbejjfbjaa
