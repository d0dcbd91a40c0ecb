/-
  The laws on package session: what the tables of a run keep; a run's steps. Conditions: Inv.
-/
import Derived.Test.YthligdgkhmgagaaUE
namespace Go.Proofs.Ythligdgkhmgagaa
open Go.RowKit Go.MapKept
open Go.ChangeMaps (setBlock)

/-- after j calls -/
structure Inv (T : Tbl) (j : Nat) : Prop where
  ok : TOk T
  cl : T.cl.length ≤ j
  st : T.st.length ≤ j
  body : ∀ p ∈ T.cl, p.2.s.size ≤ 1000
theorem Inv.small {T : Tbl} {j : Nat} (h : Inv T j) (hj : j ≤ 1000) : Small T := ⟨h.ok, Nat.le_trans h.cl hj, Nat.le_trans h.st hj, h.body⟩
theorem Inv.zero : Inv T0 0 := ⟨⟨TGood.nil, by simp [T0], by simp [T0], by simp [T0]⟩, by simp [T0], by simp [T0], by simp [T0]⟩
theorem Inv.more {T : Tbl} {j : Nat} (h : Inv T j) : Inv T (j + 1) := ⟨h.ok, Nat.le_succ_of_le h.cl, Nat.le_succ_of_le h.st, h.body⟩
theorem Inv.answer {T : Tbl} {j : Nat} (h : Inv T j) (a b : Int) (s : ByteArray) (hs : s.size ≤ 1000) : Inv (answerM T a b s).1 (j + 1) := by
  rcases answer_cases T a b s with ⟨code, _, hans⟩ | ⟨q1, q2, q3, q4, q5, hans⟩
  · rw [hans]; exact h.more
  · rw [hans]
    refine ⟨⟨h.ok.good.put ⟨q1, q2, q3, q4⟩ _ _, h.ok.snod, h.ok.skey, h.ok.gen⟩, ?_, Nat.le_succ_of_le h.st, ?_⟩
    · have := iput_length T.cl a (⟨b, s⟩ : Ans); have := h.cl; simp only; omega
    · intro p hp
      rcases mem_iput hp with rfl | hp
      · exact hs
      · exact h.body p hp
theorem Inv.note {T : Tbl} {j : Nat} (h : Inv T j) (g s c : Int) (hc : InR c) : Inv (noteM T g s c).1 (j + 1) := by
  unfold noteM
  split
  · exact h.more
  rename_i h0
  have hin : inB g s = true := by simpa using h0
  unfold inB inI at hin
  simp at hin
  split
  · exact h.more
  split
  · exact ⟨⟨⟨h.ok.good.key, h.ok.good.nodup⟩, by simp, by simp; exact ⟨hin.2.1, hin.2.2, hc⟩, by simp only; omega⟩, Nat.le_succ_of_le h.cl, by simp, h.body⟩
  split
  · exact h.more
  · refine ⟨⟨⟨h.ok.good.key, h.ok.good.nodup⟩, iput_nodup h.ok.snod, ?_, h.ok.gen⟩, Nat.le_succ_of_le h.cl, ?_, h.body⟩
    · intro p hp
      rcases mem_iput hp with rfl | hp
      · exact ⟨hin.2.1, hin.2.2, hc⟩
      · exact h.ok.skey p hp
    · have := iput_length T.st s c; have := h.st; simp only; omega
theorem Inv.step {T : Tbl} {j : Nat} (h : Inv T j) (x : SOp) (hs : x.s.size ≤ 1000) (hc : InR x.c) : Inv (stepM T x) (j + 1) := by
  unfold stepM
  split
  · exact h.answer _ _ _ hs
  split
  · exact h.note _ _ _ hc
  · exact h.more
theorem ref_zero (w : World) : IsRef w (.agg #[.slice none 0 0, .int .i64 0, .slice none 0 0]) T0 :=
  ⟨.slice none 0 0, .slice none 0 0, rfl, ⟨by simp [sC, T0, ksort], .inl ⟨rfl, by simp [sC, T0, ksort]⟩⟩, ⟨by simp [sS, T0, ksort], .inl ⟨rfl, by simp [sS, T0, ksort]⟩⟩⟩
end Go.Proofs.Ythligdgkhmgagaa
