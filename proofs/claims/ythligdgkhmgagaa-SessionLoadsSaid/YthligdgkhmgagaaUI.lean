/-
  The laws on package session: the plain laws of SessionFences and SessionClients. Conditions: none.
-/
import Derived.Test.YthligdgkhmgagaaUF
namespace Go.Proofs.Ythligdgkhmgagaa
open Go.RowKit Go.MapKept

theorem iget_iput_same {α : Type} (l : List (Int × α)) (k : Int) (v : α) : iget (iput l k v) k = some v := by rw [iget_iput]; simp
theorem fence_known {T : Tbl} {g s : Int} (c : Int) (h : (adminM T g s).2 = true) : (noteM T g s c).1 = T ∧ ¬ (noteM T g s c).2 = 0 := by
  unfold adminM at h
  unfold noteM
  split at h
  · rename_i h0; rw [if_pos h0]; exact ⟨rfl, by simp⟩
  rename_i h0; rw [if_neg h0]
  split at h
  · rename_i h1; rw [if_pos h1]; exact ⟨rfl, by simp⟩
  rename_i h1; rw [if_neg h1]
  split at h
  · cases h
  rename_i h2; rw [if_neg h2, if_pos h]; exact ⟨rfl, by simp⟩
structure Fence (T : Tbl) (g s c : Int) (T' : Tbl) : Prop where
  code : (noteM T g s c) = (T', 0)
  gen : T'.gen = g
  ge : T.gen ≤ g
  low : 1 ≤ g
  high : g ≤ 4611686018427387904
  known : adminM T' g s = (c, true)
  fenced : adminM T' (g - 1) s = (if g = 1 then 1 else 12, true)
  again : ∀ c2, noteM T' g s c2 = (T', 5)
theorem fence_new {T : Tbl} {g s : Int} (c : Int) (h : (adminM T g s).2 = false) : Fence T g s c (noteM T g s c).1 := by
  have hin : inB g s = true := by
    cases h0 : inB g s with
    | true => rfl
    | false => unfold adminM at h; rw [if_pos h0] at h; cases h
  have hg : ¬ g < T.gen := fun h1 => by unfold adminM at h; rw [if_neg (by rw [hin]; decide), if_pos h1] at h; cases h
  have hr : (1 ≤ g ∧ g ≤ 4611686018427387904) ∧ 1 ≤ s ∧ s ≤ 4611686018427387904 := by unfold inB inI at hin; simpa using hin
  have hfin : ∀ T' : Tbl, T'.gen = g → iget T'.st s = some c → noteM T g s c = (T', 0) → Fence T g s c (noteM T g s c).1 := fun T' e1 e2 e3 => by
    have e4 : (noteM T g s c).1 = T' := by rw [e3]
    rw [e4]
    refine ⟨e3, e1, by omega, hr.1.1, hr.1.2, ?_, ?_, fun c2 => ?_⟩
    · unfold adminM; rw [if_neg (by rw [hin]; decide), if_neg (by omega), if_neg (by omega), e2]; rfl
    · unfold adminM
      by_cases h1 : g = 1
      · subst h1
        rw [if_pos (by unfold inB inI; simp), if_pos rfl]
      · have hin' : inB (g - 1) s = true := by unfold inB inI; simp; omega
        rw [if_neg (by rw [hin']; decide), if_pos (by omega), if_neg h1]
    · unfold noteM; rw [if_neg (by rw [hin]; decide), if_neg (by omega), if_neg (by omega), e2]; rfl
  by_cases h2 : T.gen < g
  · refine hfin ⟨T.cl, g, [(s, c)]⟩ rfl (by simp [iget]) ?_
    unfold noteM; rw [if_neg (by rw [hin]; decide), if_neg hg, if_pos h2]
  · have h3 : (iget T.st s).isSome = false := by unfold adminM at h; rw [if_neg (by rw [hin]; decide), if_neg hg, if_neg h2] at h; exact h
    refine hfin ⟨T.cl, T.gen, iput T.st s c⟩ (by simp only; omega) (iget_iput_same _ _ _) ?_
    unfold noteM; rw [if_neg (by rw [hin]; decide), if_neg hg, if_neg h2, if_neg (by rw [h3]; decide)]
theorem noteM_cl (T : Tbl) (g s c : Int) : (noteM T g s c).1.cl = T.cl := by
  unfold noteM; repeat' split
  all_goals rfl
theorem clientM_cl {T T' : Tbl} {c n : Int} (h : iget T'.cl c = iget T.cl c) : clientM T' c n = clientM T c n := by
  unfold clientM; rw [h]
theorem client_law (T : Tbl) (x : SOp) (c n : Int) (h : ¬ (x.k = 1 ∧ x.a = c)) : clientM (stepM T x) c n = clientM T c n := by
  refine clientM_cl ?_
  unfold stepM
  split
  · rename_i h1
    rcases answer_cases T x.a x.b x.s with ⟨code, _, hans⟩ | ⟨_, _, _, _, _, hans⟩
    · rw [hans]
    · rw [hans]
      simp only
      rw [iget_iput, if_neg (fun e => h ⟨h1, e.symm⟩)]
  split
  · rw [noteM_cl]
  · rfl
end Go.Proofs.Ythligdgkhmgagaa
