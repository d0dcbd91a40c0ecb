/-
  The resolver and the reference keep and resolve the same, in plain Lean. Conditions: the names of the list are distinct.
-/
import Derived.Test.YtgmopnbejjfbjaaX12
namespace Go.Proofs.Ytgmopnbejjfbjaa
open Go.RowKit Go.MapKept
open Go.ChangeMaps (setBlock)

/-! ### the two keep the same -/
def tag (l : List KV) : List (ByteArray × KV) := l.map fun y => (y.x.n, y)
theorem assoc_tag (l : List KV) (n : ByteArray) : assoc (tag l) n = l.find? (fun y => decide (y.x.n = n)) := by
  induction l with
  | nil => rfl
  | cons y r ih =>
    simp only [tag, List.map_cons, assoc, List.find?_cons] at *
    by_cases h : y.x.n = n
    · simp [h]
    · simp [h, ih]
def Distinct (l : List KV) : Prop := l.Pairwise (fun y z => y.x.n ≠ z.x.n)
theorem upd_name (x y : KV) : (upd x y).x.n = y.x.n := by
  unfold upd
  split
  · rename_i h; split
    · exact h.symm
    · rfl
  · rfl
theorem keepR_distinct {l : List KV} (x : KV) (h : Distinct l) : Distinct (keepR l x) := by
  unfold Distinct keepR
  rw [List.pairwise_append]
  refine ⟨?_, ?_, ?_⟩
  · rw [List.pairwise_map]
    exact h.imp (fun {a b} hab => by rw [upd_name, upd_name]; exact hab)
  · split <;> simp
  · intro a ha b hb
    split at hb
    · cases hb
    · rename_i hno
      simp at hb; subst hb
      obtain ⟨y, hy, rfl⟩ := List.mem_map.1 ha
      rw [upd_name]
      intro e
      apply hno
      rw [List.any_eq_true]
      exact ⟨y, hy, by simpa using e⟩
theorem better_iff (y x : KV) : decide (orI (cmpI y.x.e x.x.e) (cmpI y.k x.k) < 0) = better y x := by
  unfold better orI cmpI
  rcases Int.lt_trichotomy y.x.e x.x.e with h | h | h
  · simp [h]
  · simp [h]
    by_cases h2 : y.k < x.k
    · simp [h2]
    · simp [h2]; split <;> simp
  · have h1 : ¬ y.x.e < x.x.e := by omega
    have h2 : ¬ y.x.e = x.x.e := by omega
    simp [h, h1, h2]
theorem map_upd_id {l : List KV} {x : KV} (h : ∀ y ∈ l, y.x.n ≠ x.x.n) : l.map (upd x) = l := by
  rw [List.map_congr_left (g := id)]
  · simp
  · intro y hy; simp [upd, h y hy]
theorem aput_tag {l : List KV} {x : KV} (h : Distinct l) : aput (tag l) x.x.n x = if l.any (fun y => decide (y.x.n = x.x.n)) then tag (l.map (fun y => if y.x.n = x.x.n then x else y)) else tag (l ++ [x]) := by
  induction l with
  | nil => rfl
  | cons y r ih =>
    obtain ⟨h1, h2⟩ := List.pairwise_cons.1 h
    simp only [tag, List.map_cons, aput, List.any_cons] at *
    by_cases hy : y.x.n = x.x.n
    · simp only [hy, if_true, decide_true, Bool.true_or, List.cons.injEq, true_and]
      rw [List.map_congr_left (g := id)]
      · simp
      · intro z hz
        have := h1 z hz
        rw [hy] at this
        simp [Ne.symm this]
    · simp only [hy, if_false, decide_false, Bool.false_or]
      rw [ih h2]
      split <;> simp
theorem distinct_uniq {l : List KV} (h : Distinct l) {y z : KV} (hy : y ∈ l) (hz : z ∈ l) (e : z.x.n = y.x.n) : z = y := by
  induction l with
  | nil => cases hy
  | cons a r ih =>
    obtain ⟨h1, h2⟩ := List.pairwise_cons.1 h
    rcases List.mem_cons.1 hy with hy' | hy'
    · rcases List.mem_cons.1 hz with hz' | hz'
      · rw [hy', hz']
      · exact absurd e.symm (hy' ▸ h1 z hz')
    · rcases List.mem_cons.1 hz with hz' | hz'
      · exact absurd e (hz' ▸ h1 y hy')
      · exact ih h2 hy' hz'
theorem keep_same {l : List KV} (x : KV) (h : Distinct l) : keepL (tag l) x = tag (keepR l x) := by
  unfold keepL keepB
  rw [assoc_tag]
  cases hf : l.find? (fun y => decide (y.x.n = x.x.n)) with
  | none =>
    have hno : ∀ y ∈ l, y.x.n ≠ x.x.n := by simpa using hf
    have hany : l.any (fun y => decide (y.x.n = x.x.n)) = false := by
      rw [List.any_eq_false]; intro y hy; simpa using hno y hy
    simp only [if_true, aput_tag h, keepR, hany, map_upd_id hno]
    rfl
  | some y =>
    simp only [better_iff]
    have hy := List.find?_some hf
    have hm := List.mem_of_find?_eq_some hf
    simp at hy
    have hany : l.any (fun y => decide (y.x.n = x.x.n)) = true := by
      rw [List.any_eq_true]; exact ⟨y, hm, by simpa using hy⟩
    have huniq : ∀ z ∈ l, z.x.n = x.x.n → z = y := by
      intro z hz hzn
      exact distinct_uniq h hm hz (hzn.trans hy.symm)
    simp only [keepR, hany, if_true, List.append_nil]
    by_cases hb : better y x = true
    · rw [if_pos hb, aput_tag h, if_pos hany]
      congr 1
      apply List.map_congr_left
      intro z hz
      unfold upd
      split
      · rename_i hzn
        rw [huniq z hz hzn, if_pos hb]
      · rfl
    · rw [if_neg hb]
      congr 1
      rw [List.map_congr_left (g := id)]
      · simp
      · intro z hz
        unfold upd
        split
        · rename_i hzn
          rw [huniq z hz hzn, if_neg hb]; rfl
        · rfl
theorem resolve_same {l : List KV} (h : Distinct l) (n : ByteArray) (now : Int) : resolveM (tag l) n now = resolveR l n now := by
  unfold resolveM resolveR
  rw [assoc_tag]
  induction l with
  | nil => rfl
  | cons y r ih =>
    obtain ⟨h1, h2⟩ := List.pairwise_cons.1 h
    simp only [List.find?_cons]
    by_cases hy : y.x.n = n
    · simp only [hy, decide_true, Bool.true_and]
      cases hl : live y now with
      | true => simp
      | false =>
        have hno : r.find? (fun y => decide (y.x.n = n) && live y now) = none := by
          rw [List.find?_eq_none]
          intro z hz
          have := h1 z hz
          rw [hy] at this
          simp [Ne.symm this]
        simp [hno]
    · simp only [hy, decide_false, Bool.false_and]
      exact ih h2
def kept (ks : List KV) : List KV := ks.foldl keepR []
theorem kept_distinct (ks : List KV) : Distinct (kept ks) := by
  have : ∀ (ks l : List KV), Distinct l → Distinct (ks.foldl keepR l) := by
    intro ks
    induction ks with
    | nil => intro l h; exact h
    | cons x r ih => intro l h; exact ih _ (keepR_distinct x h)
  exact this ks [] List.Pairwise.nil
theorem kept_snoc (ks : List KV) (x : KV) : kept (ks ++ [x]) = keepR (kept ks) x := by simp [kept]
theorem keepR_length (l : List KV) (x : KV) : (keepR l x).length ≤ l.length + 1 ∧ 1 ≤ (keepR l x).length := by
  unfold keepR
  split
  · rename_i h
    rw [List.any_eq_true] at h
    obtain ⟨y, hy, _⟩ := h
    have := List.length_pos_of_mem hy
    simp; omega
  · simp
theorem kept_length (ks : List KV) : (kept ks).length ≤ ks.length := by
  have : ∀ (ks l : List KV), (ks.foldl keepR l).length ≤ l.length + ks.length := by
    intro ks
    induction ks with
    | nil => intro l; simp
    | cons x r ih => intro l; have := ih (keepR l x); have := (keepR_length l x).1; simp; omega
  have := this ks []
  simpa [kept] using this
end Go.Proofs.Ytgmopnbejjfbjaa
