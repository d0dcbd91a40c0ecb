/-
  Lists of keys and values: look up, lay, sort by key; what laying does to the sorted list. Conditions: the order is linear.
-/
namespace Go.Proofs.Ythligdgkhmgagaa
/-- a linear order, as a test -/
structure LinB {κ : Type} (le : κ → κ → Bool) : Prop where
  trans : ∀ a b c, le a b = true → le b c = true → le a c = true
  total : ∀ a b, (le a b || le b a) = true
  anti : ∀ a b, le a b = true → le b a = true → a = b
section
variable {κ α : Type}
def kget [DecidableEq κ] : List (κ × α) → κ → Option α
  | [], _ => none
  | (k, v) :: r, s => if k = s then some v else kget r s
def kput [DecidableEq κ] : List (κ × α) → κ → α → List (κ × α)
  | [], s, v => [(s, v)]
  | (k, x) :: r, s, v => if k = s then (k, v) :: r else (k, x) :: kput r s v
theorem kget_none [DecidableEq κ] {l : List (κ × α)} {k : κ} (h : kget l k = none) : ∀ p ∈ l, p.1 ≠ k := by
  induction l with
  | nil => intro p hp; cases hp
  | cons q r ih =>
    obtain ⟨a, b⟩ := q
    simp only [kget] at h
    split at h
    · cases h
    · rename_i hn
      intro p hp
      rcases List.mem_cons.1 hp with rfl | hp
      · exact hn
      · exact ih h p hp
theorem kget_mem [DecidableEq κ] {l : List (κ × α)} {k : κ} {v : α} (h : kget l k = some v) : (k, v) ∈ l := by
  induction l with
  | nil => cases h
  | cons q r ih =>
    obtain ⟨a, b⟩ := q
    simp only [kget] at h
    split at h
    · rename_i e; subst e; cases h; simp
    · exact List.mem_cons_of_mem _ (ih h)
theorem kget_of_mem [DecidableEq κ] {l : List (κ × α)} (hn : (l.map Prod.fst).Nodup) {k : κ} {v : α} (h : (k, v) ∈ l) : kget l k = some v := by
  induction l with
  | nil => cases h
  | cons q r ih =>
    obtain ⟨a, b⟩ := q
    simp only [List.map_cons, List.nodup_cons] at hn
    simp only [kget]
    rcases List.mem_cons.1 h with h | h
    · cases h; rw [if_pos rfl]
    · rw [if_neg (fun e => hn.1 (by rw [e]; exact List.mem_map.2 ⟨_, h, rfl⟩))]
      exact ih hn.2 h
theorem kget_perm [DecidableEq κ] {l l' : List (κ × α)} (hn : (l.map Prod.fst).Nodup) (hp : l.Perm l') (k : κ) : kget l' k = kget l k := by
  have hn' : (l'.map Prod.fst).Nodup := (hp.map _).nodup_iff.1 hn
  cases h : kget l k with
  | some v => exact kget_of_mem hn' (hp.mem_iff.1 (kget_mem h))
  | none =>
    cases h' : kget l' k with
    | none => rfl
    | some v => exact absurd rfl (kget_none h (k, v) (hp.mem_iff.2 (kget_mem h')))
theorem mem_kput [DecidableEq κ] {l : List (κ × α)} (hn : (l.map Prod.fst).Nodup) {k : κ} {v : α} {p : κ × α} : p ∈ kput l k v ↔ p = (k, v) ∨ (p ∈ l ∧ p.1 ≠ k) := by
  induction l with
  | nil => simp [kput]
  | cons q r ih =>
    obtain ⟨a, b⟩ := q
    simp only [List.map_cons, List.nodup_cons] at hn
    simp only [kput]
    by_cases e : a = k
    · subst e
      rw [if_pos rfl]
      simp only [List.mem_cons]
      constructor
      · rintro (h | h)
        · exact .inl h
        · exact .inr ⟨.inr h, fun e => hn.1 (by rw [← e]; exact List.mem_map.2 ⟨_, h, rfl⟩)⟩
      · rintro (h | ⟨h | h, h2⟩)
        · exact .inl h
        · exact absurd (by rw [h]) h2
        · exact .inr h
    · rw [if_neg e]
      simp only [List.mem_cons, ih hn.2]
      constructor
      · rintro (h | h | ⟨h, h2⟩)
        · exact .inr ⟨.inl h, by rw [h]; exact e⟩
        · exact .inl h
        · exact .inr ⟨.inr h, h2⟩
      · rintro (h | ⟨h | h, h2⟩)
        · exact .inr (.inl h)
        · exact .inl h
        · exact .inr (.inr ⟨h, h2⟩)
theorem kput_nodup [DecidableEq κ] {l : List (κ × α)} {k : κ} {v : α} (h : (l.map Prod.fst).Nodup) : ((kput l k v).map Prod.fst).Nodup := by
  induction l with
  | nil => simp [kput]
  | cons q r ih =>
    obtain ⟨a, b⟩ := q
    have h' := h
    simp only [List.map_cons, List.nodup_cons] at h
    simp only [kput]
    split
    · exact h'
    · rename_i e
      simp only [List.map_cons, List.nodup_cons]
      refine ⟨fun hm => ?_, ih h.2⟩
      obtain ⟨p, hp, hpe⟩ := List.mem_map.1 hm
      rcases (mem_kput h.2).1 hp with h1 | h1
      · subst h1; exact e hpe.symm
      · exact h.1 (List.mem_map.2 ⟨p, h1.1, hpe⟩)
variable (le : κ → κ → Bool)
/-- the list, sorted by key -/
def ksort (l : List (κ × α)) : List (κ × α) := l.mergeSort (fun p q => le p.1 q.1)
def ltK (p q : κ × α) : Prop := le q.1 p.1 = false
/-- the entries whose keys come before k; and the others -/
def kpre (S : List (κ × α)) (k : κ) : List (κ × α) := S.takeWhile fun p => !le k p.1
def kpost (S : List (κ × α)) (k : κ) : List (κ × α) := S.dropWhile fun p => !le k p.1
def krest [DecidableEq κ] (S : List (κ × α)) (k : κ) : List (κ × α) := (kpost le S k).filter fun p => decide (p.1 ≠ k)
variable {le}
theorem LinB.lt_irrefl (L : LinB le) (a : κ) : ¬ le a a = false := fun h => by have := L.total a a; simp [h] at this
theorem LinB.lt_trans (L : LinB le) {a b c : κ} (h1 : le b a = false) (h2 : le c b = false) : le c a = false := by
  cases h : le c a with
  | false => rfl
  | true =>
    have hab : le a b = true := by have := L.total a b; simpa [h1] using this
    have := L.trans _ _ _ h hab
    rw [h2] at this; cases this
theorem ksort_perm (l : List (κ × α)) : (ksort le l).Perm l := List.mergeSort_perm _ _
theorem ksort_length (l : List (κ × α)) : (ksort le l).length = l.length := (ksort_perm l).length_eq
theorem ksort_nodup {l : List (κ × α)} (h : (l.map Prod.fst).Nodup) : ((ksort le l).map Prod.fst).Nodup := ((ksort_perm l).map _).nodup_iff.2 h
theorem ksort_lt (L : LinB le) {l : List (κ × α)} (h : (l.map Prod.fst).Nodup) : (ksort le l).Pairwise (ltK le) := by
  have h1 : (ksort le l).Pairwise (fun p q => le p.1 q.1 = true) := List.pairwise_mergeSort (le := fun p q : κ × α => le p.1 q.1) (fun a b c => L.trans a.1 b.1 c.1) (fun a b => L.total a.1 b.1) l
  have h2 : (ksort le l).Pairwise (fun p q => p.1 ≠ q.1) := List.pairwise_map.1 (ksort_nodup (le := le) h)
  refine (h1.and h2).imp ?_
  intro a b hab
  cases h : le b.1 a.1 with
  | false => exact h
  | true => exact absurd (L.anti _ _ hab.1 h) hab.2
theorem kget_ksort [DecidableEq κ] {l : List (κ × α)} (h : (l.map Prod.fst).Nodup) (k : κ) : kget (ksort le l) k = kget l k := kget_perm h (ksort_perm l).symm k
/-- two lists that rise and hold the same are the same -/
theorem rising_ext (L : LinB le) {a b : List (κ × α)} (ha : a.Pairwise (ltK le)) (hb : b.Pairwise (ltK le)) (h : ∀ p, p ∈ a ↔ p ∈ b) : a = b := by
  have na : a.Nodup := ha.imp (fun {p q} h e => by subst e; exact L.lt_irrefl _ h)
  have nb : b.Nodup := hb.imp (fun {p q} h e => by subst e; exact L.lt_irrefl _ h)
  have hp : a.Perm b := (List.perm_ext_iff_of_nodup na nb).2 h
  refine List.Perm.eq_of_pairwise (le := ltK le) (fun p q _ _ h1 h2 => ?_) ha hb hp
  exact absurd (L.lt_trans h1 h2) (L.lt_irrefl _)
theorem kpre_append (S : List (κ × α)) (k : κ) : kpre le S k ++ kpost le S k = S := List.takeWhile_append_dropWhile
theorem kpre_mem {S : List (κ × α)} {k : κ} {p : κ × α} (h : p ∈ kpre le S k) : le k p.1 = false := by
  have := List.all_takeWhile (p := fun p : κ × α => !le k p.1) (l := S)
  rw [List.all_eq_true] at this
  simpa using this p h
theorem kpost_mem (L : LinB le) {S : List (κ × α)} (hS : S.Pairwise (ltK le)) {k : κ} {p : κ × α} (h : p ∈ kpost le S k) : le k p.1 = true := by
  induction S with
  | nil => cases h
  | cons q r ih =>
    unfold kpost at h ih
    simp only [List.dropWhile_cons] at h
    split at h
    · exact ih (List.pairwise_cons.1 hS).2 h
    · rename_i hq
      have hq' : le k q.1 = true := by simpa using hq
      rcases List.mem_cons.1 h with h | h
      · rw [h]; exact hq'
      · have h1 := (List.pairwise_cons.1 hS).1 p h
        have h2 : le q.1 p.1 = true := by have := L.total q.1 p.1; have h1' : le p.1 q.1 = false := h1; simpa [h1'] using this
        exact L.trans _ _ _ hq' h2
theorem ksort_kput [DecidableEq κ] (L : LinB le) {l : List (κ × α)} (h : (l.map Prod.fst).Nodup) (k : κ) (v : α) :
    ksort le (kput l k v) = kpre le (ksort le l) k ++ (k, v) :: krest le (ksort le l) k := by
  have hS := ksort_lt L h
  refine rising_ext L (ksort_lt L (kput_nodup h)) ?_ (fun p => ?_)
  · have hp : (kpre le (ksort le l) k).Pairwise (ltK le) := hS.sublist (List.takeWhile_sublist _)
    have hq : (krest le (ksort le l) k).Pairwise (ltK le) := (hS.sublist (List.dropWhile_sublist _)).sublist List.filter_sublist
    have hgt : ∀ q ∈ krest le (ksort le l) k, le q.1 k = false := fun q hq => by
      obtain ⟨h1, h2⟩ := List.mem_filter.1 hq
      have h3 := kpost_mem L hS h1
      cases h4 : le q.1 k with
      | false => rfl
      | true => exact absurd (L.anti _ _ h4 h3) (by simpa using h2)
    refine List.pairwise_append.2 ⟨hp, List.pairwise_cons.2 ⟨fun q hq => hgt q hq, hq⟩, fun a ha b hb => ?_⟩
    have h1 := kpre_mem ha
    rcases List.mem_cons.1 hb with hb | hb
    · subst hb; exact h1
    · exact L.lt_trans h1 (hgt b hb)
  · rw [(ksort_perm _).mem_iff, mem_kput h, List.mem_append, List.mem_cons]
    have hm : p ∈ l ↔ p ∈ kpre le (ksort le l) k ∨ p ∈ kpost le (ksort le l) k := by
      rw [← List.mem_append, kpre_append, (ksort_perm _).mem_iff]
    have hpre : p ∈ kpre le (ksort le l) k → p.1 ≠ k := fun hp e => by have := kpre_mem hp; rw [e] at this; exact L.lt_irrefl _ this
    have hr : p ∈ krest le (ksort le l) k ↔ p ∈ kpost le (ksort le l) k ∧ p.1 ≠ k := by unfold krest; rw [List.mem_filter]; simp
    rw [hm, hr]
    constructor
    · rintro (h | ⟨h | h, h2⟩)
      · exact .inr (.inl h)
      · exact .inl h
      · exact .inr (.inr ⟨h, h2⟩)
    · rintro (h | h | ⟨h, h2⟩)
      · exact .inr ⟨.inl h, hpre h⟩
      · exact .inl h
      · exact .inr ⟨.inr h, h2⟩
/-- the entries behind the place of a key: without its own -/
theorem krest_eq [DecidableEq κ] (L : LinB le) {S : List (κ × α)} (hS : S.Pairwise (ltK le)) (k : κ) :
    (kget S k = none ∧ krest le S k = S.drop (kpre le S k).length ∧ ∀ p, S[(kpre le S k).length]? = some p → p.1 ≠ k) ∨
    (∃ v, kget S k = some v ∧ S[(kpre le S k).length]? = some (k, v) ∧ krest le S k = S.drop ((kpre le S k).length + 1)) := by
  have hd : kpost le S k = S.drop (kpre le S k).length := by
    have h1 := kpre_append (le := le) S k
    have h2 : (kpre le S k ++ kpost le S k).drop (kpre le S k).length = kpost le S k := List.drop_left
    rw [h1] at h2
    exact h2.symm
  have hpost := fun p => kpost_mem (p := p) L hS (k := k)
  have hsub : (kpost le S k).Pairwise (ltK le) := hS.sublist (List.dropWhile_sublist _)
  have hget : kget S k = kget (kpost le S k) k := by
    have h1 : ∀ (A B : List (κ × α)), (∀ p ∈ A, p.1 ≠ k) → kget (A ++ B) k = kget B k := fun A B hA => by
      induction A with
      | nil => rfl
      | cons q r ih =>
        obtain ⟨a, b⟩ := q
        simp only [List.cons_append, kget]
        rw [if_neg (hA (a, b) (by simp))]
        exact ih (fun p hp => hA p (List.mem_cons_of_mem _ hp))
    have h2 := h1 (kpre le S k) (kpost le S k) (fun p hp e => by have := kpre_mem hp; rw [e] at this; exact L.lt_irrefl _ this)
    rw [kpre_append] at h2
    exact h2
  rw [hget]
  have hi : S[(kpre le S k).length]? = (kpost le S k)[0]? := by rw [hd, List.getElem?_drop, Nat.add_zero]
  rw [hi]
  unfold krest
  cases hB : kpost le S k with
  | nil =>
    rw [hB] at hd
    exact .inl ⟨rfl, by rw [← hd]; rfl, fun p hp => by cases hp⟩
  | cons q r =>
    rw [hB] at hd hsub hpost
    obtain ⟨a, b⟩ := q
    by_cases e : a = k
    · subst e
      refine .inr ⟨b, by simp [kget], rfl, ?_⟩
      rw [← List.drop_drop, ← hd]
      simp only [List.drop_succ_cons, List.drop_zero]
      rw [List.filter_cons_of_neg (by simp)]
      refine List.filter_eq_self.2 (fun p hp => ?_)
      have := (List.pairwise_cons.1 hsub).1 p hp
      simp only [decide_eq_true_eq]
      intro e2
      have h2 : le p.1 a = false := this
      rw [e2] at h2
      exact L.lt_irrefl _ h2
    · have hno : ∀ p ∈ (a, b) :: r, p.1 ≠ k := fun p hp e2 => by
        rcases List.mem_cons.1 hp with h | h
        · rw [h] at e2; exact e e2
        · have h1 : le p.1 a = false := (List.pairwise_cons.1 hsub).1 p h
          have h2 := hpost (a, b) (by simp)
          rw [e2] at h1
          simp only at h2
          rw [h1] at h2; cases h2
      refine .inl ⟨?_, ?_, fun p hp => ?_⟩
      · cases hg : kget ((a, b) :: r) k with
        | none => rfl
        | some v => exact absurd rfl (hno _ (kget_mem hg))
      · rw [← hd]
        exact List.filter_eq_self.2 (fun p hp => by simpa using hno p hp)
      · cases hp; exact e
/-- how a loop finds the place -/
theorem kpre_step {S : List (κ × α)} {k : κ} {j : Nat} (h : ∀ i p, i < j → S[i]? = some p → le k p.1 = false) (hj : j ≤ S.length) (hend : ∀ p, S[j]? = some p → le k p.1 = true) : (kpre le S k).length = j := by
  induction S generalizing j with
  | nil => simp at hj; subst hj; rfl
  | cons q r ih =>
    unfold kpre at ih ⊢
    cases j with
    | zero =>
      have := hend q rfl
      rw [List.takeWhile_cons_of_neg (by simp [this])]; rfl
    | succ j =>
      have := h 0 q (by omega) rfl
      rw [List.takeWhile_cons_of_pos (by simp [this])]
      simp only [List.length_cons]
      rw [ih (j := j) (fun i p hi hp => h (i + 1) p (by omega) hp) (by simpa using hj) (fun p hp => hend p hp)]
theorem kpre_take (S : List (κ × α)) (k : κ) : S.take (kpre le S k).length = kpre le S k := by
  have h1 := kpre_append (le := le) S k
  have h2 : (kpre le S k ++ kpost le S k).take (kpre le S k).length = kpre le S k := List.take_left
  rwa [h1] at h2
theorem kpre_le (S : List (κ × α)) (k : κ) : (kpre le S k).length ≤ S.length := (List.takeWhile_sublist _).length_le
end
def leI (a b : Int) : Bool := decide (a ≤ b)
theorem linI : LinB leI := ⟨fun a b c h1 h2 => by simp [leI] at *; omega, fun a b => by simp [leI]; omega, fun a b h1 h2 => by simp [leI] at *; omega⟩
end Go.Proofs.Ythligdgkhmgagaa
