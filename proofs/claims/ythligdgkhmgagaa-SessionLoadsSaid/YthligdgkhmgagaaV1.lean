/-
  Package session: Load: what it reads, by value; Load and Save undo each other; the reference's Load takes the same texts. Conditions: none beyond each lemma's own.
-/
import Derived.Test.YthligdgkhmgagaaV0
import Derived.Test.YthligdgkhmgagaaST
namespace Go.Proofs.Ythligdgkhmgagaa
open Go.RowKit Go.MapKept
open Go.ChangeMaps (setBlock)

def ofL (l : List UInt8) : ByteArray := ⟨l.toArray⟩
def rowsC : Nat → Nat → List (Int × Ans) → RS → Option (List (Int × Ans) × RS)
  | 0, _, acc, s => some (acc, s)
  | k + 1, last, acc, s =>
    if (last < (numberM s).1 ∧ (numberM s).1 ≤ 4611686018427387904) ∧ 1 ≤ (numberM (numberM s).2).1 ∧ (numberM (numberM s).2).1 ≤ 4611686018427387904 then
      rowsC k (numberM s).1 (acc ++ [(((numberM s).1 : Int), ⟨(numberM (numberM s).2).1, ofL (textM (numberM (numberM s).2).2).1⟩)]) (textM (numberM (numberM s).2).2).2
    else none
def rowsT : Nat → Nat → List (Int × Int) → RS → Option (List (Int × Int) × RS)
  | 0, _, acc, s => some (acc, s)
  | k + 1, last, acc, s =>
    if last < (numberM s).1 ∧ (numberM s).1 ≤ 4611686018427387904 then
      rowsT k (numberM s).1 (acc ++ [(((numberM s).1 : Int), (intM (numberM s).2).1)]) (intM (numberM s).2).2
    else none
/-- the end: the rows and the generation go together -/
def finT (cl : List (Int × Ans)) (g : Nat) : Option (List (Int × Int) × RS) → Option Tbl
  | some (st, s) => if endM s = 0 ∧ (decide (0 < g) = decide (0 < st.length)) then some ⟨cl, g, st⟩ else none
  | none => none
def midT (cl : List (Int × Ans)) (s : RS) : Option Tbl :=
  if (numberM s).1 ≤ 4611686018427387904 then finT cl (numberM s).1 (rowsT (countM (numberM s).2.l.length (numberM s).2).1 0 [] (countM (numberM s).2.l.length (numberM s).2).2) else none
def loadP (l : List UInt8) : Option Tbl :=
  match rowsC (countM l.length ⟨l, 0⟩).1 0 [] (countM l.length ⟨l, 0⟩).2 with
  | some (cl, s) => midT cl s
  | none => none
theorem rowsC_yes {k last : Nat} {acc : List (Int × Ans)} {s : RS} (h : (last < (numberM s).1 ∧ (numberM s).1 ≤ 4611686018427387904) ∧ 1 ≤ (numberM (numberM s).2).1 ∧ (numberM (numberM s).2).1 ≤ 4611686018427387904) :
    rowsC (k + 1) last acc s = rowsC k (numberM s).1 (acc ++ [(((numberM s).1 : Int), ⟨(numberM (numberM s).2).1, ofL (textM (numberM (numberM s).2).2).1⟩)]) (textM (numberM (numberM s).2).2).2 := by rw [rowsC, if_pos h]
theorem rowsC_no {k last : Nat} {acc : List (Int × Ans)} {s : RS} (h : ¬ ((last < (numberM s).1 ∧ (numberM s).1 ≤ 4611686018427387904) ∧ 1 ≤ (numberM (numberM s).2).1 ∧ (numberM (numberM s).2).1 ≤ 4611686018427387904)) : rowsC (k + 1) last acc s = none := by rw [rowsC, if_neg h]
theorem rowsT_yes {k last : Nat} {acc : List (Int × Int)} {s : RS} (h : last < (numberM s).1 ∧ (numberM s).1 ≤ 4611686018427387904) :
    rowsT (k + 1) last acc s = rowsT k (numberM s).1 (acc ++ [(((numberM s).1 : Int), (intM (numberM s).2).1)]) (intM (numberM s).2).2 := by rw [rowsT, if_pos h]
theorem rowsT_no {k last : Nat} {acc : List (Int × Int)} {s : RS} (h : ¬ (last < (numberM s).1 ∧ (numberM s).1 ≤ 4611686018427387904)) : rowsT (k + 1) last acc s = none := by rw [rowsT, if_neg h]
theorem numberM_zero (s : RS) (h : ¬ (numberM s).2.c = 0) : (numberM s).1 = 0 := by
  unfold numberM at *
  by_cases hc : s.c = 0
  · rw [if_pos hc] at *
    cases hg : getNum s.l with
    | none => rfl
    | some nt => rw [hg] at h; exact absurd rfl h
  · rw [if_neg hc]
theorem text_err {s : RS} (h : ¬ s.c = 0) : textM s = ([], s) := by unfold textM; rw [if_neg h]
theorem int_err {s : RS} (h : ¬ s.c = 0) : (intM s).2 = s := by unfold intM; rw [numberM_err h]
theorem end_err {s : RS} (h : ¬ s.c = 0) : ¬ endM s = 0 := by
  unfold endM
  rw [if_neg (fun h' => h h'.1)]
  exact h
theorem ofL_size (l : List UInt8) : (ofL l).size = l.length := by simp [ofL, ByteArray.size]
theorem ofL_toList (s : ByteArray) : ofL s.data.toList = s := by unfold ofL; simp
theorem size_len (s : ByteArray) : s.data.toList.length = s.size := Array.length_toList
theorem intM_ok {s : RS} (h : (intM s).2.c = 0) : s.c = 0 ∧ s.l = encInt (intM s).1 ++ (intM s).2.l := by
  unfold intM at *
  simp only at *
  obtain ⟨h1, h2⟩ := numberM_ok h
  refine ⟨h1, ?_⟩
  unfold encInt
  rw [zz_unzz]
  exact h2
theorem intM_enc (n : Int) (h1 : -9223372036854775808 ≤ n) (h2 : n ≤ 9223372036854775807) (t : List UInt8) : intM ⟨encInt n ++ t, 0⟩ = (n, ⟨t, 0⟩) := by
  unfold intM encInt
  rw [numberM_enc (by have := zz_le n h1 h2; omega)]
  simp only
  rw [unzz_zz]
theorem numberM_lt' (s : RS) : (numberM s).1 < 18446744073709551616 := by
  unfold numberM
  split
  · cases hg : getNum s.l with
    | none => simp
    | some x => exact getNum_lt hg
  · simp
theorem intM_inR (s : RS) : InR (intM s).1 := unzz_in (numberM_lt' s)
/-! ### what is read back -/
structure GoodC (p : Int × Ans) : Prop where
  k1 : 1 ≤ p.1
  k2 : p.1 ≤ 4611686018427387904
  n1 : 1 ≤ p.2.n
  n2 : p.2.n ≤ 4611686018427387904
structure GoodT (p : Int × Int) : Prop where
  k1 : 1 ≤ p.1
  k2 : p.1 ≤ 4611686018427387904
  v : InR p.2
theorem rowsC_enc (K : List (Int × Ans)) (hK : ∀ p ∈ K, GoodC p ∧ p.2.s.size ≤ 1000) (hs : K.Pairwise (ltK leI)) (last : Nat) (hlast : ∀ p ∈ K, (last : Int) < p.1) (acc : List (Int × Ans)) (t : List UInt8) :
    rowsC K.length last acc ⟨K.flatMap encC ++ t, 0⟩ = some (acc ++ K, ⟨t, 0⟩) := by
  induction K generalizing last acc with
  | nil => simp [rowsC]
  | cons p r ih =>
    obtain ⟨k, ⟨n, b⟩⟩ := p
    obtain ⟨⟨g1, g2, g3, g4⟩, g5⟩ := hK (k, ⟨n, b⟩) (by simp)
    simp only at g1 g2 g3 g4 g5
    obtain ⟨h1, h2⟩ := List.pairwise_cons.1 hs
    have hl := hlast (k, ⟨n, b⟩) (by simp)
    simp only at hl
    obtain ⟨k, rfl⟩ := Int.eq_ofNat_of_zero_le (show 0 ≤ k by omega)
    obtain ⟨n, rfl⟩ := Int.eq_ofNat_of_zero_le (show 0 ≤ n by omega)
    have hsz := size_len b
    have e : (((k : Int), (⟨(n : Int), b⟩ : Ans)) :: r).flatMap encC ++ t = encNum k ++ (encNum n ++ (encNum b.data.toList.length ++ b.data.toList ++ (r.flatMap encC ++ t))) := by
      rw [hsz]; simp [encC]
    have a1 : numberM ⟨(((k : Int), (⟨(n : Int), b⟩ : Ans)) :: r).flatMap encC ++ t, 0⟩ = (k, ⟨encNum n ++ (encNum b.data.toList.length ++ b.data.toList ++ (r.flatMap encC ++ t)), 0⟩) := by rw [e]; exact numberM_enc (by omega) _
    have a2 := numberM_enc (n := n) (by omega) (encNum b.data.toList.length ++ b.data.toList ++ (r.flatMap encC ++ t))
    have a3 := textM_enc (d := b.data.toList) (by omega) (r.flatMap encC ++ t)
    rw [List.length_cons, rowsC_yes (by rw [a1]; simp only; rw [a2]; simp only; omega), a1]
    simp only
    rw [a2]
    simp only
    rw [a3]
    simp only
    rw [ofL_toList, ih (fun p hp => hK p (List.mem_cons_of_mem _ hp)) h2 k (fun p hp => by
      have := h1 p hp
      unfold ltK leI at this
      simp at this; exact this)]
    simp
theorem rowsT_enc (K : List (Int × Int)) (hK : ∀ p ∈ K, GoodT p) (hs : K.Pairwise (ltK leI)) (last : Nat) (hlast : ∀ p ∈ K, (last : Int) < p.1) (acc : List (Int × Int)) (t : List UInt8) :
    rowsT K.length last acc ⟨K.flatMap encS ++ t, 0⟩ = some (acc ++ K, ⟨t, 0⟩) := by
  induction K generalizing last acc with
  | nil => simp [rowsT]
  | cons p r ih =>
    obtain ⟨k, x⟩ := p
    obtain ⟨g1, g2, g3⟩ := hK (k, x) (by simp)
    simp only at g1 g2 g3
    obtain ⟨h1, h2⟩ := List.pairwise_cons.1 hs
    have hl := hlast (k, x) (by simp)
    simp only at hl
    obtain ⟨k, rfl⟩ := Int.eq_ofNat_of_zero_le (show 0 ≤ k by omega)
    have e : (((k : Int), x) :: r).flatMap encS ++ t = encNum k ++ (encInt x ++ (r.flatMap encS ++ t)) := by simp [encS]
    have a1 : numberM ⟨(((k : Int), x) :: r).flatMap encS ++ t, 0⟩ = (k, ⟨encInt x ++ (r.flatMap encS ++ t), 0⟩) := by rw [e]; exact numberM_enc (by omega) _
    have a2 := intM_enc x g3.1 g3.2 (r.flatMap encS ++ t)
    rw [List.length_cons, rowsT_yes (by rw [a1]; simp only; omega), a1]
    simp only
    rw [a2]
    simp only
    rw [ih (fun p hp => hK p (List.mem_cons_of_mem _ hp)) h2 k (fun p hp => by
      have := h1 p hp
      unfold ltK leI at this
      simp at this; exact this)]
    simp
theorem rowsC_ok {k last : Nat} {acc R : List (Int × Ans)} {s s' : RS} (h : rowsC k last acc s = some (R, s')) (hc : s'.c = 0) :
    s.c = 0 ∧ ∃ K, R = acc ++ K ∧ K.length = k ∧ s.l = K.flatMap encC ++ s'.l ∧ (∀ p ∈ K, GoodC p) ∧ K.Pairwise (ltK leI) ∧ ∀ p ∈ K, (last : Int) < p.1 := by
  induction k generalizing last acc s with
  | zero =>
    simp only [rowsC, Option.some.injEq, Prod.mk.injEq] at h
    obtain ⟨rfl, rfl⟩ := h
    exact ⟨hc, [], by simp, rfl, by simp, (fun _ h => by cases h), List.Pairwise.nil, fun _ h => by cases h⟩
  | succ k ih =>
    by_cases hb : (last < (numberM s).1 ∧ (numberM s).1 ≤ 4611686018427387904) ∧ 1 ≤ (numberM (numberM s).2).1 ∧ (numberM (numberM s).2).1 ≤ 4611686018427387904
    · rw [rowsC_yes hb] at h
      obtain ⟨⟨b1, b2⟩, b3, b4⟩ := hb
      obtain ⟨c1, K, rfl, hk, hl, hg, hp, hlo⟩ := ih h
      obtain ⟨c2, hlt⟩ := textM_ok c1
      obtain ⟨c3, hl2⟩ := numberM_ok c2
      obtain ⟨c4, hl1⟩ := numberM_ok c3
      refine ⟨c4, (((numberM s).1 : Int), ⟨(numberM (numberM s).2).1, ofL (textM (numberM (numberM s).2).2).1⟩) :: K, by simp, by simp [hk], ?_, fun p hp => ?_, List.pairwise_cons.2 ⟨fun p hp => ?_, hp⟩, fun p hp => ?_⟩
      · rw [hl1, hl2, hlt, hl]
        simp only [List.flatMap_cons, encC, ofL_size, Int.toNat_natCast]
        simp [ofL]
      · rcases List.mem_cons.1 hp with rfl | hp
        · exact ⟨by simp only; omega, by simp only; omega, by simp only; omega, by simp only; omega⟩
        · exact hg p hp
      · have := hlo p hp
        unfold ltK leI
        simp; omega
      · rcases List.mem_cons.1 hp with rfl | hp
        · simp only; omega
        · have := hlo p hp; omega
    · rw [rowsC_no hb] at h; cases h
theorem rowsT_ok {k last : Nat} {acc R : List (Int × Int)} {s s' : RS} (h : rowsT k last acc s = some (R, s')) (hc : s'.c = 0) :
    s.c = 0 ∧ ∃ K, R = acc ++ K ∧ K.length = k ∧ s.l = K.flatMap encS ++ s'.l ∧ (∀ p ∈ K, GoodT p) ∧ K.Pairwise (ltK leI) ∧ ∀ p ∈ K, (last : Int) < p.1 := by
  induction k generalizing last acc s with
  | zero =>
    simp only [rowsT, Option.some.injEq, Prod.mk.injEq] at h
    obtain ⟨rfl, rfl⟩ := h
    exact ⟨hc, [], by simp, rfl, by simp, (fun _ h => by cases h), List.Pairwise.nil, fun _ h => by cases h⟩
  | succ k ih =>
    by_cases hb : last < (numberM s).1 ∧ (numberM s).1 ≤ 4611686018427387904
    · rw [rowsT_yes hb] at h
      obtain ⟨b1, b2⟩ := hb
      obtain ⟨c1, K, rfl, hk, hl, hg, hp, hlo⟩ := ih h
      obtain ⟨c2, hli⟩ := intM_ok c1
      obtain ⟨c3, hl1⟩ := numberM_ok c2
      refine ⟨c3, (((numberM s).1 : Int), (intM (numberM s).2).1) :: K, by simp, by simp [hk], ?_, fun p hp => ?_, List.pairwise_cons.2 ⟨fun p hp => ?_, hp⟩, fun p hp => ?_⟩
      · rw [hl1, hli, hl]
        simp only [List.flatMap_cons, encS, Int.toNat_natCast]
        simp
      · rcases List.mem_cons.1 hp with rfl | hp
        · exact ⟨by simp only; omega, by simp only; omega, intM_inR _⟩
        · exact hg p hp
      · have := hlo p hp
        unfold ltK leI
        simp; omega
      · rcases List.mem_cons.1 hp with rfl | hp
        · simp only; omega
        · have := hlo p hp; omega
    · rw [rowsT_no hb] at h; cases h
end Go.Proofs.Ythligdgkhmgagaa
