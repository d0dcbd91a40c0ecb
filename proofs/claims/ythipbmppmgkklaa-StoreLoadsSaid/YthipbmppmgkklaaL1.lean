/-
  Package store: Load: what it reads, by value; Load and Save undo each other; the reference's Load takes the same texts. Conditions: none beyond each lemma's own.
-/
import Derived.Test.YthipbmppmgkklaaC5
import Derived.Test.YthipbmppmgkklaaQ8
namespace Go.Proofs.Ythipbmppmgkklaa
open Go.RowKit Go.MapKept
open Go.ChangeMaps (setBlock)

def ofL (l : List UInt8) : ByteArray := ⟨l.toArray⟩
def rowsL : Nat → ByteArray → KM → RS → Option (KM × RS)
  | 0, _, acc, s => some (acc, s)
  | k + 1, last, acc, s =>
    if leS (ofL (textM s).1) last = false ∧ (ofL (textM s).1).size ≤ 31 then rowsL k (ofL (textM s).1) (acc ++ [(ofL (textM s).1, (intM (textM s).2).1)]) (intM (textM s).2).2
    else none
def finL : Option (KM × RS) → Option KM
  | some (K, s) => if endM s = 0 then some K else none
  | none => none
def loadL (l : List UInt8) : Option KM := finL (rowsL (countM 1024 ⟨l, 0⟩).1 { data := #[] } [] (countM 1024 ⟨l, 0⟩).2)
theorem rowsL_yes {k : Nat} {last : ByteArray} {acc : KM} {s : RS} (h : leS (ofL (textM s).1) last = false ∧ (ofL (textM s).1).size ≤ 31) :
    rowsL (k + 1) last acc s = rowsL k (ofL (textM s).1) (acc ++ [(ofL (textM s).1, (intM (textM s).2).1)]) (intM (textM s).2).2 := by
  rw [rowsL, if_pos h]
theorem rowsL_no {k : Nat} {last : ByteArray} {acc : KM} {s : RS} (h : ¬ (leS (ofL (textM s).1) last = false ∧ (ofL (textM s).1).size ≤ 31)) : rowsL (k + 1) last acc s = none := by
  rw [rowsL, if_neg h]
theorem finL_ok {K : KM} {s : RS} (h : endM s = 0) : finL (some (K, s)) = some K := by simp [finL, h]
theorem finL_no {K : KM} {s : RS} (h : ¬ endM s = 0) : finL (some (K, s)) = none := by simp [finL, h]
theorem ofL_size (l : List UInt8) : (ofL l).size = l.length := by simp [ofL, ByteArray.size]
theorem ofL_toList (s : ByteArray) : ofL s.data.toList = s := bytes_ext (by simp [ofL])
/-- the reference's -/
def refL : Nat → ByteArray → RS → Bool
  | 0, _, s => decide (endM s = 0)
  | k + 1, last, s =>
    if (intM (textM s).2).2.c = 0 ∧ 1 ≤ (ofL (textM s).1).size ∧ (ofL (textM s).1).size ≤ 31 ∧ leS (ofL (textM s).1) last = false then refL k (ofL (textM s).1) (intM (textM s).2).2 else false
def refLoad (l : List UInt8) : Bool := refL (countM 1024 ⟨l, 0⟩).1 { data := #[] } (countM 1024 ⟨l, 0⟩).2
theorem leS_nil (last : ByteArray) : leS { data := #[] } last = true := by unfold leS; simp
theorem leS_nil' {last : ByteArray} {t : ByteArray} (h : t.size = 0) : leS t last = true := by
  have : t.data.toList = [] := List.eq_nil_of_length_eq_zero (by rw [size_len]; exact h)
  unfold leS; rw [this]; simp
theorem text_err {s : RS} (h : ¬ s.c = 0) : textM s = ([], s) := by unfold textM; rw [if_neg h]
theorem int_err {s : RS} (h : ¬ s.c = 0) : (intM s).2 = s := by unfold intM; rw [numberM_err h]
theorem rowsL_err {k : Nat} {last : ByteArray} {acc : KM} {s : RS} (h : ¬ s.c = 0) : finL (rowsL k last acc s) = none := by
  cases k with
  | zero =>
    refine finL_no (fun he => h ?_)
    unfold endM at he
    rw [if_neg (fun h' => h h'.1)] at he
    exact he
  | succ k =>
    rw [rowsL_no]; rfl
    rintro ⟨h1, _⟩
    rw [text_err h] at h1
    have := leS_nil' (last := last) (t := ofL []) rfl
    rw [this] at h1; cases h1
theorem rows_ref (k : Nat) (last : ByteArray) (acc : KM) (s : RS) : (finL (rowsL k last acc s)).isSome = refL k last s := by
  induction k generalizing last acc s with
  | zero =>
    show (finL (some (acc, s))).isSome = decide (endM s = 0)
    by_cases he : endM s = 0
    · rw [finL_ok he]; simp [he]
    · rw [finL_no he]; simp [he]
  | succ k ih =>
    have hr : refL (k + 1) last s = (if (intM (textM s).2).2.c = 0 ∧ 1 ≤ (ofL (textM s).1).size ∧ (ofL (textM s).1).size ≤ 31 ∧ leS (ofL (textM s).1) last = false then refL k (ofL (textM s).1) (intM (textM s).2).2 else false) := rfl
    rw [hr]
    by_cases hb : leS (ofL (textM s).1) last = false ∧ (ofL (textM s).1).size ≤ 31
    · rw [rowsL_yes hb]
      have h1 : 1 ≤ (ofL (textM s).1).size := by
        by_cases h0 : (ofL (textM s).1).size = 0
        · have := leS_nil' (last := last) h0
          rw [this] at hb; cases hb.1
        · omega
      by_cases hc : (intM (textM s).2).2.c = 0
      · rw [if_pos ⟨hc, h1, hb.2, hb.1⟩]
        exact ih _ _ _
      · rw [if_neg (fun h => hc h.1), rowsL_err hc]; rfl
    · rw [rowsL_no hb, if_neg (fun h => hb ⟨h.2.2.2, h.2.2.1⟩)]; rfl
theorem refLoad_eq (l : List UInt8) : refLoad l = (loadL l).isSome := (rows_ref _ _ _ _).symm
/-! ### what is read back -/
structure GoodP (p : ByteArray × Int) : Prop where
  one : 1 ≤ p.1.size
  most : p.1.size ≤ 31
  val : InR p.2
theorem rowsL_enc (K : KM) (hK : ∀ p ∈ K, GoodP p) (hs : K.Pairwise (ltK leS)) (last : ByteArray) (hlast : ∀ p ∈ K, leS p.1 last = false) (acc : KM) (t : List UInt8) :
    rowsL K.length last acc ⟨K.flatMap encP ++ t, 0⟩ = some (acc ++ K, ⟨t, 0⟩) := by
  induction K generalizing last acc with
  | nil => simp [rowsL]
  | cons p r ih =>
    obtain ⟨n, x⟩ := p
    obtain ⟨g1, g2, g3⟩ := hK (n, x) (by simp)
    simp only at g1 g2 g3
    obtain ⟨h1, h2⟩ := List.pairwise_cons.1 hs
    have hsz := size_len n
    have ht : textM ⟨((n, x) :: r).flatMap encP ++ t, 0⟩ = (n.data.toList, ⟨encInt x ++ (r.flatMap encP ++ t), 0⟩) := by
      have := textM_enc (d := n.data.toList) (by omega) (encInt x ++ (r.flatMap encP ++ t))
      rw [hsz] at this
      rw [← this]
      simp only [List.flatMap_cons, encP, List.append_assoc]
    have hi := intM_enc x g3.1 g3.2 (r.flatMap encP ++ t)
    rw [List.length_cons, rowsL_yes (by rw [ht]; simp only; rw [ofL_toList]; exact ⟨hlast (n, x) (by simp), g2⟩), ht]
    simp only
    rw [ofL_toList, hi]
    simp only
    rw [ih (fun p hp => hK p (List.mem_cons_of_mem _ hp)) h2 n (fun p hp => h1 p hp)]
    simp
theorem intM_ok {s : RS} (h : (intM s).2.c = 0) : s.c = 0 ∧ s.l = encInt (intM s).1 ++ (intM s).2.l := by
  unfold intM at *
  simp only at *
  obtain ⟨h1, h2⟩ := numberM_ok h
  refine ⟨h1, ?_⟩
  unfold encInt
  rw [zz_unzz]
  exact h2
theorem intM_inR (s : RS) : InR (intM s).1 := unzz_in (numberM_lt s)
theorem rowsL_ok {k : Nat} {last : ByteArray} {acc R : KM} {s s' : RS} (h : rowsL k last acc s = some (R, s')) (hc : s'.c = 0) :
    s.c = 0 ∧ ∃ K, R = acc ++ K ∧ K.length = k ∧ s.l = K.flatMap encP ++ s'.l ∧ (∀ p ∈ K, GoodP p) ∧ K.Pairwise (ltK leS) ∧ ∀ p ∈ K, leS p.1 last = false := by
  induction k generalizing last acc s with
  | zero =>
    simp only [rowsL, Option.some.injEq, Prod.mk.injEq] at h
    obtain ⟨rfl, rfl⟩ := h
    exact ⟨hc, [], by simp, rfl, by simp, (fun _ h => by cases h), List.Pairwise.nil, fun _ h => by cases h⟩
  | succ k ih =>
    by_cases hb : leS (ofL (textM s).1) last = false ∧ (ofL (textM s).1).size ≤ 31
    · rw [rowsL_yes hb] at h
      obtain ⟨b2, b3⟩ := hb
      obtain ⟨c1, K, rfl, hk, hl, hg, hp, hlo⟩ := ih h
      obtain ⟨c2, hli⟩ := intM_ok c1
      obtain ⟨c3, hlt⟩ := textM_ok c2
      have hsz := ofL_size (textM s).1
      refine ⟨c3, (ofL (textM s).1, (intM (textM s).2).1) :: K, by simp, by simp [hk], ?_, fun p hp => ?_, List.pairwise_cons.2 ⟨fun p hp => hlo p hp, hp⟩, fun p hp => ?_⟩
      · rw [hlt, hli, hl]
        simp only [List.flatMap_cons, encP, hsz]
        simp [ofL]
      · rcases List.mem_cons.1 hp with rfl | hp
        · refine ⟨?_, b3, intM_inR _⟩
          simp only
          by_cases h0 : (ofL (textM s).1).size = 0
          · have := leS_nil' (last := last) h0
            rw [this] at b2; cases b2
          · omega
        · exact hg p hp
      · rcases List.mem_cons.1 hp with rfl | hp
        · exact b2
        · exact linS.lt_trans b2 (hlo p hp)
    · rw [rowsL_no hb] at h; cases h
theorem leS_empty {t : ByteArray} (h : 1 ≤ t.size) : leS t { data := #[] } = false := by
  unfold leS
  obtain ⟨⟨l⟩⟩ := t
  cases l with
  | nil => simp [ByteArray.size] at h
  | cons a r =>
    simp only [decide_eq_false_iff_not]
    intro h2
    simp at h2
theorem Good.goodP {m : KM} (h : Good m) : ∀ p ∈ m, GoodP p := fun p hp => ⟨(h.key p hp).1, (h.key p hp).2, h.val p hp⟩
theorem loadL_save {m : KM} (h : Good m) (hl : m.length ≤ 1024) : loadL (saveM m) = some (ksort leS m) := by
  have hK : ∀ p ∈ ksort leS m, GoodP p := fun p hp => h.goodP p ((ksort_perm m).mem_iff.1 hp)
  have hlt := ksort_lt linS h.nodup
  have hlen : (ksort leS m).length = m.length := ksort_length m
  rw [saveM_rows h.nodup]
  unfold rowsM
  generalize ksort leS m = K at *
  unfold loadL
  have hc := countM_enc (n := K.length) (most := 1024) (by omega) (by omega) (K.flatMap encP)
  rw [hc]
  simp only
  have := rowsL_enc K hK hlt { data := #[] } (fun p hp => leS_empty (hK p hp).one) [] []
  simp only [List.append_nil, List.nil_append] at this
  rw [this]
  exact finL_ok rfl
theorem ksort_of_rising {K : KM} (h : Rising K) : ksort leS K = K := by
  have hnod : (K.map Prod.fst).Nodup := List.pairwise_map.2 (h.imp (fun {a b} hab e => by unfold ltK at hab; rw [e] at hab; exact linS.lt_irrefl _ hab))
  exact rising_ext linS (ksort_lt linS hnod) h (fun p => (ksort_perm K).mem_iff)
theorem loadL_ok {l : List UInt8} {K : KM} (h : loadL l = some K) : saveM K = l ∧ Good K ∧ K.length ≤ 1024 := by
  unfold loadL at h
  cases hr : rowsL (countM 1024 ⟨l, 0⟩).1 { data := #[] } [] (countM 1024 ⟨l, 0⟩).2 with
  | none => rw [hr] at h; cases h
  | some x =>
    obtain ⟨R, s'⟩ := x
    rw [hr] at h
    by_cases he : endM s' = 0
    · rw [finL_ok he] at h
      cases h
      have hc : s'.c = 0 ∧ s'.l = [] := by
        unfold endM at he
        by_cases hb : s'.c = 0 ∧ 0 < s'.l.length
        · rw [if_pos hb] at he; cases he
        · rw [if_neg hb] at he
          refine ⟨he, List.eq_nil_of_length_eq_zero ?_⟩
          have : ¬ 0 < s'.l.length := fun h => hb ⟨he, h⟩
          omega
      obtain ⟨c1, K', hK', hk, hl, hg, hp, _⟩ := rowsL_ok hr hc.1
      rw [List.nil_append] at hK'
      subst hK'
      obtain ⟨_, hlc, hm⟩ := countM_ok c1
      have hnod : (K.map Prod.fst).Nodup := List.pairwise_map.2 (hp.imp (fun {a b} hab e => by unfold ltK at hab; rw [e] at hab; exact linS.lt_irrefl _ hab))
      refine ⟨?_, ⟨fun p hp => ⟨(hg p hp).one, (hg p hp).most⟩, fun p hp => (hg p hp).val, hnod⟩, by omega⟩
      rw [saveM_rows hnod, ksort_of_rising hp]
      unfold rowsM
      simp only at hlc
      rw [hlc, hl, hc.2, hk, List.append_nil]
    · rw [finL_no he] at h; cases h
/-! ### two states that hold the same -/
structure SameM (m m' : KM) : Prop where
  a : Good m
  b : Good m'
  eq : ∀ k, assoc m k = assoc m' k
theorem SameM.perm {m m' : KM} (h : SameM m m') : (m.map Prod.fst).Perm (m'.map Prod.fst) :=
  (List.perm_ext_iff_of_nodup h.a.nodup h.b.nodup).2 (fun k => by rw [← assoc_isSome, ← assoc_isSome, h.eq])
theorem SameM.length {m m' : KM} (h : SameM m m') : m.length = m'.length := by simpa using h.perm.length_eq
theorem SameM.save {m m' : KM} (h : SameM m m') : saveM m = saveM m' := save_same h.a h.b h.eq
theorem SameM.sort {m : KM} (h : Good m) : SameM m (ksort leS m) :=
  ⟨h, ⟨fun p hp => h.key p ((ksort_perm m).mem_iff.1 hp), fun p hp => h.val p ((ksort_perm m).mem_iff.1 hp), ksort_nodup (le := leS) h.nodup⟩, fun k => by rw [assoc_k, assoc_k, kget_ksort h.nodup]⟩
theorem SameM.step {m m' : KM} (h : SameM m m') (hl : m.length < 1024) {x : OpV} (hv : InR x.v) : SameM (doM m x).1 (doM m' x).1 ∧ (doM m x).2 = (doM m' x).2 := by
  have hl' : m'.length < 1024 := by rw [← h.length]; exact hl
  have e1 := doM_eff hl x
  have e2 := doM_eff hl' x
  rw [h.eq] at e1
  refine ⟨⟨h.a.doM hv, h.b.doM hv, fun k => ?_⟩, by rw [e1, e2]⟩
  rw [e1, e2]
  simp only
  rw [assoc_wrM, assoc_wrM, h.eq]
end Go.Proofs.Ythipbmppmgkklaa
