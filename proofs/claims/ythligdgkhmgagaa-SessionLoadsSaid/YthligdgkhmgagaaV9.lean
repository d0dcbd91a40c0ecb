/-
  Package session: Load and Save undo each other; the reference's Load takes the same texts. Conditions: none beyond each lemma's own.
-/
import Derived.Test.YthligdgkhmgagaaV8
namespace Go.Proofs.Ythligdgkhmgagaa
open Go.RowKit Go.MapKept
open Go.ChangeMaps (setBlock)

theorem rnumM_in {lo hi : Nat} {s : RS} (h : lo ≤ (numberM s).1 ∧ (numberM s).1 ≤ hi) : rnumM lo hi s = numberM s := by unfold rnumM; rw [if_neg (by omega)]
theorem rnumM_val {lo hi : Nat} {s : RS} (h : (rnumM lo hi s).2.c = 0) : rnumM lo hi s = numberM s ∧ lo ≤ (numberM s).1 ∧ (numberM s).1 ≤ hi := by
  unfold rnumM at *
  by_cases hb : (numberM s).2.c = 0 ∧ ((numberM s).1 < lo ∨ hi < (numberM s).1)
  · rw [if_pos hb] at h; cases h
  · rw [if_neg hb] at h ⊢
    have : ¬ ((numberM s).1 < lo ∨ hi < (numberM s).1) := fun h' => hb ⟨h, h'⟩
    exact ⟨rfl, by omega, by omega⟩
theorem rnumM_err {lo hi : Nat} {s : RS} (h : ¬ s.c = 0) : rnumM lo hi s = (0, s) := by
  unfold rnumM
  rw [numberM_err h, if_neg (fun h' => h h'.1)]
theorem countM_err {most : Int} {s : RS} (h : ¬ s.c = 0) : countM most s = (0, s) := by
  rw [countM_num, numberM_err h, if_neg h]
def Bad (o : Option RS) : Prop := o = none ∨ ∃ s', o = some s' ∧ ¬ s'.c = 0
theorem encNum_pos (n : Nat) : 1 ≤ (encNum n).length := by unfold encNum; simp
theorem refC_rows (k last : Nat) (acc : List (Int × Ans)) (s : RS) : (∀ R s', rowsC k last acc s = some (R, s') → s'.c = 0 → refC k last s = some s') ∧ ((∀ R s', rowsC k last acc s = some (R, s') → ¬ s'.c = 0) → Bad (refC k last s)) := by
  induction k generalizing last acc s with
  | zero =>
    refine ⟨fun R s' h hc => ?_, fun h => .inr ⟨s, rfl, h acc s rfl⟩⟩
    simp only [rowsC, Option.some.injEq, Prod.mk.injEq] at h
    rw [← h.2]; rfl
  | succ k ih =>
    rw [refC_succ]
    by_cases hb : (last < (numberM s).1 ∧ (numberM s).1 ≤ 4611686018427387904) ∧ 1 ≤ (numberM (numberM s).2).1 ∧ (numberM (numberM s).2).1 ≤ 4611686018427387904
    · rw [rowsC_yes hb]
      have e1 : rnumM 1 top s = numberM s := rnumM_in ⟨by omega, hb.1.2⟩
      have e2 : rnumM 1 top (numberM s).2 = numberM (numberM s).2 := rnumM_in hb.2
      rw [e1, e2]
      by_cases hc : (textM (numberM (numberM s).2).2).2.c = 0
      · rw [if_pos ⟨hc, hb.1.1⟩]
        exact ih _ _ _
      · rw [if_neg (fun h => hc h.1)]
        exact ⟨fun R s' h hc' => absurd (rowsC_ok h hc').1 hc, fun _ => .inl rfl⟩
    · rw [rowsC_no hb, if_neg (fun h => hb ?_)]
      · exact ⟨fun R s' h => by (cases h), fun _ => .inl rfl⟩
      · have h1 := (textM_ok h.1).1
        obtain ⟨v2, q3, q4⟩ := rnumM_val h1
        rw [v2] at h1
        have h0 := (numberM_ok h1).1
        obtain ⟨v1, q1, q2⟩ := rnumM_val h0
        have h2 := h.2
        rw [v1] at h2 q3 q4
        exact ⟨⟨h2, q2⟩, q3, q4⟩
theorem refT_rows (g : Nat) (hg : ¬ g = 0) (k last : Nat) (acc : List (Int × Int)) (s : RS) : (∀ R s', rowsT k last acc s = some (R, s') → s'.c = 0 → refT g k last s = some s') ∧ ((∀ R s', rowsT k last acc s = some (R, s') → ¬ s'.c = 0) → Bad (refT g k last s)) := by
  induction k generalizing last acc s with
  | zero =>
    refine ⟨fun R s' h hc => ?_, fun h => .inr ⟨s, rfl, h acc s rfl⟩⟩
    simp only [rowsT, Option.some.injEq, Prod.mk.injEq] at h
    rw [← h.2]; rfl
  | succ k ih =>
    rw [refT_succ]
    by_cases hb : last < (numberM s).1 ∧ (numberM s).1 ≤ 4611686018427387904
    · rw [rowsT_yes hb]
      have e1 : rnumM 1 top s = numberM s := rnumM_in ⟨by omega, hb.2⟩
      rw [e1]
      by_cases hc : (intM (numberM s).2).2.c = 0
      · rw [if_pos ⟨hc, hg, hb.1⟩]
        exact ih _ _ _
      · rw [if_neg (fun h => hc h.1)]
        exact ⟨fun R s' h hc' => absurd (rowsT_ok h hc').1 hc, fun _ => .inl rfl⟩
    · rw [rowsT_no hb, if_neg (fun h => hb ?_)]
      · exact ⟨fun R s' h => by (cases h), fun _ => .inl rfl⟩
      · have h0 := (intM_ok h.1).1
        obtain ⟨v1, q1, q2⟩ := rnumM_val h0
        have h2 := h.2.2
        rw [v1] at h2
        exact ⟨h2, q2⟩
theorem refT_len (g k last : Nat) (s s' : RS) (h : refT g k last s = some s') (hc : s'.c = 0) : s.c = 0 ∧ k ≤ s.l.length := by
  induction k generalizing last s with
  | zero =>
    simp only [refT, Option.some.injEq] at h
    rw [h]; exact ⟨hc, Nat.zero_le _⟩
  | succ k ih =>
    rw [refT_succ] at h
    by_cases hb : (intM (rnumM 1 top s).2).2.c = 0 ∧ ¬ g = 0 ∧ last < (rnumM 1 top s).1
    · rw [if_pos hb] at h
      obtain ⟨c1, l1⟩ := ih _ _ h
      obtain ⟨c2, l2⟩ := intM_ok c1
      obtain ⟨v1, _, _⟩ := rnumM_val c2
      rw [v1] at c2 l1 l2
      obtain ⟨c3, l3⟩ := numberM_ok c2
      refine ⟨c3, ?_⟩
      have e1 := congrArg List.length l3
      have e2 := congrArg List.length l2
      rw [List.length_append] at e1 e2
      have := encNum_pos (numberM s).1
      omega
    · rw [if_neg hb] at h; cases h
theorem refEnd_bad {g k : Nat} {o : Option RS} (h : Bad o) : refEnd g k o = false := by
  rcases h with rfl | ⟨s', rfl, hc⟩
  · rfl
  · unfold refEnd
    simp [end_err hc]
theorem refMid_err {ll : Nat} {s : RS} (h : ¬ s.c = 0) : refMid ll s = false := by
  unfold refMid
  rw [rnumM_err h]
  simp only
  rw [countM_err h]
  exact refEnd_bad (.inr ⟨s, rfl, h⟩)
theorem midT_err {cl : List (Int × Ans)} {s : RS} (h : ¬ s.c = 0) : midT cl s = none := by
  unfold midT
  rw [numberM_err h]
  simp only
  rw [countM_err h]
  simp only [rowsT, finT]
  rw [if_pos (by omega), if_neg (fun h' => end_err h h'.1)]
theorem finT_ref (cl : List (Int × Ans)) (n m : Nat) (s : RS) : (finT cl n (rowsT m 0 [] s)).isSome = refEnd n m (refT n m 0 s) := by
  by_cases hn : n = 0
  · subst hn
    cases m with
    | zero =>
      simp only [rowsT, finT, refT, refEnd]
      by_cases he : endM s = 0 <;> simp [he]
    | succ m =>
      have hr : refT 0 (m + 1) 0 s = none := by rw [refT_succ, if_neg (fun h => h.2.1 rfl)]
      rw [hr]
      show _ = false
      cases hq : rowsT (m + 1) 0 [] s with
      | none => rfl
      | some q =>
        obtain ⟨st, s'⟩ := q
        unfold finT
        simp only
        rw [if_neg]; rfl
        rintro ⟨h1, h2⟩
        have hc : s'.c = 0 := by
          by_cases hc : s'.c = 0
          · exact hc
          · exact absurd h1 (end_err hc)
        obtain ⟨_, K, hK, hk, _⟩ := rowsT_ok hq hc
        rw [List.nil_append] at hK
        subst hK
        simp [hk] at h2
  · obtain ⟨t1, t2⟩ := refT_rows n hn m 0 [] s
    by_cases hq : ∃ R s', rowsT m 0 [] s = some (R, s') ∧ s'.c = 0
    · obtain ⟨st, s', hq, hc⟩ := hq
      rw [t1 st s' hq hc, hq]
      obtain ⟨_, K, hK, hk, _⟩ := rowsT_ok hq hc
      rw [List.nil_append] at hK
      subst hK
      unfold finT refEnd
      simp only
      rw [hk]
      have h0 : 0 < n := by omega
      by_cases he : endM s' = 0
      · by_cases hm : m = 0
        · rw [if_neg (fun h => by have := h.2; simp [h0, hm] at this)]; simp [he, h0, hm]
        · rw [if_pos ⟨he, by simp; omega⟩]; simp [he, hm]
      · rw [if_neg (fun h => he h.1)]; simp [he]
    · have hb := t2 (fun R s' h hc => hq ⟨R, s', h, hc⟩)
      rw [refEnd_bad hb]
      cases hr : rowsT m 0 [] s with
      | none => rfl
      | some q =>
        obtain ⟨st, s'⟩ := q
        unfold finT
        simp only
        rw [if_neg (fun h => hq ⟨st, s', hr, by
          by_cases hc : s'.c = 0
          · exact hc
          · exact absurd h.1 (end_err hc)⟩)]
        rfl
theorem midT_ref (cl : List (Int × Ans)) (ll : Nat) (s : RS) (hc : s.c = 0) (hl : s.l.length ≤ ll) : (midT cl s).isSome = refMid ll s := by
  unfold midT refMid
  by_cases hn : (numberM s).1 ≤ 4611686018427387904
  · rw [if_pos hn, rnumM_in (lo := 0) (hi := top) ⟨by omega, hn⟩]
    by_cases hc1 : (numberM s).2.c = 0
    · have hl1 : (numberM s).2.l.length ≤ ll := by
        have e := congrArg List.length (numberM_ok hc1).2
        rw [List.length_append] at e
        omega
      generalize (numberM s).1 = n at *
      generalize (numberM s).2 = s1 at *
      have c1 := countM_num (s1.l.length : Int) s1
      have c2 := countM_num (ll : Int) s1
      by_cases hc2 : (numberM s1).2.c = 0
      · rw [if_pos hc2] at c1 c2
        by_cases hm : (s1.l.length : Int) < (numberM s1).1
        · rw [if_pos (.inr hm)] at c1
          rw [c1]
          simp only
          have hL : (finT cl n (rowsT 0 0 [] ⟨[], 8⟩)).isSome = false := by
            simp [rowsT, finT, endM]
          rw [hL]
          by_cases hm2 : (ll : Int) < (numberM s1).1
          · rw [if_pos (.inr hm2)] at c2
            rw [c2]
            exact (refEnd_bad (.inr ⟨_, rfl, by simp⟩)).symm
          · rw [if_neg (by omega)] at c2
            rw [c2]
            refine (refEnd_bad ?_).symm
            cases hr : refT n (numberM s1).1 0 (numberM s1).2 with
            | none => exact .inl rfl
            | some s' =>
              refine .inr ⟨s', rfl, fun hc' => ?_⟩
              obtain ⟨_, h2⟩ := refT_len _ _ _ _ _ hr hc'
              have e := congrArg List.length (numberM_ok hc2).2
              rw [List.length_append] at e
              omega
        · rw [if_neg (by omega)] at c1
          rw [if_neg (by omega)] at c2
          rw [c1, c2]
          exact finT_ref cl n _ _
      · rw [if_neg hc2] at c1 c2
        rw [c1, c2]
        exact finT_ref cl n _ _
    · rw [countM_err hc1, countM_err hc1]
      exact finT_ref cl _ _ _
  · rw [if_neg hn]
    have hz : (numberM s).2.c = 0 := by
      by_cases h : (numberM s).2.c = 0
      · exact h
      · have := numberM_zero s h; omega
    have e : rnumM 0 top s = (0, ⟨[], 11⟩) := by unfold rnumM top; rw [if_pos ⟨hz, .inr (by omega)⟩]
    rw [e]
    simp only
    rw [countM_err (s := ⟨[], 11⟩) (by simp)]
    exact (refEnd_bad (.inr ⟨_, rfl, by simp⟩)).symm
theorem count_len (l : List UInt8) (most : Int) : (countM most ⟨l, 0⟩).2.l.length ≤ l.length := by
  by_cases hc : (countM most ⟨l, 0⟩).2.c = 0
  · have e := congrArg List.length (countM_ok hc).2.1
    rw [List.length_append] at e
    simp only at e
    omega
  · rw [countM_num]
    by_cases h1 : (numberM ⟨l, 0⟩).2.c = 0
    · have e := congrArg List.length (numberM_ok h1).2
      rw [List.length_append] at e
      simp only at e
      rw [if_pos h1]
      split
      · simp
      · omega
    · rw [if_neg h1]
      simp only
      unfold numberM
      simp only [if_true]
      cases hg : getNum l with
      | none => simp
      | some x =>
        exfalso
        apply h1
        unfold numberM
        simp [hg]
theorem refLoad_eq (l : List UInt8) : refLoad l = (loadP l).isSome := by
  unfold refLoad loadP
  obtain ⟨t1, t2⟩ := refC_rows (countM l.length ⟨l, 0⟩).1 0 [] (countM l.length ⟨l, 0⟩).2
  have hl := count_len l l.length
  by_cases hq : ∃ R s', rowsC (countM l.length ⟨l, 0⟩).1 0 [] (countM l.length ⟨l, 0⟩).2 = some (R, s') ∧ s'.c = 0
  · obtain ⟨cl, s', hq, hc⟩ := hq
    rw [t1 cl s' hq hc, hq]
    simp only [refAll]
    have hs : s'.l.length ≤ l.length := by
      obtain ⟨_, K, _, _, hK, _⟩ := rowsC_ok hq hc
      have e := congrArg List.length hK
      rw [List.length_append] at e
      omega
    exact (midT_ref cl l.length s' hc hs).symm
  · have hb := t2 (fun R s' h hc => hq ⟨R, s', h, hc⟩)
    have h1 : refAll l.length (refC (countM l.length ⟨l, 0⟩).1 0 (countM l.length ⟨l, 0⟩).2) = false := by
      rcases hb with hb | ⟨s', hb, hc⟩
      · rw [hb]; rfl
      · rw [hb]; exact refMid_err hc
    rw [h1]
    cases hr : rowsC (countM l.length ⟨l, 0⟩).1 0 [] (countM l.length ⟨l, 0⟩).2 with
    | none => rfl
    | some q =>
      obtain ⟨cl, s'⟩ := q
      simp only
      rw [midT_err (fun hc => hq ⟨cl, s', hr, hc⟩)]; rfl
/-! ### Load and Save -/
/-- the generation and the steps go together -/
def GenOk (T : Tbl) : Prop := 0 < T.gen ↔ 0 < T.st.length
def sortT (T : Tbl) : Tbl := ⟨sC T, T.gen, sS T⟩
theorem flatC_ge (K : List (Int × Ans)) : K.length ≤ (K.flatMap encC).length := by
  induction K with
  | nil => simp
  | cons p r ih =>
    have := encNum_pos p.1.toNat
    rw [List.flatMap_cons, List.length_append, List.length_cons]
    simp only [encC, List.length_append]
    omega
theorem flatS_ge (K : List (Int × Int)) : K.length ≤ (K.flatMap encS).length := by
  induction K with
  | nil => simp
  | cons p r ih =>
    have := encNum_pos p.1.toNat
    rw [List.flatMap_cons, List.length_append, List.length_cons]
    simp only [encS, List.length_append]
    omega
theorem flatC_body {K : List (Int × Ans)} {p : Int × Ans} (hp : p ∈ K) : p.2.s.size ≤ (K.flatMap encC).length := by
  induction K with
  | nil => cases hp
  | cons q r ih =>
    rw [List.flatMap_cons, List.length_append]
    rcases List.mem_cons.1 hp with rfl | hp
    · have := size_len p.2.s
      simp only [encC, List.length_append]; omega
    · have := ih hp; omega
theorem loadP_save {T : Tbl} (h : Small T) (hg : GenOk T) : loadP (saveM T) = some (sortT T) := by
  have hC : ∀ p ∈ sC T, GoodC p ∧ p.2.s.size ≤ 1000 := fun p hp => by
    have hm : p ∈ T.cl := (ksort_perm T.cl).mem_iff.1 hp
    obtain ⟨a, b, c, d⟩ := h.ok.good.key p hm
    exact ⟨⟨a, b, c, d⟩, h.body p hm⟩
  have hS : ∀ p ∈ sS T, GoodT p := fun p hp => by
    have hm : p ∈ T.st := (ksort_perm T.st).mem_iff.1 hp
    obtain ⟨a, b, c⟩ := h.ok.skey p hm
    exact ⟨a, b, c⟩
  have h1 : (sC T).length = T.cl.length := ksort_length _
  have h2 : (sS T).length = T.st.length := ksort_length _
  have hcl := h.cl
  have hst := h.st
  have l1 := ksort_lt linI h.ok.good.nodup
  have l2 := ksort_lt linI h.ok.snod
  have hgen := h.ok.gen
  obtain ⟨g, hge⟩ := Int.eq_ofNat_of_zero_le hgen.1
  have hsv : saveM T = encNum (sC T).length ++ ((sC T).flatMap encC ++ (encNum g ++ (encNum (sS T).length ++ (sS T).flatMap encS))) := by
    unfold saveM; rw [h1, h2, hge]; simp
  have ge1 := flatC_ge (sC T)
  have ge2 := flatS_ge (sS T)
  unfold loadP
  rw [hsv]
  rw [countM_enc (by omega) (by rw [List.length_append, List.length_append]; omega)]
  simp only
  rw [rowsC_enc (sC T) hC l1 0 (fun p hp => by have := (hC p hp).1.k1; omega) []]
  simp only [List.nil_append]
  unfold midT
  rw [numberM_enc (by omega)]
  simp only
  rw [if_pos (by omega), countM_enc (by omega) (by rw [List.length_append]; omega)]
  simp only
  have := rowsT_enc (sS T) hS l2 0 (fun p hp => by have := (hS p hp).k1; omega) [] []
  simp only [List.append_nil, List.nil_append] at this
  rw [this]
  unfold finT
  simp only
  have e : (0 < g) ↔ 0 < (sS T).length := by
    unfold GenOk at hg
    rw [hge] at hg
    rw [h2]; constructor
    · intro h; exact hg.1 (by omega)
    · intro h; have := hg.2 h; omega
  have e2 : decide (0 < g) = decide (0 < (sS T).length) := by simp [e]
  rw [if_pos ⟨rfl, e2⟩]
  unfold sortT; rw [hge]
theorem loadP_ok {l : List UInt8} {K : Tbl} (h : loadP l = some K) (hl : l.length ≤ 1000) : saveM K = l ∧ Small K := by
  unfold loadP at h
  cases hr : rowsC (countM l.length ⟨l, 0⟩).1 0 [] (countM l.length ⟨l, 0⟩).2 with
  | none => rw [hr] at h; cases h
  | some q =>
    obtain ⟨cl, s⟩ := q
    rw [hr] at h
    simp only at h
    unfold midT at h
    by_cases hn : (numberM s).1 ≤ 4611686018427387904
    · rw [if_pos hn] at h
      cases hr2 : rowsT (countM (numberM s).2.l.length (numberM s).2).1 0 [] (countM (numberM s).2.l.length (numberM s).2).2 with
      | none => rw [hr2] at h; cases h
      | some q =>
        obtain ⟨st, s3⟩ := q
        rw [hr2] at h
        unfold finT at h
        simp only at h
        by_cases he : endM s3 = 0 ∧ (decide (0 < (numberM s).1) = decide (0 < st.length))
        · rw [if_pos he] at h
          cases h
          obtain ⟨he, _⟩ := he
          have hc : s3.c = 0 ∧ s3.l = [] := by
            unfold endM at he
            by_cases hb : s3.c = 0 ∧ 0 < s3.l.length
            · rw [if_pos hb] at he; cases he
            · rw [if_neg hb] at he
              refine ⟨he, List.eq_nil_of_length_eq_zero ?_⟩
              have : ¬ 0 < s3.l.length := fun h => hb ⟨he, h⟩
              omega
          obtain ⟨c1, S', hS', hsk, hsl, hsg, hsp, _⟩ := rowsT_ok hr2 hc.1
          rw [List.nil_append] at hS'
          subst hS'
          obtain ⟨c2, hcl, hcm⟩ := countM_ok c1
          obtain ⟨c3, hnl⟩ := numberM_ok c2
          obtain ⟨c4, C', hC', hck, hcl2, hcg, hcp, _⟩ := rowsC_ok hr c3
          rw [List.nil_append] at hC'
          subst hC'
          obtain ⟨_, hl1, hm1⟩ := countM_ok c4
          simp only at hl1
          have nodC : (cl.map Prod.fst).Nodup := List.pairwise_map.2 (hcp.imp (fun {a b} hab e => by unfold ltK at hab; rw [e] at hab; exact linI.lt_irrefl _ hab))
          have nodS : (st.map Prod.fst).Nodup := List.pairwise_map.2 (hsp.imp (fun {a b} hab e => by unfold ltK at hab; rw [e] at hab; exact linI.lt_irrefl _ hab))
          have kC : ksort leI cl = cl := rising_ext linI (ksort_lt linI nodC) hcp (fun p => (ksort_perm cl).mem_iff)
          have kS : ksort leI st = st := rising_ext linI (ksort_lt linI nodS) hsp (fun p => (ksort_perm st).mem_iff)
          have elen : l.length = (encNum (countM l.length ⟨l, 0⟩).1).length + ((cl.flatMap encC).length + ((encNum (numberM s).1).length + ((encNum (countM (numberM s).2.l.length (numberM s).2).1).length + ((st.flatMap encS).length + s3.l.length)))) := by
            have e1 := congrArg List.length hl1
            have e2 := congrArg List.length hcl2
            have e3 := congrArg List.length hnl
            have e4 := congrArg List.length hcl
            have e5 := congrArg List.length hsl
            rw [List.length_append] at e1 e2 e3 e4 e5
            omega
          have ge1 := flatC_ge cl
          have ge2 := flatS_ge st
          refine ⟨?_, ⟨⟨⟨fun p hp => ⟨(hcg p hp).k1, (hcg p hp).k2, (hcg p hp).n1, (hcg p hp).n2⟩, nodC⟩, nodS, fun p hp => ⟨(hsg p hp).k1, (hsg p hp).k2, (hsg p hp).v⟩, by simp only; omega⟩, by simp only; omega, by simp only; omega, fun p hp => ?_⟩⟩
          · unfold saveM sC sS
            simp only
            rw [kC, kS, Int.toNat_natCast, hck, hsk]
            have : l = encNum (countM l.length ⟨l, 0⟩).1 ++ (cl.flatMap encC ++ (encNum (numberM s).1 ++ (encNum (countM (numberM s).2.l.length (numberM s).2).1 ++ (st.flatMap encS ++ s3.l)))) := by
              rw [← hsl, ← hcl, ← hnl, ← hcl2, ← hl1]
            rw [hc.2, List.append_nil] at this
            conv => rhs; rw [this]
            simp only [List.append_assoc]
          · have hm : p.2.s.size ≤ (cl.flatMap encC).length := flatC_body hp
            omega
        · rw [if_neg he] at h; cases h
    · rw [if_neg hn] at h; cases h
end Go.Proofs.Ythligdgkhmgagaa
