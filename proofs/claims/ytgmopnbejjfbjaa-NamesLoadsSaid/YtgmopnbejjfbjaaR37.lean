/-
  Package names: Load and Save undo each other; the reference's Load takes the same texts. Conditions: none beyond each lemma's own.
-/
import Derived.Test.YtgmopnbejjfbjaaR36
namespace Go.Proofs.Ytgmopnbejjfbjaa
open Go.RowKit Go.MapKept
open Go.ChangeMaps (setBlock)

structure GoodR (p : ByteArray × List Ep) : Prop where
  name : isNameB p.1 = true
  one : 1 ≤ p.2.length
  most : p.2.length ≤ 1024
  each : ∀ x ∈ p.2, okEp x
theorem epP_enc {x : Ep} (h : okEp x) (t : List UInt8) : epP ⟨encE x ++ t, 0⟩ = some (x, ⟨t, 0⟩) := by
  obtain ⟨a, tt, g⟩ := x
  simp only [okEp] at h
  obtain ⟨b1, b2, b3, b4, b5, b6⟩ := h
  obtain ⟨a, rfl⟩ := Int.eq_ofNat_of_zero_le (show 0 ≤ a by omega)
  obtain ⟨tt, rfl⟩ := Int.eq_ofNat_of_zero_le (show 0 ≤ tt by omega)
  obtain ⟨g, rfl⟩ := Int.eq_ofNat_of_zero_le b5
  unfold epP encE
  simp only [Int.toNat_natCast, List.append_assoc]
  rw [numberM_enc (by omega)]
  simp only
  rw [numberM_enc (by omega)]
  simp only
  rw [numberM_enc (by omega)]
  simp only
  rw [if_pos (by omega)]
theorem epP_ok {s s' : RS} {e : Ep} (h : epP s = some (e, s')) (hc : s'.c = 0) : s.c = 0 ∧ s.l = encE e ++ s'.l ∧ okEp e := by
  unfold epP at h
  by_cases hb : (numberM s).1 ≤ 1099511627776 ∧ (numberM (numberM s).2).1 ≤ 65536 ∧ (numberM (numberM (numberM s).2).2).1 ≤ 1099511627777 ∧ 1 ≤ (numberM s).1 ∧ 1 ≤ (numberM (numberM s).2).1
  · rw [if_pos hb] at h
    obtain ⟨b1, b2, b3, b4, b5⟩ := hb
    simp only [Option.some.injEq, Prod.mk.injEq] at h
    obtain ⟨he, hs⟩ := h
    subst hs
    obtain ⟨c2, l2⟩ := numberM_ok hc
    obtain ⟨c1, l1⟩ := numberM_ok c2
    obtain ⟨c0, l0⟩ := numberM_ok c1
    refine ⟨c0, ?_, ?_⟩
    · rw [l0, l1, l2, ← he]
      simp only [encE, Int.toNat_natCast, List.append_assoc]
    · rw [← he]
      simp only [okEp]
      omega
  · rw [if_neg hb] at h; cases h
theorem epsP_enc (l : List Ep) (h : ∀ x ∈ l, okEp x) (acc : List Ep) (t : List UInt8) : epsP l.length acc ⟨l.flatMap encE ++ t, 0⟩ = some (acc ++ l, ⟨t, 0⟩) := by
  induction l generalizing acc with
  | nil => simp [epsP]
  | cons x r ih =>
    simp only [List.length_cons, List.flatMap_cons, List.append_assoc]
    rw [epsP_some (epP_enc (h x (by simp)) _), ih (fun y hy => h y (List.mem_cons_of_mem _ hy))]
    simp
theorem epsP_ok {k : Nat} {acc l : List Ep} {s s' : RS} (h : epsP k acc s = some (l, s')) (hc : s'.c = 0) : s.c = 0 ∧ ∃ d, l = acc ++ d ∧ d.length = k ∧ s.l = d.flatMap encE ++ s'.l ∧ ∀ x ∈ d, okEp x := by
  induction k generalizing acc s with
  | zero =>
    simp only [epsP, Option.some.injEq, Prod.mk.injEq] at h
    obtain ⟨rfl, rfl⟩ := h
    exact ⟨hc, [], by simp, rfl, by simp, fun _ h => by cases h⟩
  | succ k ih =>
    cases he : epP s with
    | none => rw [epsP_none he] at h; cases h
    | some x =>
      obtain ⟨e, s1⟩ := x
      rw [epsP_some he] at h
      obtain ⟨c1, d, rfl, hd, hl, hx⟩ := ih h
      obtain ⟨c0, hl0, hok⟩ := epP_ok he c1
      refine ⟨c0, e :: d, by simp, by simp [hd], by rw [hl0, hl]; simp, fun y hy => ?_⟩
      rcases List.mem_cons.1 hy with rfl | hy
      · exact hok
      · exact hx y hy
theorem rowsP_yes {k : Nat} {last : ByteArray} {acc : List (ByteArray × List Ep)} {s : RS} (h : isNameB (ofL (textM s).1) = true ∧ leS (ofL (textM s).1) last = false ∧ 1 ≤ (countM 1024 (textM s).2).1) :
    rowsP (k + 1) last acc s = match epsP (countM 1024 (textM s).2).1 [] (countM 1024 (textM s).2).2 with
      | some (l, s') => rowsP k (ofL (textM s).1) (acc ++ [(ofL (textM s).1, l)]) s'
      | none => none := by rw [rowsP_succ, if_pos h]; rfl
theorem rowsP_no {k : Nat} {last : ByteArray} {acc : List (ByteArray × List Ep)} {s : RS} (h : ¬ (isNameB (ofL (textM s).1) = true ∧ leS (ofL (textM s).1) last = false ∧ 1 ≤ (countM 1024 (textM s).2).1)) : rowsP (k + 1) last acc s = none := by rw [rowsP_succ, if_neg h]
theorem rowsP_enc (K : List (ByteArray × List Ep)) (hK : ∀ p ∈ K, GoodR p) (hs : K.Pairwise (ltK leS)) (last : ByteArray) (hlast : ∀ p ∈ K, leS p.1 last = false) (acc : List (ByteArray × List Ep)) (t : List UInt8) :
    rowsP K.length last acc ⟨K.flatMap encN ++ t, 0⟩ = some (acc ++ K, ⟨t, 0⟩) := by
  induction K generalizing last acc with
  | nil => simp [rowsP]
  | cons p r ih =>
    obtain ⟨n, l⟩ := p
    obtain ⟨g1, g2, g3, g4⟩ := hK (n, l) (by simp)
    simp only at g1 g2 g3 g4
    obtain ⟨h1, h2⟩ := List.pairwise_cons.1 hs
    have hsz : n.data.toList.length = n.size := Array.length_toList
    have hn31 : n.size ≤ 31 := by unfold isNameB at g1; simp at g1; omega
    have ht : textM ⟨((n, l) :: r).flatMap encN ++ t, 0⟩ = (n.data.toList, ⟨encNum l.length ++ (l.flatMap encE ++ (r.flatMap encN ++ t)), 0⟩) := by
      have := textM_enc (d := n.data.toList) (by omega) (encNum l.length ++ (l.flatMap encE ++ (r.flatMap encN ++ t)))
      rw [hsz] at this
      rw [← this]
      simp only [List.flatMap_cons, encN, List.append_assoc]
    have hc := countM_enc (n := l.length) (most := 1024) (by omega) (by omega) (l.flatMap encE ++ (r.flatMap encN ++ t))
    have ho : ofL n.data.toList = n := by simp [ofL]
    rw [List.length_cons, rowsP_yes (by rw [ht]; simp only; rw [hc, ho]; exact ⟨g1, hlast (n, l) (by simp), g2⟩), ht]
    simp only
    rw [hc, ho]
    simp only
    rw [epsP_enc l g4]
    simp only
    rw [ih (fun p hp => hK p (List.mem_cons_of_mem _ hp)) h2 n (fun p hp => h1 p hp)]
    simp
theorem rowsP_ok {k : Nat} {last : ByteArray} {acc R : List (ByteArray × List Ep)} {s s' : RS} (h : rowsP k last acc s = some (R, s')) (hc : s'.c = 0) :
    s.c = 0 ∧ ∃ K, R = acc ++ K ∧ K.length = k ∧ s.l = K.flatMap encN ++ s'.l ∧ (∀ p ∈ K, GoodR p) ∧ K.Pairwise (ltK leS) ∧ ∀ p ∈ K, leS p.1 last = false := by
  induction k generalizing last acc s with
  | zero =>
    simp only [rowsP, Option.some.injEq, Prod.mk.injEq] at h
    obtain ⟨rfl, rfl⟩ := h
    exact ⟨hc, [], by simp, rfl, by simp, (fun _ h => by cases h), List.Pairwise.nil, fun _ h => by cases h⟩
  | succ k ih =>
    by_cases hb : isNameB (ofL (textM s).1) = true ∧ leS (ofL (textM s).1) last = false ∧ 1 ≤ (countM 1024 (textM s).2).1
    · rw [rowsP_yes hb] at h
      obtain ⟨b1, b2, b3⟩ := hb
      cases he : epsP (countM 1024 (textM s).2).1 [] (countM 1024 (textM s).2).2 with
      | none => rw [he] at h; cases h
      | some x =>
        obtain ⟨l, s1⟩ := x
        rw [he] at h
        simp only at h
        obtain ⟨c1, K, rfl, hk, hl, hg, hp, hlo⟩ := ih h
        obtain ⟨c2, d, rfl, hd, hld, hx⟩ := epsP_ok he c1
        obtain ⟨c3, hlc, hmost⟩ := countM_ok c2
        obtain ⟨c4, hlt⟩ := textM_ok c3
        try simp only [List.nil_append] at *
        have hsz : (ofL (textM s).1).size = (textM s).1.length := by simp [ofL, ByteArray.size]
        refine ⟨c4, (ofL (textM s).1, l) :: K, by simp, by simp [hk], ?_, fun p hp => ?_, List.pairwise_cons.2 ⟨fun p hp => hlo p hp, hp⟩, fun p hp => ?_⟩
        · rw [hlt, hlc, hld, hl, ← hd]
          simp only [List.flatMap_cons, encN, hsz]
          simp [ofL]
        · rcases List.mem_cons.1 hp with rfl | hp
          · exact ⟨b1, by simp only; omega, by simp only; omega, hx⟩
          · exact hg p hp
        · rcases List.mem_cons.1 hp with rfl | hp
          · exact b2
          · exact linS.lt_trans b2 (hlo p hp)
    · rw [rowsP_no hb] at h; cases h
theorem encN_pos (p : ByteArray × List Ep) : 1 ≤ (encN p).length := by unfold encN encNum; simp
theorem flat_ge (K : List (ByteArray × List Ep)) : K.length ≤ (K.flatMap encN).length := by
  induction K with
  | nil => simp
  | cons p r ih =>
    have := encN_pos p
    rw [List.flatMap_cons, List.length_append, List.length_cons]
    omega
theorem loadP_save (M : List (ByteArray × List Ep)) (hn : (M.map Prod.fst).Nodup) (hM : ∀ p ∈ M, GoodR p) (hl : M.length ≤ 1000000) : loadP ⟨(saveM M).toArray⟩ = some (ksort leS M) := by
  have hK : ∀ p ∈ ksort leS M, GoodR p := fun p hp => hM p ((ksort_perm M).mem_iff.1 hp)
  have hlt := ksort_lt linS hn
  have hlen : (ksort leS M).length = M.length := ksort_length M
  have hsv : saveM M = encNum (ksort leS M).length ++ (ksort leS M).flatMap encN := by unfold saveM; rw [hlen]
  have hb : (⟨(saveM M).toArray⟩ : ByteArray).size = (saveM M).length := by simp [ByteArray.size]
  unfold loadP
  rw [hb]
  simp only
  rw [hsv]
  generalize ksort leS M = K at *
  have hge := flat_ge K
  rw [countM_enc (by omega) (by rw [List.length_append]; omega)]
  simp only
  have := rowsP_enc K hK hlt { data := #[] } (fun p hp => leS_empty (hK p hp).name) [] []
  simp only [List.append_nil, List.nil_append] at this
  rw [this]
  exact finP_ok rfl
theorem loadP_ok {b : ByteArray} {K : List (ByteArray × List Ep)} (h : loadP b = some K) : saveM K = b.data.toList ∧ (K.map Prod.fst).Nodup ∧ (∀ p ∈ K, GoodR p) ∧ K.length ≤ b.size := by
  unfold loadP at h
  cases hr : rowsP (countM b.size ⟨b.data.toList, 0⟩).1 { data := #[] } [] (countM b.size ⟨b.data.toList, 0⟩).2 with
  | none => rw [hr] at h; cases h
  | some x =>
    obtain ⟨R, s'⟩ := x
    rw [hr] at h
    by_cases he : endM s' = 0
    · rw [finP_ok he] at h
      cases h
      have hc : s'.c = 0 ∧ s'.l = [] := by
        unfold endM at he
        by_cases hb : s'.c = 0 ∧ 0 < s'.l.length
        · rw [if_pos hb] at he; cases he
        · rw [if_neg hb] at he
          refine ⟨he, List.eq_nil_of_length_eq_zero ?_⟩
          have : ¬ 0 < s'.l.length := fun h => hb ⟨he, h⟩
          omega
      obtain ⟨c1, K', hK', hk, hl, hg, hp, _⟩ := rowsP_ok hr hc.1
      rw [List.nil_append] at hK'
      subst hK'
      obtain ⟨_, hlc, hm⟩ := countM_ok c1
      have hnod : (K.map Prod.fst).Nodup := List.pairwise_map.2 (hp.imp (fun {a b} hab e => by unfold ltK at hab; rw [e] at hab; exact linS.lt_irrefl _ hab))
      have hks : ksort leS K = K := rising_ext linS (ksort_lt linS hnod) hp (fun p => (ksort_perm K).mem_iff)
      refine ⟨?_, hnod, hg, by omega⟩
      unfold saveM
      rw [hks]
      simp only at hlc
      rw [hlc, hl, hc.2, hk, List.append_nil]
    · rw [finP_no he] at h; cases h
theorem ksort_idem {M : List (ByteArray × List Ep)} (hn : (M.map Prod.fst).Nodup) : ksort leS (ksort leS M) = ksort leS M :=
  rising_ext linS (ksort_lt linS (ksort_nodup (le := leS) hn)) (ksort_lt linS hn) (fun p => (ksort_perm _).mem_iff)

/-! ### the reference -/
theorem rnumM_in {lo hi : Nat} {s : RS} (h : lo ≤ (numberM s).1 ∧ (numberM s).1 ≤ hi) : rnumM lo hi s = numberM s := by unfold rnumM; rw [if_neg (by omega)]
theorem rnumM_out {lo hi : Nat} {s : RS} (h : ¬ (lo ≤ (numberM s).1 ∧ (numberM s).1 ≤ hi)) : ¬ (rnumM lo hi s).2.c = 0 := by
  unfold rnumM
  by_cases hc : (numberM s).2.c = 0
  · rw [if_pos ⟨hc, by omega⟩]; simp
  · rw [if_neg (fun h => hc h.1)]; exact hc
theorem rnumM_err {lo hi : Nat} {s : RS} (h : ¬ s.c = 0) : rnumM lo hi s = (0, s) := by
  unfold rnumM
  rw [numberM_err h, if_neg (fun h' => h h'.1)]
theorem ref_some {s s' : RS} {e : Ep} (h : epP s = some (e, s')) : refStep s = s' := by
  unfold epP at h
  by_cases hb : (numberM s).1 ≤ 1099511627776 ∧ (numberM (numberM s).2).1 ≤ 65536 ∧ (numberM (numberM (numberM s).2).2).1 ≤ 1099511627777 ∧ 1 ≤ (numberM s).1 ∧ 1 ≤ (numberM (numberM s).2).1
  · rw [if_pos hb] at h
    obtain ⟨b1, b2, b3, b4, b5⟩ := hb
    simp only [Option.some.injEq, Prod.mk.injEq] at h
    unfold refStep
    rw [rnumM_in (lo := 1) ⟨b4, b1⟩, rnumM_in (lo := 1) ⟨b5, b2⟩, rnumM_in (lo := 0) ⟨by omega, b3⟩]
    exact h.2
  · rw [if_neg hb] at h; cases h
theorem ref_none {s : RS} (h : epP s = none) : ¬ (refStep s).c = 0 := by
  unfold epP at h
  by_cases hb : (numberM s).1 ≤ 1099511627776 ∧ (numberM (numberM s).2).1 ≤ 65536 ∧ (numberM (numberM (numberM s).2).2).1 ≤ 1099511627777 ∧ 1 ≤ (numberM s).1 ∧ 1 ≤ (numberM (numberM s).2).1
  · rw [if_pos hb] at h; cases h
  · unfold refStep
    by_cases h1 : 1 ≤ (numberM s).1 ∧ (numberM s).1 ≤ 1099511627776
    · rw [rnumM_in h1]
      by_cases h2 : 1 ≤ (numberM (numberM s).2).1 ∧ (numberM (numberM s).2).1 ≤ 65536
      · rw [rnumM_in h2]
        exact rnumM_out (by omega)
      · have := rnumM_out h2
        rw [rnumM_err this]
        exact this
    · have := rnumM_out h1
      rw [rnumM_err (lo := 1) (hi := 65536) this, rnumM_err this]
      exact this
theorem eps_ref (k : Nat) (acc : List Ep) (s : RS) : match epsP k acc s with
    | some (_, s') => if s'.c = 0 then refEps k s = s' else ¬ (refEps k s).c = 0
    | none => ¬ (refEps k s).c = 0 := by
  induction k generalizing acc s with
  | zero =>
    simp only [epsP, refEps]
    by_cases h : s.c = 0 <;> simp [h]
  | succ k ih =>
    by_cases hc : s.c = 0
    · rw [refEps_ok hc]
      cases he : epP s with
      | none =>
        rw [epsP_none he]
        have := ref_none he
        simp only
        rw [refEps_err this]
        exact this
      | some x =>
        obtain ⟨e, s1⟩ := x
        rw [epsP_some he, ref_some he]
        exact ih _ _
    · have he : epP s = none := by
        unfold epP
        rw [numberM_err hc]
        rw [if_neg (by simp)]
      rw [epsP_none he, refEps_err hc]
      exact hc
theorem rows_err {k : Nat} {last : ByteArray} {acc : List (ByteArray × List Ep)} {s : RS} (h : ¬ s.c = 0) : finP (rowsP k last acc s) = none := by
  cases k with
  | zero =>
    refine finP_no (fun he => h ?_)
    unfold endM at he
    rw [if_neg (fun h' => h h'.1)] at he
    exact he
  | succ k =>
    rw [rowsP_no]; rfl
    rintro ⟨h1, _⟩
    unfold textM at h1
    rw [if_neg h] at h1
    simp only at h1
    exact absurd h1 (by decide)
theorem cnt_yes {s : RS} (h : 1 ≤ (countM 1024 s).1) : rnumM 1 1024 s = countM 1024 s := by
  rw [countM_num] at *
  by_cases hc : (numberM s).2.c = 0
  · rw [if_pos hc] at *
    by_cases hb : (1024 : Int) < 0 ∨ (1024 : Int) < (numberM s).1
    · rw [if_pos hb] at h; simp at h
    · rw [if_neg hb] at *
      exact rnumM_in (by omega)
  · rw [if_neg hc] at h; simp at h
theorem cnt_no {s : RS} (h : ¬ 1 ≤ (countM 1024 s).1) : ¬ (rnumM 1 1024 s).2.c = 0 := by
  rw [countM_num] at h
  refine rnumM_out (fun hb => h ?_)
  by_cases hc : (numberM s).2.c = 0
  · rw [if_pos hc, if_neg (by omega)]; exact hb.1
  · have := numberM_zero s hc
    omega
theorem rows_ref (k : Nat) (last : ByteArray) (acc : List (ByteArray × List Ep)) (s : RS) : (finP (rowsP k last acc s)).isSome = refRows k last s := by
  induction k generalizing last acc s with
  | zero =>
    show (finP (some (acc, s))).isSome = decide (endM s = 0)
    by_cases he : endM s = 0
    · rw [finP_ok he]; simp [he]
    · rw [finP_no he]; simp [he]
  | succ k ih =>
    have hr : refRows (k + 1) last s = (if (refEps (rnumM 1 1024 (textM s).2).1 (rnumM 1 1024 (textM s).2).2).c = 0 ∧ isNameB (ofL (textM s).1) = true ∧ leS (ofL (textM s).1) last = false then
      refRows k (ofL (textM s).1) (refEps (rnumM 1 1024 (textM s).2).1 (rnumM 1 1024 (textM s).2).2) else false) := rfl
    rw [hr]
    by_cases hb : isNameB (ofL (textM s).1) = true ∧ leS (ofL (textM s).1) last = false ∧ 1 ≤ (countM 1024 (textM s).2).1
    · rw [rowsP_yes hb, cnt_yes hb.2.2]
      have hp := eps_ref (countM 1024 (textM s).2).1 [] (countM 1024 (textM s).2).2
      cases he : epsP (countM 1024 (textM s).2).1 [] (countM 1024 (textM s).2).2 with
      | none =>
        rw [he] at hp
        simp only at hp
        rw [if_neg (fun h => hp h.1)]; rfl
      | some x =>
        obtain ⟨l, s'⟩ := x
        rw [he] at hp
        simp only at hp
        by_cases hc : s'.c = 0
        · rw [if_pos hc] at hp
          rw [hp, if_pos ⟨hc, hb.1, hb.2.1⟩]
          exact ih _ _ _
        · rw [if_neg hc] at hp
          rw [if_neg (fun h => hp h.1)]
          simp only
          rw [rows_err hc]; rfl
    · rw [rowsP_no hb, if_neg]; rfl
      rintro ⟨h1, h2, h3⟩
      by_cases h4 : 1 ≤ (countM 1024 (textM s).2).1
      · exact hb ⟨h2, h3, h4⟩
      · have := cnt_no h4
        rw [refEps_err this] at h1
        exact this h1
theorem refLoad_eq (b : ByteArray) : refLoad b = (loadP b).isSome := (rows_ref _ _ _ _).symm
end Go.Proofs.Ytgmopnbejjfbjaa
