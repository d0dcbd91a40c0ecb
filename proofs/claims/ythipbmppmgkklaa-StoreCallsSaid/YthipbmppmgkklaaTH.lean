/-
  The plain law of the store: an operation reads and writes its own key alone; the saved text hangs on what the keys hold alone. Conditions: none beyond each lemma's own.
-/
import Derived.Test.YthipbmppmgkklaaTG
namespace Go.Proofs.Ythipbmppmgkklaa
open Go.RowKit Go.MapKept

def eff (o : Option Int) (x : OpV) : Option Int × Rs :=
  if x.key.size < 1 ∨ 31 < x.key.size then (none, ⟨1, false, 0⟩) else
  if x.k = 0 then (none, ⟨0, o.isSome, o.getD 0⟩) else
  if x.k = 1 then (some x.v, ⟨0, true, x.v⟩) else
  if x.k = 2 then (if o.isSome && decide (o.getD 0 = x.o) then (some x.v, ⟨0, true, x.v⟩) else (none, ⟨0, false, o.getD 0⟩)) else
  if x.k = 3 then (some (wrap64 (o.getD 0 + x.v)), ⟨0, true, wrap64 (o.getD 0 + x.v)⟩) else (none, ⟨1, false, 0⟩)
def wrM (m : KM) (k : ByteArray) (o : Option Int) : KM := match o with | none => m | some v => aput m k v
theorem fits_of {m : KM} (h : m.length < 1024) (k : ByteArray) : fits m k = true := by simp [fits, h]
theorem setM_of {m : KM} (h : m.length < 1024) (k : ByteArray) (n : Int) : setM m k n = (aput m k n, ⟨0, true, n⟩) := by simp [setM, fits_of h]
theorem doM_eff {m : KM} (h : m.length < 1024) (x : OpV) : doM m x = (wrM m x.key (eff (assoc m x.key) x).1, (eff (assoc m x.key) x).2) := by
  unfold doM eff
  by_cases h0 : x.key.size < 1 ∨ 31 < x.key.size
  · rw [if_pos h0, if_pos h0]; rfl
  rw [if_neg h0, if_neg h0]
  by_cases h1 : x.k = 0
  · rw [if_pos h1, if_pos h1]; rfl
  rw [if_neg h1, if_neg h1]
  by_cases h2 : x.k = 1
  · rw [if_pos h2, if_pos h2]; unfold putM; rw [setM_of h]; rfl
  rw [if_neg h2, if_neg h2]
  by_cases h3 : x.k = 2
  · rw [if_pos h3, if_pos h3]; unfold casM; rw [setM_of h]; split <;> rfl
  rw [if_neg h3, if_neg h3]
  by_cases h4 : x.k = 3
  · rw [if_pos h4, if_pos h4]; unfold addM; rw [setM_of h]; rfl
  rw [if_neg h4, if_neg h4]; rfl
theorem assoc_aput {α : Type} (l : List (ByteArray × α)) (k : ByteArray) (v : α) (k' : ByteArray) : assoc (aput l k v) k' = if k' = k then some v else assoc l k' := by
  induction l with
  | nil =>
    simp only [aput, assoc]
    by_cases h : k = k'
    · rw [if_pos h, if_pos h.symm]
    · rw [if_neg h, if_neg (Ne.symm h)]
  | cons p r ih =>
    obtain ⟨a, b⟩ := p
    simp only [aput]
    by_cases h : a = k
    · subst h
      rw [if_pos rfl]
      simp only [assoc]
      by_cases h' : a = k'
      · subst h'; rw [if_pos rfl, if_pos rfl]
      · rw [if_neg h', if_neg h', if_neg (Ne.symm h')]
    · rw [if_neg h]
      simp only [assoc]
      rw [ih]
      by_cases h' : a = k'
      · subst h'; rw [if_pos rfl, if_neg h, if_pos rfl]
      · rw [if_neg h', if_neg h']
theorem assoc_wrM (m : KM) (k : ByteArray) (o : Option Int) (k' : ByteArray) : assoc (wrM m k o) k' = if k' = k then o.or (assoc m k') else assoc m k' := by
  cases o with
  | none => simp [wrM]
  | some v => unfold wrM; rw [assoc_aput]; rfl
/-! ### what a state keeps -/
def InR (v : Int) : Prop := -9223372036854775808 ≤ v ∧ v ≤ 9223372036854775807
structure Good (m : KM) : Prop where
  key : ∀ p ∈ m, 1 ≤ p.1.size ∧ p.1.size ≤ 31
  val : ∀ p ∈ m, InR p.2
  nodup : (m.map Prod.fst).Nodup
theorem wrap64_in' (n : Int) : InR (wrap64 n) := by unfold wrap64 InR; omega
theorem mem_aput_or {α : Type} {l : List (ByteArray × α)} {s : ByteArray} {v : α} {p : ByteArray × α} (h : p ∈ aput l s v) : p = (s, v) ∨ p ∈ l := by
  induction l with
  | nil => simp [aput] at h; exact .inl h
  | cons q r ih =>
    obtain ⟨a, b⟩ := q
    simp only [aput] at h
    split at h
    · rename_i e; subst e
      rcases List.mem_cons.1 h with h | h
      · exact .inl h
      · exact .inr (List.mem_cons_of_mem _ h)
    · rcases List.mem_cons.1 h with h | h
      · exact .inr (by rw [h]; simp)
      · exact (ih h).elim .inl (fun h => .inr (List.mem_cons_of_mem _ h))
theorem aput_nodup {l : KM} {s : ByteArray} {v : Int} (h : (l.map Prod.fst).Nodup) : ((aput l s v).map Prod.fst).Nodup := by
  induction l with
  | nil => simp [aput]
  | cons q r ih =>
    obtain ⟨a, b⟩ := q
    simp only [List.map_cons, List.nodup_cons] at h
    simp only [aput]
    split
    · simpa using h
    · rename_i e
      simp only [List.map_cons, List.nodup_cons]
      refine ⟨fun hm => ?_, ih h.2⟩
      obtain ⟨p, hp, hpe⟩ := List.mem_map.1 hm
      rcases mem_aput_or hp with h' | h'
      · subst h'; exact e hpe.symm
      · exact h.1 (List.mem_map.2 ⟨p, h', hpe⟩)
theorem Good.put {m : KM} (h : Good m) {k : ByteArray} {v : Int} (hk : 1 ≤ k.size ∧ k.size ≤ 31) (hv : InR v) : Good (aput m k v) :=
  ⟨fun p hp => (mem_aput_or hp).elim (fun e => by subst e; exact hk) (h.key p), fun p hp => (mem_aput_or hp).elim (fun e => by subst e; exact hv) (h.val p), aput_nodup h.nodup⟩
theorem Good.setM {m : KM} (h : Good m) {k : ByteArray} {v : Int} (hk : 1 ≤ k.size ∧ k.size ≤ 31) (hv : InR v) : Good (setM m k v).1 := by
  unfold Proofs.Ythipbmppmgkklaa.setM
  split
  · exact h.put hk hv
  · exact h
theorem Good.doM {m : KM} (h : Good m) {x : OpV} (hv : InR x.v) : Good (doM m x).1 := by
  unfold Proofs.Ythipbmppmgkklaa.doM
  split
  · exact h
  · rename_i hk
    have hk' : 1 ≤ x.key.size ∧ x.key.size ≤ 31 := by omega
    unfold getM putM casM addM
    repeat' split
    all_goals first | exact h | exact h.setM hk' hv | exact h.setM hk' (wrap64_in' _)
theorem Good.nil : Good [] := ⟨by simp, by simp, by simp⟩
theorem Good.runM {m : KM} (h : Good m) {l : List OpV} (hl : ∀ x ∈ l, InR x.v) : Good (runM m l) := by
  induction l generalizing m with
  | nil => exact h
  | cons x r ih =>
    show Good (Proofs.Ythipbmppmgkklaa.runM (Proofs.Ythipbmppmgkklaa.doM m x).1 r)
    exact ih (h.doM (hl x (by simp))) (fun y hy => hl y (by simp [hy]))
/-! ### the saved text hangs on what the keys hold -/
theorem assoc_isSome {m : KM} {k : ByteArray} : (assoc m k).isSome = true ↔ k ∈ m.map Prod.fst := by
  induction m with
  | nil => simp [assoc]
  | cons q r ih =>
    obtain ⟨a, b⟩ := q
    simp only [assoc, List.map_cons, List.mem_cons]
    split
    · rename_i e; subst e; simp
    · rename_i e; rw [ih]; exact ⟨.inr, fun h => h.elim (fun h => absurd h.symm e) id⟩
theorem save_same {m m' : KM} (h : Good m) (h' : Good m') (he : ∀ k, assoc m k = assoc m' k) : saveM m = saveM m' := by
  have hp : (m.map Prod.fst).Perm (m'.map Prod.fst) := by
    refine (List.perm_ext_iff_of_nodup h.nodup h'.nodup).2 (fun k => ?_)
    rw [← assoc_isSome, ← assoc_isSome, he]
  have hlen : m.length = m'.length := by simpa using hp.length_eq
  have hk : keysM m = keysM m' := by
    unfold keysM
    refine mergeSort_of_perm ?_
    have := hp.map (fun k : ByteArray => k.data.toList)
    rw [List.map_map, List.map_map] at this
    exact this
  have hv : valAt m = valAt m' := by funext k; unfold valAt; rw [he]
  unfold saveM
  rw [hlen, hk, hv]
theorem swap_law {m : KM} {a b : OpV} (hm : m.length < 1000) (hg : Good m) (ha : InR a.v) (hb : InR b.v) (hk : a.key ≠ b.key) :
    (doM (doM m b).1 a).2 = (doM m a).2 ∧ (doM (doM m a).1 b).2 = (doM m b).2 ∧ saveM (doM (doM m a).1 b).1 = saveM (doM (doM m b).1 a).1 := by
  have la := doM_length m a
  have lb := doM_length m b
  have ga := hg.doM ha
  have gb := hg.doM hb
  have ea := doM_eff (m := m) (by omega) a
  have eb := doM_eff (m := m) (by omega) b
  have eab := doM_eff (m := (doM m a).1) (by omega) b
  have eba := doM_eff (m := (doM m b).1) (by omega) a
  have q1 : assoc (doM m a).1 b.key = assoc m b.key := by rw [ea, assoc_wrM, if_neg (Ne.symm hk)]
  have q2 : assoc (doM m b).1 a.key = assoc m a.key := by rw [eb, assoc_wrM, if_neg hk]
  rw [q1] at eab
  rw [q2] at eba
  refine ⟨by rw [eba, ea], by rw [eab, eb], save_same (ga.doM hb) (gb.doM ha) (fun k => ?_)⟩
  rw [eab, eba, assoc_wrM, assoc_wrM, ea, eb, assoc_wrM, assoc_wrM]
  by_cases h1 : k = b.key
  · subst h1; simp [Ne.symm hk]
  · simp [h1]
end Go.Proofs.Ythipbmppmgkklaa
