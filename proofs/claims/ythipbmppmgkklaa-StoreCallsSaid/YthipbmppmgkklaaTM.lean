/-
  StoreKeys: the plain law: an operation changes at most its own key; what it answers is what the key holds then. Conditions: none beyond each lemma's own.
-/
import Derived.Test.YthipbmppmgkklaaTH
namespace Go.Proofs.Ythipbmppmgkklaa
open Go.RowKit Go.MapKept

theorem keys_other {m : KM} (hm : m.length < 1024) (x : OpV) {k : ByteArray} (hk : k ≠ x.key) : assoc (doM m x).1 k = assoc m k := by
  rw [doM_eff hm, assoc_wrM, if_neg hk]
/-- what the law asks behind the loop -/
def lastB (m m' : KM) (x : OpV) (r : Rs) : Bool :=
  let v := (assoc m' x.key).getD 0
  let ok := (assoc m' x.key).isSome
  if x.k = 0 ∨ ¬ r.c = 0 ∨ r.f = false then decide (saveM m' = saveM m) && (!decide (r.c = 0) || decide (r.v = v))
  else ok && decide (v = r.v) && (decide (x.k = 3) || decide (v = x.v))
theorem keys_last {m : KM} (hm : m.length < 1024) (x : OpV) :
    let p := doM m x
    let v := (assoc p.1 x.key).getD 0
    let ok := (assoc p.1 x.key).isSome
    ((x.k = 0 ∨ ¬ p.2.c = 0 ∨ p.2.f = false) → saveM p.1 = saveM m ∧ (¬ p.2.c = 0 ∨ p.2.v = v)) ∧
    (¬ (x.k = 0 ∨ ¬ p.2.c = 0 ∨ p.2.f = false) → ok = true ∧ v = p.2.v ∧ (x.k = 3 ∨ v = x.v)) := by
  intro p v ok
  have hp : p = (wrM m x.key (eff (assoc m x.key) x).1, (eff (assoc m x.key) x).2) := doM_eff hm x
  have ha : assoc p.1 x.key = (eff (assoc m x.key) x).1.or (assoc m x.key) := by rw [hp, assoc_wrM, if_pos rfl]
  have hr : p.2 = (eff (assoc m x.key) x).2 := by rw [hp]
  have h1 : p.1 = wrM m x.key (eff (assoc m x.key) x).1 := by rw [hp]
  show ((x.k = 0 ∨ ¬ p.2.c = 0 ∨ p.2.f = false) → saveM p.1 = saveM m ∧ (¬ p.2.c = 0 ∨ p.2.v = (assoc p.1 x.key).getD 0)) ∧ (¬ (x.k = 0 ∨ ¬ p.2.c = 0 ∨ p.2.f = false) → (assoc p.1 x.key).isSome = true ∧ (assoc p.1 x.key).getD 0 = p.2.v ∧ (x.k = 3 ∨ (assoc p.1 x.key).getD 0 = x.v))
  rw [ha, hr, h1]
  generalize assoc m x.key = o
  unfold eff
  by_cases g0 : x.key.size < 1 ∨ 31 < x.key.size
  · simp only [if_pos g0, wrM]; simp
  simp only [if_neg g0]
  by_cases k0 : x.k = 0
  · simp only [if_pos k0, wrM]; simp [k0]
  simp only [if_neg k0]
  by_cases k1 : x.k = 1
  · simp only [if_pos k1]; simp [k0]
  simp only [if_neg k1]
  by_cases k2 : x.k = 2
  · simp only [if_pos k2]
    split
    · simp [k0]
    · simp [wrM]
  simp only [if_neg k2]
  by_cases k3 : x.k = 3
  · simp only [if_pos k3]; simp [k3]
  · simp only [if_neg k3, wrM]; simp
theorem few30' (w : World) (b off cap : Nat) (l : List OpV) (hl : Ops w b off l) (hlen : l.length ≤ 9223372036854775807) (hsz : ∀ x ∈ l, x.key.size ≤ 9223372036854775807) :
    Calls Try.prog 11 #[.slice (some ⟨b, off, none⟩) l.length cap, .int .i64 30] w fun r w' => r = .returned (.bool (fewB l 30)) ∧ w' = w := few_any w b off cap l 30 hl hlen hsz (by omega)
theorem fewB_true' {l : List OpV} {n : Nat} (h : fewB l n = true) : l.length ≤ n ∧ ∀ x ∈ l, x.key.size ≤ 60 := by
  unfold fewB at h
  simp at h
  exact ⟨h.2, h.1⟩
theorem Good.keys1000 {m : KM} (h : Good m) : ∀ p ∈ m, p.1.size ≤ 1000 := fun p hp => by have := (h.key p hp).2; omega
theorem Good.keysM {m : KM} (h : Good m) : ∀ p ∈ m, p.1.size ≤ 1000000 := fun p hp => by have := (h.key p hp).2; omega
theorem Try.infoStr : (Try.prog.info? 9).map (fun i => (i.zero, i.size, i.bytes)) = some (some (.string .empty), 1, 16) := by kernel_rfl
theorem aput_length_ge {α : Type} (l : List (ByteArray × α)) (s : ByteArray) (v : α) : l.length ≤ (aput l s v).length := by
  induction l with
  | nil => simp
  | cons p r ih =>
    obtain ⟨a, b⟩ := p
    simp only [aput]
    split
    · simp
    · simp; omega
theorem doM_length_ge {m : KM} (hm : m.length < 1024) (x : OpV) : m.length ≤ (doM m x).1.length := by
  rw [doM_eff hm]
  cases (eff (assoc m x.key) x).1 with
  | none => exact Nat.le_refl _
  | some v => exact aput_length_ge _ _ _
theorem strs_oneCell (l : List (List UInt8)) : ∀ u ∈ l.map Go.Proofs.encStr, u.oneCell' = true := by
  intro u hu
  obtain ⟨x, _, rfl⟩ := List.mem_map.1 hu
  rfl
end Go.Proofs.Ythipbmppmgkklaa
