/-
  StoreFull: the keys; what a store with 1024 of them answers. Conditions: none.
-/
import Derived.Test.YthipbmppmgkklaaTH
namespace Go.Proofs.Ythipbmppmgkklaa
open Go.RowKit Go.MapKept
open Go.ChangeMaps (setBlock)

def keyM (i : Nat) : ByteArray := ⟨#[107, UInt8.ofNat (97 + i / 64 % 64), UInt8.ofNat (48 + i % 64)]⟩
def full (j : Nat) : KM := (List.range j).map fun i => (keyM i, (i : Int))
theorem keyM_inj {i j : Nat} (hi : i < 1024) (hj : j < 1024) (h : keyM i = keyM j) : i = j := by
  simp only [keyM, ByteArray.mk.injEq] at h
  simp at h
  obtain ⟨h1, h2⟩ := h
  have a := congrArg UInt8.toNat h1
  have b := congrArg UInt8.toNat h2
  simp at a b
  omega
theorem keyM_size (i : Nat) : (keyM i).size = 3 := rfl
theorem full_length (j : Nat) : (full j).length = j := by simp [full]
theorem full_succ (j : Nat) : full (j + 1) = full j ++ [(keyM j, (j : Int))] := by simp [full, List.range_succ]
theorem assoc_append_none {α : Type} {l : List (ByteArray × α)} {s : ByteArray} (h : ∀ p ∈ l, p.1 ≠ s) : assoc l s = none := by
  induction l with
  | nil => rfl
  | cons q r ih =>
    obtain ⟨a, b⟩ := q
    simp only [assoc]
    rw [if_neg (h (a, b) (by simp)), ih (fun p hp => h p (by simp [hp]))]
theorem aput_absent {α : Type} {l : List (ByteArray × α)} {s : ByteArray} (v : α) (h : ∀ p ∈ l, p.1 ≠ s) : aput l s v = l ++ [(s, v)] := by
  induction l with
  | nil => rfl
  | cons q r ih =>
    obtain ⟨a, b⟩ := q
    simp only [aput]
    rw [if_neg (h (a, b) (by simp)), ih (fun p hp => h p (by simp [hp]))]; rfl
theorem full_ne {j k : Nat} (hj : j ≤ 1024) (hk : k < 1024) (h : j ≤ k) : ∀ p ∈ full j, p.1 ≠ keyM k := by
  intro p hp e
  simp only [full, List.mem_map, List.mem_range] at hp
  obtain ⟨i, hi, rfl⟩ := hp
  have := keyM_inj (by omega) hk e
  omega
theorem assoc_full {j k : Nat} (hj : j ≤ 1024) (hk : k < j) : assoc (full j) (keyM k) = some (k : Int) := by
  induction j with
  | zero => omega
  | succ j ih =>
    rw [full_succ]
    by_cases h : k = j
    · subst h
      have := full_ne (j := k) (by omega) (k := k) (by omega) (Nat.le_refl _)
      rw [← aput_absent _ this, assoc_aput, if_pos rfl]
    · have hn := full_ne (j := j) (by omega) (k := j) (by omega) (Nat.le_refl _)
      rw [← aput_absent _ hn, assoc_aput, if_neg (fun e => h (keyM_inj (by omega) (by omega) e)), ih (by omega) (by omega)]
theorem put_full {j : Nat} (hj : j < 1024) : doM (full j) ⟨1, keyM j, j, 0⟩ = (full (j + 1), ⟨0, true, j⟩) := by
  have hn := full_ne (j := j) (by omega) (k := j) (by omega) (Nat.le_refl _)
  rw [doM_eff (by rw [full_length]; omega)]
  unfold eff
  rw [if_neg (by rw [keyM_size]; omega), if_neg (by simp), if_pos rfl]
  simp only [wrM]
  rw [aput_absent _ hn, full_succ]
def bNew : ByteArray := { data := #[110, 101, 119] }
theorem new_absent : assoc (full 1024) bNew = none := by
  refine assoc_append_none (fun p hp e => ?_)
  simp only [full, List.mem_map, List.mem_range] at hp
  obtain ⟨i, hi, rfl⟩ := hp
  simp only [keyM, bNew, ByteArray.mk.injEq] at e
  simp at e
def newRs (k : Int) : Rs := if k = 1 ∨ k = 3 then ⟨8, false, 0⟩ else if k = 0 ∨ k = 2 then ⟨0, false, 0⟩ else ⟨1, false, 0⟩
theorem new_full (k v : Int) : doM (full 1024) ⟨k, bNew, v, 0⟩ = (full 1024, newRs k) := by
  have hf : fits (full 1024) bNew = false := by simp [fits, new_absent, full_length]
  unfold doM newRs
  rw [if_neg (show ¬ (bNew.size < 1 ∨ 31 < bNew.size) by decide)]
  by_cases h0 : k = 0
  · subst h0; simp [getM, new_absent]
  by_cases h1 : k = 1
  · subst h1; simp [putM, setM, hf]
  by_cases h2 : k = 2
  · subst h2; simp [casM, new_absent]
  by_cases h3 : k = 3
  · subst h3; simp [addM, setM, hf]
  · simp [h0, h1, h2, h3]
theorem aput_present {α : Type} {l : List (ByteArray × α)} {s : ByteArray} {u : α} (v : α) (h : assoc l s = some u) : (aput l s v).length = l.length := by
  induction l with
  | nil => cases h
  | cons q r ih =>
    obtain ⟨a, b⟩ := q
    simp only [assoc] at h
    simp only [aput]
    split at h
    · rename_i e; rw [if_pos e]; rfl
    · rename_i e; rw [if_neg e]; simp [ih h]
theorem add_full (i : Nat) (hi : i < 1024) (v : Int) : ∃ m, doM (full 1024) ⟨3, keyM i, v, 0⟩ = (m, ⟨0, true, wrap64 ((i : Int) + v)⟩) ∧ m.length = 1024 := by
  have ha := assoc_full (j := 1024) (by omega) hi
  refine ⟨aput (full 1024) (keyM i) (wrap64 ((i : Int) + v)), ?_, by rw [aput_present _ ha, full_length]⟩
  unfold doM
  rw [if_neg (by rw [keyM_size]; omega), if_neg (by simp), if_neg (by simp), if_neg (by simp), if_pos rfl]
  simp only [addM, setM, fits, ha, Option.isSome_some, Bool.true_or, if_true, Option.getD_some]
set_option maxRecDepth 100000 in
set_option maxHeartbeats 1000000 in
theorem key_any (w : World) (i : Nat) (hi : i < 1024) : Calls Try.prog 16 #[.int .i64 i] w fun r w' => r = .returned (.string (keyM i)) ∧ Ext (fun _ => False) w w' := by
  go_enter Try.func16, Try.ntmps16
  go_wp2_with fail
  have h1 : Value.int .u8 (97 + (i : Int) / 64 % 64) = bv (UInt8.ofNat (97 + i / 64 % 64)) := by unfold bv; congr 1; simp; omega
  have h2 : Value.int .u8 (48 + (i : Int) % 64) = bv (UInt8.ofNat (48 + i % 64)) := by unfold bv; congr 1; simp; omega
  have hB : IsBytes (w.alloc (.cells #[.int .u8 (97 + (i : Int) / 64 % 64), .int .u8 (48 + (i : Int) % 64)] 5)) (.slice (some ⟨w.heap.size, 0, none⟩) 2 2) [UInt8.ofNat (97 + i / 64 % 64), UInt8.ofNat (48 + i % 64)] := by
    refine ⟨rfl, .inr ⟨w.heap.size, 2, _, rfl, Nat.zero_le _, blk_alloc_at w _, Nat.le_refl _, by simp [maxLen], rfl, ?_⟩⟩
    rw [h1, h2]; rfl
  rw [run_bytes_string hB]
  have Hx := Lib.hid ((Ext.refl (fun _ => False) w).alloc (.cells #[.int .u8 (97 + (i : Int) / 64 % 64), .int .u8 (48 + (i : Int) % 64)] 5))
  clear h1 h2 hB
  go_wp2
  go_ret
  exact ⟨by simp [keyM]; rfl, Hx.out⟩
end Go.Proofs.Ythipbmppmgkklaa
