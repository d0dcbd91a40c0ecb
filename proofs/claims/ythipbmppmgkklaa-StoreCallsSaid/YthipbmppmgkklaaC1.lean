/-
  Keys in order: the order of byte strings; maps as sorted rows. Conditions: none.
-/
import Derived.Test.YthipbmppmgkklaaQA
import Derived.Test.YthipbmppmgkklaaTH
namespace Go.Proofs.Ythipbmppmgkklaa

def leS (a b : ByteArray) : Bool := decide (a.data.toList ≤ b.data.toList)
theorem bytes_ext {a b : ByteArray} (h : a.data.toList = b.data.toList) : a = b := by
  cases a; cases b; congr; exact Array.toList_inj.1 h
theorem linS : LinB leS :=
  ⟨fun a b c h1 h2 => by simp only [leS, decide_eq_true_eq] at *; exact List.le_trans h1 h2,
   fun a b => by simp only [leS, Bool.or_eq_true, decide_eq_true_eq]; exact List.le_total _ _,
   fun a b h1 h2 => by simp only [leS, decide_eq_true_eq] at *; exact bytes_ext (List.le_antisymm h1 h2)⟩
theorem assoc_k {α : Type} (l : List (ByteArray × α)) (k : ByteArray) : assoc l k = kget l k := by
  induction l with
  | nil => rfl
  | cons p r ih => simp only [assoc, kget]; rw [ih]
theorem aput_k {α : Type} (l : List (ByteArray × α)) (k : ByteArray) (v : α) : aput l k v = kput l k v := by
  induction l with
  | nil => rfl
  | cons p r ih => simp only [aput, kput]; rw [ih]
theorem less_lists (x y : List UInt8) : Op.bytesLess x y = !decide (y ≤ x) := by
  induction x generalizing y with
  | nil => cases y <;> simp [Op.bytesLess]
  | cons a r ih =>
    cases y with
    | nil => simp [Op.bytesLess]
    | cons b t =>
      simp only [Op.bytesLess]
      rw [ih]
      rcases Nat.lt_trichotomy a.toNat b.toNat with h | h | h
      · have h1 : a < b := UInt8.lt_iff_toNat_lt.2 h
        have h2 : ¬ b < a := fun h' => by have := UInt8.lt_iff_toNat_lt.1 h'; omega
        have h3 : ¬ b = a := fun e => by subst e; omega
        simp [h1, h2, h3, List.cons_le_cons_iff]
      · have h1 : a = b := UInt8.toNat_inj.1 h
        subst h1
        simp [List.cons_le_cons_iff]
      · have h1 : ¬ a < b := fun h' => by have := UInt8.lt_iff_toNat_lt.1 h'; omega
        have h2 : b < a := UInt8.lt_iff_toNat_lt.2 h
        have h3 : ¬ a = b := fun e => by subst e; omega
        simp [h1, h2, h3, List.cons_le_cons_iff]
theorem less_leS (a b : ByteArray) : Op.bytesLess a.toList b.toList = !leS b a := by
  rw [less_lists, ByteArray.toList_eq, ByteArray.toList_eq]; rfl
end Go.Proofs.Ythipbmppmgkklaa
