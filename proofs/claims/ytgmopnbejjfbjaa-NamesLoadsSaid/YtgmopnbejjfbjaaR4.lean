/-
  The reference of package names: set. Conditions: none beyond IsRows45.
-/
import Derived.Test.YtgmopnbejjfbjaaR3
import Derived.Outline
namespace Go.Proofs.Ytgmopnbejjfbjaa
open Go.RowKit Go.MapKept
open Go.ChangeMaps (setBlock)

theorem Try.infoName : (Try.prog.info? 122).map (fun i => (i.zero, i.size, i.bytes)) = some (some (.agg #[.string .empty, .slice none 0 0]), 2, 40) := by kernel_rfl
theorem row_one {w : World} {base : Nat} {e : TypeId} {size : Nat} {v : Value} {n : Nat} {xs : List Value} (h : w.ownsRow base e size v n xs) : v.oneCell' = true := by
  obtain ⟨a, c, rfl⟩ := ownsRow_shape h; rfl
theorem rows45_one {w : World} {v : Value} {R : List (ByteArray × Slot)} (h : IsRows45 w v R) : ∀ p ∈ R, ∀ u ∈ cellsN p, u.oneCell' = true := fun p hp u hu => by
  simp [cellsN] at hu
  rcases hu with rfl | rfl
  · rfl
  · exact row_one (h.2 p hp)
theorem sub_one {R L : List (ByteArray × Slot)} (h : ∀ p ∈ R, ∀ u ∈ cellsN p, u.oneCell' = true) (hs : ∀ p ∈ L, p ∈ R) : ∀ u ∈ L.flatMap cellsN, u.oneCell' = true := fun u hu => by
  obtain ⟨p, hp, hu⟩ := List.mem_flatMap.1 hu
  exact h p (hs p hp) u hu
/-- the rows behind a put -/
def setN (R : List (ByteArray × Slot)) (n : ByteArray) (s : Slot) : List (ByteArray × Slot) := kpre leS R n ++ (n, s) :: krest leS R n
theorem setN_shape {R : List (ByteArray × Slot)} (h : Rising R) (n : ByteArray) (s : Slot) :
    ((kget R n).isSome = false ∧ setN R n s = R.take (posN R n) ++ (n, s) :: R.drop (posN R n)) ∨
    ((kget R n).isSome = true ∧ posN R n < R.length ∧ setN R n s = R.take (posN R n) ++ (n, s) :: R.drop (posN R n + 1)) := by
  have h2 : R.take (posN R n) = kpre leS R n := kpre_take _ _
  unfold setN
  rw [h2]
  rcases krest_eq linS h n with ⟨h1, h3, _⟩ | ⟨v', h1, h3, h4⟩
  · exact .inl ⟨by rw [h1]; rfl, by rw [h3]; rfl⟩
  · exact .inr ⟨by rw [h1]; rfl, (List.getElem?_eq_some_iff.1 h3).1, by rw [h4]; rfl⟩
def RowsPost (w : World) (R : List (ByteArray × Slot)) (r : Ending) (w' : World) : Prop :=
  ∃ v, r = .returned v ∧ IsRows45 w' v R ∧ Ext (fun _ => False) w w'
end Go.Proofs.Ytgmopnbejjfbjaa
