/-
  names.New and names.NewResolver return an empty registry and an empty resolver; the chapter's example in numbers. Conditions: none.
-/
import Derived.Test.YtgmopnbejjfbjaaX10
namespace Go.Proofs.Ytgmopnbejjfbjaa
open Go.RowKit Go.MapKept
open Go.ChangeMaps (setBlock)
theorem strMap_nil : StrMap #[] [] := rfl
def NewPost (w : World) (r : Ending) (w' : World) : Prop :=
  ∃ rb mb, r = .returned (.pointer (some ⟨rb, 0, none⟩)) ∧ IsReg w' rb mb [] ∧ Ext (fun _ => False) w w' ∧ w.heap.size ≤ rb ∧ w.heap.size ≤ mb
theorem new_any (w : World) : Calls Try.prog 15 #[] w (NewPost w) := by
  have hmm := @run_makeMap Try.prog
  go_enter Try.func15, Try.ntmps15
  go_wp2
  go_ret
  refine ⟨w.heap.size + 1, w.heap.size, rfl, ⟨?_, ⟨#[], 0, ?_, ⟨strMap_nil, stamped_empty 0⟩⟩, by simp, by simp⟩, by repeat (first | exact Ext.refl _ _ | apply Ext.drew | apply Ext.alloc), by omega, by omega⟩
  · simp [go_sem]
  · simp [go_sem]
def NewResPost (w : World) (r : Ending) (w' : World) : Prop :=
  ∃ rb mb, r = .returned (.pointer (some ⟨rb, 0, none⟩)) ∧ IsRes w' rb mb (kvs []) ∧ Ext (fun _ => False) w w' ∧ w.heap.size ≤ rb ∧ w.heap.size ≤ mb
theorem newres_any (w : World) : Calls Try.prog 10 #[] w (NewResPost w) := by
  have hmm := @run_makeMap Try.prog
  go_enter Try.func10, Try.ntmps10
  go_wp2
  go_ret
  refine ⟨w.heap.size + 1, w.heap.size, rfl, ⟨?_, #[], 0, ?_, strMap_nil⟩, by repeat (first | exact Ext.refl _ _ | apply Ext.drew | apply Ext.alloc), by omega, by omega⟩
  · simp [go_sem]
  · simp [go_sem]

def db : ByteArray := { data := #[100, 98] }
def m1 : List (ByteArray × List Ep) := [(db, [⟨4, 32, 0⟩])]
def m2 : List (ByteArray × List Ep) := [(db, [⟨4, 32, 11⟩])]
def m3 : List (ByteArray × List Ep) := [(db, [⟨4, 32, 11⟩, ⟨7, 32, 0⟩])]
def x0 : KV := ⟨⟨db, 1, 4, 32⟩, 8⟩
theorem s1 : publishM [] db 4 32 0 = (m1, 1, 0) := by rfl
theorem s2 : lookupM m1 db 10 = (m2, ⟨db, 1, 4, 32⟩, 0) := by rfl
theorem s3 : mayCutM m2 db 1 99 = false := by rfl
theorem s4 : publishM m2 db 7 32 12 = (m3, 2, 0) := by rfl
theorem s5 : keepL [] x0 = [(db, x0)] := by rfl
theorem s6 : resolveM [(db, x0)] db 39 = (x0.x, true) := by rfl
theorem s7 : resolveM [(db, x0)] db 40 = (.zero, false) := by rfl
theorem s8 : mayCutM m3 db 1 45 = false := by rfl
theorem s9 : mayCutM m3 db 1 46 = true := by rfl
end Go.Proofs.Ytgmopnbejjfbjaa
