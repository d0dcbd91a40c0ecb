/-
  Package store: Keys, Len, Get return what the model says. Conditions: as IsStore says; the keys' lengths bounded.
-/
import Derived.Test.YthipbmppmgkklaaTD
namespace Go.Proofs.Ythipbmppmgkklaa
open Go.RowKit Go.Maps Go.Sort Go.Shelf Go.MapKept

theorem Try.sorts41 (m : Nat) : AnyZ.SortsIn Try.prog Try.sorted41_ren Fence.wide m :=
  ⟨fun blk off cap ss W hH hblk hsz => callsIn_wide.2 (AnyM.slices_Sort_string Try.sort64 blk off cap ss W hH hblk hsz),
   fun p cap W => callsIn_wide.2 (AnyM.slices_Sort_string_none Try.sort64 p cap W)⟩

theorem Try.maps_Keys_42 (mb : Option Nat) (W : World) : CallsIn Fence.wide 5 Try.prog 42 #[.map mb] W fun e w' => e = .returned (.func (.func 65) #[] #[.pointer (some ⟨W.heap.size, 0, none⟩)]) ∧ w' = W.alloc (.cells #[.map mb] 76) :=
  AnyZ.keys_in Try.keys42 Fence.wide 5 trivial rfl mb W

set_option maxHeartbeats 1000000 in
theorem Try.slices_Sorted_keys {H : Type} (b nn : Nat) (D0 : DataW H) (R : Value → Option (DataW H × List MemPlace)) (w : World) (hown : w.ownsMap Try.prog 9 R b nn D0) (hmax : Maps.size D0 ≤ maxLen) (hbytes : Maps.size D0 * 16 ≤ 140737488355328) :
    CallsIn Fence.wide 5 Try.prog 41 #[.func (.func 65) #[] #[.pointer (some ⟨w.heap.size, 0, none⟩)]] (w.alloc (.cells #[.map (some b)] 76)) fun e w' => ∃ (v : Value) (ss : List (List UInt8)), e = .returned v ∧ ss.Perm (strKeys D0) ∧
      w'.ownsRow (w.alloc (.cells #[.map (some b)] 76)).heap.size 9 1 v ss.length ((ss.mergeSort (fun x y => decide (x ≤ y))).map encStr) ∧ (v = .slice none 0 0 ↔ ss = []) ∧ Below (w.alloc (.cells #[.map (some b)] 76)).heap.size (w.alloc (.cells #[.map (some b)] 76)) w' := by
  have hbl := hown.lt
  have hseq : SeqGives Fence.wide 2 Try.prog 65 #[.pointer (some ⟨w.heap.size, 0, none⟩)] encStr (fun ss => ss.Perm (strKeys D0)) (Maps.size D0) (w.alloc (.cells #[.map (some b)] 76)) :=
    AnyZ.keys_gives (ρ := Try.keys42_ren) { Try.keys42 with } Fence.wide _ trivial rfl (by omega) w.heap.size b nn D0 _ (by simp) (by simp) (by
      obtain ⟨es, clock, hb, Ft, hs, hD⟩ := hown
      exact ⟨es, clock, (Below.heap_alloc _ _ b hbl).trans hb, Ft, hs, hD⟩)
  exact AnyZ.sorted_in Try.sorted41 Fence.wide 5 trivial trivial trivial trivial rfl (by omega) (Try.sorts41 _) (enters_of Try.func64 (by kernel_rfl) rfl) 65 #[.pointer (some ⟨w.heap.size, 0, none⟩)] trivial (enters_of Try.func65 (by kernel_rfl) rfl) _ _ hmax hbytes _ hseq


theorem Ext.of_below {w w' : World} (h : Below w.heap.size w w') : Ext (fun _ => False) w w' := ⟨h.os, h.tape, h.output, h.size, fun k hk _ => h.block k hk⟩
def keysM (m : KM) : List (List UInt8) := (m.map fun p => p.1.data.toList).mergeSort (fun x y => decide (x ≤ y))
theorem keysM_length (m : KM) : (keysM m).length = m.length := by simp [keysM]
def KeysPost (w : World) (m : KM) (r : Ending) (w' : World) : Prop :=
  ∃ v, r = .returned v ∧ w'.ownsRow w.heap.size 9 1 v m.length ((keysM m).map encStr) ∧ (v = .slice none 0 0 ↔ m = []) ∧ Ext (fun _ => False) w w'
/-- the map as the library's contracts know it: every element reads as nil -/
def asNil {H : Type} : Value → Option (DataW H × List MemPlace) := fun _ => some (.nil, [])
theorem IsStore.owns {H : Type} {w : World} {sb mb : Nat} {m : KM} (h : IsStore w sb mb m) (hk : ∀ p ∈ m, p.1.size ≤ maxLen) (hm : m.length ≤ maxLen) :
    ∃ D : DataW H, w.ownsMap Try.prog 9 asNil mb m.length D ∧ Maps.size D = m.length ∧ (strKeys D).Perm (m.map fun p => p.1.data.toList) := by
  obtain ⟨_, es, clock, hb, hl, hst⟩ := h
  have hsz : es.size = m.length := by rw [hl.size]; simp [kmv]
  have hrd : ∀ x ∈ es.toList, ∃ s : ByteArray, x.key = .string s ∧ s.size ≤ maxLen := fun x hx => by
    have : (x.key, x.val) ∈ es.toList.map (fun e => (e.key, e.val)) := List.mem_map.2 ⟨x, hx, rfl⟩
    rw [hl] at this
    obtain ⟨p, hp, hpe⟩ := List.mem_map.1 this
    obtain ⟨q, hq, rfl⟩ := List.mem_map.1 hp
    exact ⟨q.1, (congrArg Prod.fst hpe).symm, hk q hq⟩
  refine ⟨_, ⟨es, clock, hb, ⟨by omega, hst, fun x hx => ?_⟩, Nat.le_of_eq hsz, rfl⟩, ?_, ?_⟩
  · obtain ⟨s, hs, hs2⟩ := hrd x hx
    exact ⟨(.string s.data.toList, .nil), by unfold WideElems.rd; rw [hs, WideMaps.keyOf_string_mk Try.underlying9 hs2]; rfl⟩
  · show (List.foldr DataW.insert [] _).length = _
    rw [length_sorted, List.length_map, Array.length_toList, hsz]
  · show (List.map (fun p => strOf p.1) (List.foldr DataW.insert [] _)).Perm _
    refine ((WideShapes.sorted_perm _).map _).trans (List.Perm.of_eq ?_)
    rw [List.map_map]
    have h1 : es.toList.map ((fun p : Lit × DataW H => strOf p.1) ∘ WideElems.rg Try.prog 9 asNil) = es.toList.map (fun x => match x.key with | .string s => s.data.toList | _ => []) := by
      refine List.map_congr_left (fun x hx => ?_)
      obtain ⟨s, hs, hs2⟩ := hrd x hx
      have : WideElems.rd Try.prog 9 (asNil (H := H)) x = some (.string s.data.toList, .nil) := by unfold WideElems.rd; rw [hs, WideMaps.keyOf_string_mk Try.underlying9 hs2]; rfl
      simp only [Function.comp, WideElems.rg_of this, hs, strOf]
    rw [h1]
    have h2 := congrArg (List.map (fun q : Value × Value => match q.1 with | .string s => s.data.toList | _ => ([] : List UInt8))) hl
    simp only [kmv, List.map_map] at h2
    exact h2
set_option maxHeartbeats 1000000 in
theorem keys_any (w : World) (sb mb : Nat) (m : KM) (hs : IsStore w sb mb m) (hk : ∀ p ∈ m, p.1.size ≤ 1000000) (hm : m.length ≤ 1000000) :
    Calls Try.prog 18 #[.pointer (some ⟨sb, 0, none⟩)] w (KeysPost w m) := by
  obtain ⟨D, hown, hsz, hperm⟩ := hs.owns (H := Unit) (fun p hp => by have := hk p hp; simp only [maxLen]; omega) (by simp only [maxLen]; omega)
  have hc0 := cell_of_cells hs.1 0
  simp at hc0
  have hsb := blk_lt hs.1
  have Hown := Lib.hid hown
  have Hsz := Lib.hid hsz
  have Hperm := Lib.hid hperm
  clear hown hsz hperm hs hk
  refine (callsIn_wide (n := 6)).1 ?_
  have hfK : Fence.wide.fn 42 := trivial
  have hfS : Fence.wide.fn 41 := trivial
  refine callsIn_of_wp Try.func18 rfl trivial ?_ rfl
  simp only [Try.ntmps18, List.size_toArray, List.length_cons, List.length_nil, Nat.reduceAdd, Nat.reduceSub, Array.replicate_succ, Array.replicate_zero, List.push_toArray, List.append_toArray, List.nil_append, List.cons_append]
  gi_wp2_with (first
    | (gi_at_call 42; refine (Try.maps_Keys_42 _ _).mono ?_; rintro e w' ⟨rfl, rfl⟩)
    | (gi_at_call 41; refine (Try.slices_Sorted_keys mb m.length D asNil w Hown.out (by rw [Hsz.out]; simp only [maxLen]; omega) (by rw [Hsz.out]; omega)).mono ?_; rintro e w' ⟨v, ss, rfl, hS, hrow, hnil, hb⟩))
  go_ret
  have hP : ss.Perm (m.map fun p => p.1.data.toList) := hS.trans Hperm.out
  have hl : ss.length = m.length := by rw [hP.length_eq]; simp
  refine ⟨v, rfl, ?_, ?_, ?_⟩
  · have := ownsRow_base_a hrow (show w.heap.size ≤ _ by simp)
    rw [hl, mergeSort_of_perm hP] at this
    exact this
  · rw [hnil]
    constructor
    · intro e; subst e; exact List.eq_nil_of_length_eq_zero hl.symm
    · intro e; subst e; exact List.eq_nil_of_length_eq_zero hl
  · exact Ext.of_below (((Below.refl _ w).alloc (Nat.le_refl _) _).trans (hb.mono (by simp)))
set_option maxRecDepth 100000 in
set_option maxHeartbeats 1000000 in
theorem len_any (w : World) (sb mb : Nat) (m : KM) (hs : IsStore w sb mb m) :
    Calls Try.prog 17 #[.pointer (some ⟨sb, 0, none⟩)] w fun r w' => r = .returned (.int .i64 m.length) ∧ w' = w := by
  have ⟨hc, es, clock, hb, hl, _⟩ := hs
  have hln : ∀ (ty : TypeId) (W : World), blk W mb = some (.map es clock) → (Builtin.len_ #[76] ty #[.map (some mb)]).run Try.prog W = .ok (.int .i64 m.length) W := fun ty W h => run_len_map hl ty W h
  have hc0 := cell_of_cells hc 0
  simp at hc0
  clear hs hc
  go_enter Try.func17, Try.ntmps17
  go_wp2
  go_ret
  exact ⟨rfl, rfl⟩
set_option maxRecDepth 100000 in
set_option maxHeartbeats 1000000 in
theorem getkey_any (w : World) (sb mb : Nat) (m : KM) (hs : IsStore w sb mb m) (k : ByteArray) :
    Calls Try.prog 19 #[.pointer (some ⟨sb, 0, none⟩), .string k] w fun r w' => r = .returned (.tuple #[.int .i64 ((assoc m k).getD 0), .bool (assoc m k).isSome]) ∧ w' = w := by
  have ⟨hc, es, clock, hb, hl, _⟩ := hs
  have hlk := store_lookup (mb := mb) (clock := clock) hl k
  generalize (assoc m k).getD 0 = A at hlk ⊢
  generalize (assoc m k).isSome = B at hlk ⊢
  have hc0 := cell_of_cells hc 0
  simp at hc0
  clear hs hc hl
  go_enter Try.func19, Try.ntmps19
  go_wp2
  go_ret2
  exact ⟨rfl, rfl⟩
end Go.Proofs.Ythipbmppmgkklaa
