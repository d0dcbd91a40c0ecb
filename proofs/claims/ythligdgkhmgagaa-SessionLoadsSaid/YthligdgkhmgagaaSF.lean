/-
  Package session: Clients answers as the model says. Conditions: IsTable; the number of clients bounded.
-/
import Derived.Test.YthligdgkhmgagaaSE
import Derived.Test.YthligdgkhmgagaaShelf
namespace Go.Proofs.Ythligdgkhmgagaa
open Go.RowKit Go.Maps Go.Sort Go.Shelf Go.MapKept

theorem Try.sorts25 (m : Nat) : AnyZI.SortsIn Try.prog Try.sorted25_ren Fence.wide m :=
  ⟨fun blk off cap ss W hH hblk hsz => callsIn_wide.2 (AnyM.slices_Sort_int Try.sort57 blk off cap ss W hH hblk hsz),
   fun p cap W => callsIn_wide.2 (AnyM.slices_Sort_int_none Try.sort57 p cap W)⟩
theorem Try.maps_Keys_26 (mb : Option Nat) (W : World) : CallsIn Fence.wide 5 Try.prog 26 #[.map mb] W fun e w' => e = .returned (.func (.func 58) #[] #[.pointer (some ⟨W.heap.size, 0, none⟩)]) ∧ w' = W.alloc (.cells #[.map mb] 57) :=
  AnyZI.keys_in Try.keys26 Fence.wide 5 trivial rfl mb W
set_option maxHeartbeats 1000000 in
theorem Try.slices_Sorted_keys {H : Type} (b nn : Nat) (D0 : DataW H) (R : Value → Option (DataW H × List MemPlace)) (w : World) (hown : w.ownsMap Try.prog 3 R b nn D0) (hmax : Maps.size D0 ≤ maxLen) (hbytes : Maps.size D0 * 8 ≤ 140737488355328) :
    CallsIn Fence.wide 5 Try.prog 25 #[.func (.func 58) #[] #[.pointer (some ⟨w.heap.size, 0, none⟩)]] (w.alloc (.cells #[.map (some b)] 57)) fun e w' => ∃ (v : Value) (ss : List Int), e = .returned v ∧ ss.Perm (intKeys D0) ∧
      w'.ownsRow (w.alloc (.cells #[.map (some b)] 57)).heap.size 3 1 v ss.length ((ss.mergeSort (fun x y => decide (x ≤ y))).map encZ) ∧ (v = .slice none 0 0 ↔ ss = []) ∧ Below (w.alloc (.cells #[.map (some b)] 57)).heap.size (w.alloc (.cells #[.map (some b)] 57)) w' := by
  have hbl := hown.lt
  have hseq : SeqGives Fence.wide 2 Try.prog 58 #[.pointer (some ⟨w.heap.size, 0, none⟩)] encZ (fun ss => ss.Perm (intKeys D0)) (Maps.size D0) (w.alloc (.cells #[.map (some b)] 57)) :=
    AnyZI.keys_gives (ρ := Try.keys26_ren) { Try.keys26 with } Fence.wide _ trivial rfl (by omega) w.heap.size b nn D0 _ (by simp) (by simp) (by
      obtain ⟨es, clock, hb, Ft, hs, hD⟩ := hown
      exact ⟨es, clock, (Below.heap_alloc _ _ b hbl).trans hb, Ft, hs, hD⟩)
  exact AnyZI.sorted_in Try.sorted25 Fence.wide 5 trivial trivial trivial trivial rfl (by omega) (Try.sorts25 _) (enters_of Try.func57 (by kernel_rfl) rfl) 58 #[.pointer (some ⟨w.heap.size, 0, none⟩)] trivial (enters_of Try.func58 (by kernel_rfl) rfl) _ _ hmax hbytes _ hseq

theorem Ext.of_below {w w' : World} (h : Below w.heap.size w w') : Ext (fun _ => False) w w' := ⟨h.os, h.tape, h.output, h.size, fun k hk _ => h.block k hk⟩
def ikeys {α : Type} (m : List (Int × α)) : List Int := (m.map Prod.fst).mergeSort (fun x y => decide (x ≤ y))
theorem ikeys_length {α : Type} (m : List (Int × α)) : (ikeys m).length = m.length := by simp [ikeys]
theorem ikeys_imap {α β : Type} (f : α → β) (m : List (Int × α)) : ikeys (imap f m) = ikeys m := by simp [ikeys, imap, Function.comp_def]
def InR (v : Int) : Prop := -9223372036854775808 ≤ v ∧ v ≤ 9223372036854775807
def KeysPost (w : World) (m : List Int) (r : Ending) (w' : World) : Prop :=
  ∃ v, r = .returned v ∧ w'.ownsRow w.heap.size 3 1 v m.length (m.map (Value.int .i64)) ∧ (v = .slice none 0 0 ↔ m = []) ∧ Ext (fun _ => False) w w'
theorem wf64 {a : Int} (h : InR a) : (Lit.int .i64 a).wf = true := WalkArith.wf_i64 h
theorem IsIMap.owns {H : Type} {w : World} {mb : Nat} {m : List (Int × Value)} (h : IsIMap w mb m) (hk : ∀ p ∈ m, InR p.1) (hm : m.length ≤ maxLen) :
    ∃ D : DataW H, w.ownsMap Try.prog 3 asNil mb m.length D ∧ Maps.size D = m.length ∧ (intKeys D).Perm (m.map Prod.fst) := by
  obtain ⟨es, clock, hb, hl, hst⟩ := h
  have hsz : es.size = m.length := hl.size
  have hrd : ∀ x ∈ es.toList, ∃ s : Int, x.key = .int .i64 s ∧ InR s := fun x hx => by
    have : (x.key, x.val) ∈ es.toList.map (fun e => (e.key, e.val)) := List.mem_map.2 ⟨x, hx, rfl⟩
    rw [hl] at this
    obtain ⟨p, hp, hpe⟩ := List.mem_map.1 this
    exact ⟨p.1, (congrArg Prod.fst hpe).symm, hk p hp⟩
  refine ⟨_, ⟨es, clock, hb, ⟨by omega, hst, fun x hx => ?_⟩, Nat.le_of_eq hsz, rfl⟩, ?_, ?_⟩
  · obtain ⟨s, hs, hs2⟩ := hrd x hx
    exact ⟨(.int .i64 s, .nil), by unfold WideElems.rd; rw [hs, Maps.keyOf_int_mk Try.underlying3 (wf64 hs2)]; rfl⟩
  · show (List.foldr DataW.insert [] _).length = _
    rw [length_sorted, List.length_map, Array.length_toList, hsz]
  · show (List.map (fun p => Go.intOf p.1) (List.foldr DataW.insert [] _)).Perm _
    refine ((WideShapes.sorted_perm _).map _).trans (List.Perm.of_eq ?_)
    rw [List.map_map]
    have h1 : es.toList.map ((fun p : Lit × DataW H => Go.intOf p.1) ∘ WideElems.rg Try.prog 3 asNil) = es.toList.map (fun x => match x.key with | .int _ s => s | _ => 0) := by
      refine List.map_congr_left (fun x hx => ?_)
      obtain ⟨s, hs, hs2⟩ := hrd x hx
      have : WideElems.rd Try.prog 3 (asNil (H := H)) x = some (.int .i64 s, .nil) := by unfold WideElems.rd; rw [hs, Maps.keyOf_int_mk Try.underlying3 (wf64 hs2)]; rfl
      simp only [Function.comp, WideElems.rg_of this, hs, Go.intOf]
    rw [h1]
    have h2 := congrArg (List.map (fun q : Value × Value => match q.1 with | .int _ s => s | _ => (0 : Int))) hl
    simp only [List.map_map] at h2
    exact h2
set_option maxHeartbeats 1000000 in
theorem clients_any (w : World) (tb cb sb : Nat) (T : Tbl) (hs : IsTable w tb cb sb T) (hk : ∀ p ∈ T.cl, InR p.1) (hm : T.cl.length ≤ 1000000) :
    Calls Try.prog 12 #[.pointer (some ⟨tb, 0, none⟩)] w (KeysPost w (ikeys T.cl)) := by
  obtain ⟨D, hown, hsz, hperm⟩ := hs.2.1.owns (H := Unit) (fun p hp => by
    obtain ⟨q, hq, rfl⟩ := List.mem_map.1 hp
    exact hk q hq) (by simp only [imap, List.length_map, maxLen]; omega)
  rw [show (imap Ans.v T.cl).length = T.cl.length by simp [imap]] at hown hsz
  rw [show (imap Ans.v T.cl).map Prod.fst = T.cl.map Prod.fst by simp [imap]] at hperm
  have hc0 := cell_of_cells hs.1 0
  simp at hc0
  have hsb := blk_lt hs.1
  have Hown := Lib.hid hown
  have Hsz := Lib.hid hsz
  have Hperm := Lib.hid hperm
  clear hown hsz hperm hs hk
  refine (callsIn_wide (n := 6)).1 ?_
  have hfK : Fence.wide.fn 26 := trivial
  have hfS : Fence.wide.fn 25 := trivial
  refine callsIn_of_wp Try.func12 rfl trivial ?_ rfl
  simp only [Try.ntmps12, List.size_toArray, List.length_cons, List.length_nil, Nat.reduceAdd, Nat.reduceSub, Array.replicate_succ, Array.replicate_zero, List.push_toArray, List.append_toArray, List.nil_append, List.cons_append]
  gi_wp2_with (first
    | (gi_at_call 26; refine (Try.maps_Keys_26 _ _).mono ?_; rintro e w' ⟨rfl, rfl⟩)
    | (gi_at_call 25; refine (Try.slices_Sorted_keys cb T.cl.length D asNil w Hown.out (by rw [Hsz.out]; simp only [maxLen]; omega) (by rw [Hsz.out]; omega)).mono ?_; rintro e w' ⟨v, ss, rfl, hS, hrow, hnil, hb⟩))
  go_ret
  have hP : ss.Perm (T.cl.map Prod.fst) := hS.trans Hperm.out
  have hl : ss.length = T.cl.length := by rw [hP.length_eq]; simp
  have hi : ss.mergeSort (fun x y => decide (x ≤ y)) = ikeys T.cl := mergeSort_of_perm_i hP
  refine ⟨v, rfl, ?_, ?_, ?_⟩
  · have := ownsRow_base_a hrow (show w.heap.size ≤ _ by simp)
    rw [hl, hi] at this
    rw [ikeys_length]
    exact this
  · rw [hnil]
    constructor
    · intro e; subst e; exact List.eq_nil_of_length_eq_zero (by rw [ikeys_length]; exact hl.symm)
    · intro e; have := congrArg List.length e; rw [ikeys_length] at this; exact List.eq_nil_of_length_eq_zero (by rw [hl]; exact this)
  · exact Ext.of_below (((Below.refl _ w).alloc (Nat.le_refl _) _).trans (hb.mono (by simp)))
end Go.Proofs.Ythligdgkhmgagaa
