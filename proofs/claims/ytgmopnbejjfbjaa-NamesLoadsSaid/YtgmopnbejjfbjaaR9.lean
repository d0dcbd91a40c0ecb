/-
  Package names: Names returns the names in increasing order, in memory of its own. Conditions: the registry stands as IsReg says.
-/
import Derived.Test.YtgmopnbejjfbjaaR8
namespace Go.Proofs.Ytgmopnbejjfbjaa
open Go.RowKit Go.MapKept
open Go.ChangeMaps (setBlock)

def toL (k : ByteArray) : List UInt8 := k.data.toList
def ofL (l : List UInt8) : ByteArray := ⟨l.toArray⟩
theorem of_toL (k : ByteArray) : ofL (toL k) = k := rfl
theorem to_ofL (l : List UInt8) : toL (ofL l) = l := by simp [toL, ofL]
def cfL (x y : List UInt8) : Int := cmpS (ofL x) (ofL y)
theorem ltOf_cfL (x y : List UInt8) : ltOf cfL x y = !leS (ofL y) (ofL x) := by
  unfold ltOf cfL cmpS
  cases leS (ofL y) (ofL x) <;> cases leS (ofL x) (ofL y) <;> rfl
theorem swo_cfL : Sort.SWO (ltOf cfL) :=
  ⟨fun x => by rw [ltOf_cfL]; cases h : leS (ofL x) (ofL x) with
    | true => rfl
    | false => exact absurd h (linS.lt_irrefl _),
   fun x y z h1 h2 => by
    rw [ltOf_cfL] at *
    simp only [Bool.not_eq_true'] at *
    exact linS.lt_trans h1 h2,
   fun x y z h1 h2 => by
    rw [ltOf_cfL] at *
    simp only [Bool.not_eq_false'] at *
    exact linS.trans _ _ _ h2 h1⟩
theorem tot_cfL (x y : List UInt8) (h1 : ltOf cfL x y = false) (h2 : ltOf cfL y x = false) : x = y := by
  rw [ltOf_cfL] at *
  simp only [Bool.not_eq_false'] at *
  have := linS.anti _ _ h1 h2
  rw [← to_ofL x, ← to_ofL y, this]
theorem sort_names {ks S : List ByteArray} (hp : ks.Perm S) (hS : S.Pairwise (fun a b => leS a b = true)) : (ks.map toL).mergeSort (fun x y => !(ltOf cfL) y x) = S.map toL := by
  have h1 : ((ks.map toL).mergeSort (fun x y => !(ltOf cfL) y x)).Pairwise (fun x y => (!(ltOf cfL) y x) = true) :=
    List.pairwise_mergeSort (le := fun x y => !(ltOf cfL) y x) (fun a b c => by simp only [ltOf_cfL, Bool.not_not]; exact linS.trans _ _ _) (fun a b => by simp only [ltOf_cfL, Bool.not_not]; exact linS.total _ _) _
  have h2 : (S.map toL).Pairwise (fun x y => (!(ltOf cfL) y x) = true) := by
    rw [List.pairwise_map]
    exact hS.imp (fun {a b} h => by rw [ltOf_cfL, of_toL, of_toL, h]; rfl)
  refine List.Perm.eq_of_pairwise (le := fun x y => (!(ltOf cfL) y x) = true) (fun p q _ _ a b => ?_) h1 h2 ((List.mergeSort_perm _ _).trans (hp.map _))
  exact tot_cfL _ _ (by simpa using b) (by simpa using a)
def NamesPost (w : World) (ks : List ByteArray) (r : Ending) (w' : World) : Prop :=
  ∃ v, r = .returned v ∧ w'.ownsRow 0 9 1 v ks.length (ks.map Value.string) ∧ Ext (fun _ => False) w w' ∧ ∀ g, v.ownBlock = some g → w.heap.size ≤ g
theorem Try.infoStr : (Try.prog.info? 9).map (fun i => (i.zero, i.size, i.bytes)) = some (some (.string .empty), 1, 16) := by kernel_rfl
theorem IsReg.nodup {w : World} {rb mb : Nat} {L : List (ByteArray × Slot)} (h : IsReg w rb mb L) : ((regM L).map Prod.fst).Nodup := by
  obtain ⟨_, ⟨es, clock, _, hl⟩, _⟩ := h
  have h1 := hl.2.2.2
  have h2 : es.toList.map (·.key) = (L.map Prod.fst).map Value.string := by
    have := congrArg (List.map Prod.fst) hl.1
    simpa [Function.comp_def] using this
  rw [h2] at h1
  have h3 : (L.map Prod.fst).Nodup := List.Pairwise.of_map Value.string (fun a b h e => h (by rw [e])) h1
  unfold regM
  rw [List.map_map]
  exact h3
def namesM (M : List (ByteArray × List Ep)) : List ByteArray := (ksort leS M).map Prod.fst
theorem namesM_sorted (M : List (ByteArray × List Ep)) : (namesM M).Pairwise (fun a b => leS a b = true) := by
  unfold namesM
  rw [List.pairwise_map]
  exact List.pairwise_mergeSort (le := fun p q : ByteArray × List Ep => leS p.1 q.1) (fun a b c => linS.trans _ _ _) (fun a b => linS.total _ _) M
theorem namesM_perm (M : List (ByteArray × List Ep)) : (namesM M).Perm (M.map Prod.fst) := (ksort_perm M).map _
/-- slices.SortFunc at names -/
theorem sortnames_any (w : World) (v : Value) (ks S : List ByteArray) (hown : w.ownsRow 0 9 1 v ks.length (ks.map Value.string)) (hl : ks.length ≤ 1000000) (hp : ks.Perm S) (hS : S.Pairwise (fun a b => leS a b = true)) :
    Calls Try.prog 38 #[v, .func (.func 39) #[] #[]] w fun r w' => r = .returned (.tuple #[]) ∧ w'.ownsRow 0 9 1 v S.length (S.map Value.string) ∧ Ext (fun b => v.ownBlock = some b) w w' := by
  have hlen := hp.length_eq
  rcases hown.2 with ⟨rfl, h0⟩ | ⟨g, cap, cur, rfl, _, hb, h1, h2, h3, h4⟩
  · have hk : ks = [] := List.eq_nil_of_length_eq_zero h0
    subst hk
    have hS0 : S = [] := List.eq_nil_of_length_eq_zero (by simpa using hlen.symm)
    subst hS0
    refine (Try.slices_SortFunc_none (α := Nat) none 0 _ w).mono ?_
    rintro r w' ⟨rfl, rfl⟩
    exact ⟨rfl, hown, Ext.refl _ _⟩
  · have hks : ks.map Value.string = (ks.map toL).map encStr := by rw [List.map_map]; rfl
    have hc := Try.slices_SortFunc_total (α := List UInt8) encStr (fun _ => rfl) cfL swo_cfL 39 #[] g 0 cap (ks.map toL).toArray w
      (enters_of Try.func39 (by decide) rfl)
      (CmpReads.lays (fun m os dk hs x y => (names1_any (ofL x) (ofL y) _).mono (fun e w' h => ⟨h.1, 0, h.2⟩)))
      (holds_of_block hb (by rw [List.length_map, ← hks]; simpa using h4)) (Array.getElem?_eq_some_iff.1 hb).1 (by simp; omega) tot_cfL
    have hsz : (ks.map toL).toArray.size = ks.length := by simp
    rw [hsz] at hc
    refine hc.mono ?_
    rintro r w' ⟨rfl, n, os, rfl⟩
    have ht : (ks.map toL).toArray.toList.mergeSort (fun x y => !(ltOf cfL) y x) = S.map toL := sort_names hp hS
    rw [ht]
    refine ⟨rfl, ?_, (Ext.refl _ w).grown (grownBy_sorted _) (fun k hk _ => hk)⟩
    have := ownsRow_sorted (w := w) (base := 0) (g := g) (cap := cap) (n := n) (e := 9) (os := os) (cur := cur) (ss := ks.map toL) (ts := S.map toL) (by simp; exact hlen.symm) (Nat.zero_le _) hb (by simpa using h1) h2 h3
    rw [List.length_map] at this
    rw [← hlen]
    have e : S.map Value.string = (S.map toL).map encStr := by rw [List.map_map]; rfl
    rw [e]
    exact this
end Go.Proofs.Ytgmopnbejjfbjaa
