/-
  General lemmas on worlds, maps with string keys and slices of structs, used by every walk of this seat. Conditions: none beyond each lemma's own.
-/
import Derived.WalkKit
import Derived.WalkSpells
import Derived.WalkLawsBesides
import Derived.ProofKit
import Derived.Deep.QuietTactic
import Derived.BigQuiet
import Derived.Lib.Hide
import Derived.StillTailTactics
namespace Go.Proofs.Ythligdgkhmgagaa
open Go.RowKit Go.MapKept
open Go.ChangeMaps (setBlock)

theorem ret_bool {a b : Bool} (h : a = b) : Ending.returned (.bool a) = .returned (.bool b) := by rw [h]
theorem ret_int {k : IntKind} {a b : Int} (h : a = b) : Ending.returned (.int k a) = .returned (.int k b) := by rw [h]
/-! ### worlds: what may have changed -/
/-- 'w' is w with new blocks; of the old blocks at most those of which S holds have turned. -/
structure Ext (S : Nat → Prop) (w w' : World) : Prop where
  os : w'.os = w.os
  tape : w'.tape = w.tape
  output : w'.output = w.output
  size : w.heap.size ≤ w'.heap.size
  block : ∀ k, k < w.heap.size → ¬ S k → w'.heap[k]? = w.heap[k]?

theorem Ext.refl (S : Nat → Prop) (w : World) : Ext S w w := ⟨rfl, rfl, rfl, Nat.le_refl _, fun _ _ _ => rfl⟩
theorem Ext.trans {S : Nat → Prop} {a b c : World} (h : Ext S a b) (k : Ext S b c) : Ext S a c :=
  ⟨k.os.trans h.os, k.tape.trans h.tape, k.output.trans h.output, Nat.le_trans h.size k.size,
   fun i hi hn => (k.block i (Nat.lt_of_lt_of_le hi h.size) hn).trans (h.block i hi hn)⟩
theorem Ext.mono {S T : Nat → Prop} {a b : World} (h : Ext S a b) (hs : ∀ k, k < a.heap.size → S k → T k) : Ext T a b :=
  ⟨h.os, h.tape, h.output, h.size, fun k hk hn => h.block k hk (fun hS => hn (hs k hk hS))⟩
/-- a step that may turn blocks which were not there at first -/
theorem Ext.trans' {S T : Nat → Prop} {a b c : World} (h : Ext S a b) (k : Ext T b c) (hT : ∀ k, k < a.heap.size → T k → S k) : Ext S a c :=
  ⟨k.os.trans h.os, k.tape.trans h.tape, k.output.trans h.output, Nat.le_trans h.size k.size,
   fun i hi hn => (k.block i (Nat.lt_of_lt_of_le hi h.size) (fun ht => hn (hT i hi ht))).trans (h.block i hi hn)⟩
theorem Ext.drew {S : Nat → Prop} {a w : World} (h : Ext S a w) : Ext S a w.drew := ⟨h.os, h.tape, h.output, h.size, h.block⟩
theorem Ext.drewN {S : Nat → Prop} {a w : World} (h : Ext S a w) (n : Nat) : Ext S a (w.drewN n) := ⟨h.os, h.tape, h.output, h.size, h.block⟩
theorem Ext.alloc {S : Nat → Prop} {a w : World} (h : Ext S a w) (o : Obj) : Ext S a (w.alloc o) :=
  h.trans ⟨rfl, rfl, rfl, by simp, fun k hk _ => Below.heap_alloc _ _ _ hk⟩
theorem Ext.setCell {S : Nat → Prop} {a w : World} (h : Ext S a w) {p : Addr} (u : Value) (hp : p.block < a.heap.size → S p.block) : Ext S a (w.setCell p u) :=
  h.trans' (T := fun k => k = p.block) ⟨rfl, rfl, rfl, by simp [World.setCell], fun k hk hn => Below.heap_setCell _ _ _ _ hn⟩ (fun k hk e => by subst e; exact hp hk)
theorem Ext.setBlock {S : Nat → Prop} {a w : World} (h : Ext S a w) (b : Nat) (o : Obj) (hb : b < a.heap.size → S b) : Ext S a (setBlock w b o) :=
  h.trans' (T := fun k => k = b) ⟨rfl, rfl, rfl, by simp [ChangeMaps.setBlock], fun k hk hn => by simp [ChangeMaps.setBlock, Ne.symm hn]⟩ (fun k hk e => by subst e; exact hb hk)
theorem Ext.grown {S : Nat → Prop} {a w w' : World} {row : Option Nat} (h : Ext S a w) (hg : w.grownBy w' row) (hr : ∀ k, row = some k → k < a.heap.size → S k) : Ext S a w' :=
  h.trans' (T := fun k => row = some k) ⟨hg.os, hg.tape, hg.output, hg.size, fun k hk hn => hg.block k hk (fun e => hn e.symm)⟩ (fun k hk e => hr k e hk)
theorem Ext.below {w w' : World} (h : Ext (fun _ => False) w w') : Below w.heap.size w w' :=
  ⟨h.os, h.tape, h.output, h.size, fun k hk => h.block k hk id⟩
theorem Ext.cell {S : Nat → Prop} {w w' : World} (h : Ext S w w') {p : Addr} (hp : p.block < w.heap.size) (hn : ¬ S p.block) : w'.cell? p = w.cell? p :=
  World.cell?_of_block (w := w) (h.block _ hp hn)
theorem Ext.frozen {S : Nat → Prop} {w w' : World} (h : Ext S w w') {p : Addr} (hp : p.block < w.heap.size) (hn : ¬ S p.block) : w'.frozen? p = w.frozen? p :=
  World.frozen?_of_block (w := w) (h.block _ hp hn)

/-! ### what a block holds, in the walk's spellings -/
/-- the block's content, under a name of its own: simp turns 'w.heap[b]?' into 'w.heap[b]' where a bound is at hand -/
def blk (w : World) (b : Nat) : Option Obj := w.heap[b]?
theorem blk_lt {w : World} {b : Nat} {o : Obj} (h : blk w b = some o) : b < w.heap.size := (Array.getElem?_eq_some_iff.1 h).1
@[go_sem] theorem blk_drew (w : World) (k : Nat) : blk w.drew k = blk w k := rfl
@[go_sem] theorem blk_drewN (w : World) (n k : Nat) : blk (w.drewN n) k = blk w k := rfl
theorem blk_alloc_past (w : World) (o : Obj) (k : Nat) (h : k < w.heap.size) : blk (w.alloc o) k = blk w k := Below.heap_alloc _ _ _ h
theorem blk_alloc_at (w : World) (o : Obj) : blk (w.alloc o) w.heap.size = some o := (MapKept.heap_alloc w o).1
/-- without a side condition: simp's side goals may lie two deep alone; 'ne_sizes' gives what decides the tests -/
@[go_sem] theorem blk_alloc_if (w : World) (o : Obj) (k : Nat) : blk (w.alloc o) k = if k = w.heap.size then some o else blk w k := by
  split
  · rename_i h; subst h; exact blk_alloc_at w o
  · rename_i h
    unfold blk
    show (w.heap.push o)[k]? = _
    rw [Array.getElem?_push, if_neg h]
theorem ne_sizes {k n : Nat} (h : k < n) : k ≠ n ∧ k ≠ n + 1 ∧ k ≠ n + 1 + 1 ∧ k ≠ n + 1 + 1 + 1 ∧ k ≠ n + 1 + 1 + 1 + 1 ∧ k ≠ n + 1 + 1 + 1 + 1 + 1 := by omega
theorem lt_sizes {k n : Nat} (h : k < n) : k < n + 1 ∧ k < n + 1 + 1 ∧ k < n + 1 + 1 + 1 ∧ k < n + 1 + 1 + 1 + 1 ∧ k < n + 1 + 1 + 1 + 1 + 1 := by omega
theorem blk_setCell_other (w : World) (a : Addr) (v : Value) (k : Nat) (h : k ≠ a.block) : blk (w.setCell a v) k = blk w k := Below.heap_setCell _ _ _ _ h
theorem blk_setBlock_same {w : World} {b : Nat} {o : Obj} (h : blk w b = some o) (o' : Obj) : blk (setBlock w b o') b = some o' := by
  have := blk_lt h
  simp [blk, ChangeMaps.setBlock, this]
theorem blk_setBlock_other (w : World) (b : Nat) (o : Obj) (k : Nat) (h : k ≠ b) : blk (setBlock w b o) k = blk w k := by
  simp [blk, ChangeMaps.setBlock, Ne.symm h]
theorem Ext.blk {S : Nat → Prop} {w w' : World} (h : Ext S w w') {k : Nat} (hk : k < w.heap.size) (hn : ¬ S k) : blk w' k = blk w k := h.block k hk hn
theorem cell_of_cells {w : World} {b : Nat} {c : Array Value} {t : TypeId} {f : Nat × Nat} (h : blk w b = some (.cells c t f)) (i : Nat) : w.cell? ⟨b, i, none⟩ = c[i]? := by
  unfold Proofs.Ythligdgkhmgagaa.blk at h
  simp [World.cell?, h]
theorem free_of_cells {w : World} {b : Nat} {c : Array Value} {t : TypeId} (h : blk w b = some (.cells c t (0, 0))) (i : Nat) : w.frozen? ⟨b, i, none⟩ = false := by
  unfold Proofs.Ythligdgkhmgagaa.blk at h
  simp [World.frozen?, h]
theorem blk_setCell_same {w : World} {b : Nat} {c : Array Value} {t : TypeId} {f : Nat × Nat} (h : blk w b = some (.cells c t f)) (i : Nat) (v : Value) :
    blk (w.setCell ⟨b, i, none⟩ v) b = some (.cells (c.setIfInBounds i v) t f) := by
  unfold Proofs.Ythligdgkhmgagaa.blk at *
  simp [World.setCell, Array.getElem?_modify, h]

/-- what a cell holds behind a store, the two addresses compared -/
theorem cell?_setCell_if (w : World) (b i b' j : Nat) (v : Value) : (w.setCell ⟨b, i, none⟩ v).cell? ⟨b', j, none⟩ = if b = b' ∧ i = j then (w.cell? ⟨b, i, none⟩).map (fun _ => v) else w.cell? ⟨b', j, none⟩ := by
  by_cases h : b = b' ∧ i = j
  · obtain ⟨rfl, rfl⟩ := h
    rw [if_pos ⟨rfl, rfl⟩]
    cases hc : w.cell? ⟨b, i, none⟩ with
    | some u => rw [World.cell?_setCell_same w _ v hc]; rfl
    | none =>
      simp only [Option.map_none]
      simp only [World.setCell, World.cell?, Array.getElem?_modify, ↓reduceIte] at *
      cases hb : w.heap[b]? with
      | none => simp
      | some o => cases o <;> simp_all
  · rw [if_neg h]
    exact World.cell?_setCell_other w _ _ v (fun e => h (by cases e; exact ⟨rfl, rfl⟩))
theorem ownsRow_mono {w : World} {base base' : Nat} {e : TypeId} {size : Nat} {v : Value} {n : Nat} {xs : List Value} (h : w.ownsRow base e size v n xs) (hb : base' ≤ base) : w.ownsRow base' e size v n xs := by
  refine ⟨h.1, ?_⟩
  rcases h.2 with h2 | ⟨g, cap, cur, h1, h2, r⟩
  · exact .inl h2
  · exact .inr ⟨g, cap, cur, h1, Nat.le_trans hb h2, r⟩
/-- a slice reads on as it did, where its block has not turned -/
theorem ownsRow_ext {S : Nat → Prop} {w w' : World} {base : Nat} {e : TypeId} {size : Nat} {v : Value} {n : Nat} {xs : List Value} (h : w.ownsRow base e size v n xs) (hx : Ext S w w') (hn : ∀ g, v.ownBlock = some g → ¬ S g) : w'.ownsRow base e size v n xs := by
  refine ⟨h.1, ?_⟩
  rcases h.2 with h2 | ⟨g, cap, cur, rfl, h2, h3, r⟩
  · exact .inl h2
  · exact .inr ⟨g, cap, cur, rfl, h2, (hx.block g (Array.getElem?_eq_some_iff.1 h3).1 (hn g rfl)).trans h3, r⟩
/-- the cells of a block that has just been laid, for the laws on append -/
theorem cells_new {w : World} {b : Nat} (cs : List Value) (t : TypeId) (hb : b = w.heap.size) : ∀ j u, cs[j]? = some u → (w.alloc (.cells cs.toArray t)).cell? ((⟨b, 0, none⟩ : Addr).add j) = some u := by
  intro j u h
  subst hb
  rw [Addr.add_lit, Nat.zero_add, World.cell?_alloc_new]
  simpa using h
theorem bytes_ne {a b : ByteArray} (h : ¬ a = b) : (a.toList == b.toList) = false := by
  cases hq : a.toList == b.toList
  · rfl
  · refine absurd ?_ h
    have := eq_of_beq hq
    rw [ByteArray.toList_eq, ByteArray.toList_eq] at this
    cases a; cases b; simp_all
theorem bytes_eq {a b : ByteArray} (h : a = b) : (a.toList == b.toList) = true := by subst h; simp
/-- 'wp_region_still_tail', the draw under the walk's own name -/
theorem wp_region_tail {P : Program} {w : World} {id : Nat} {Q : Exit → Act → World → Prop} {a : Act} {l : List Oper} (n : Nat) (hm : P.follows .mixedOrders = true) (hB : Region.lexTailB .any l.toArray n = true)
    (h : wpStill P l.toArray w.drew (fun a' => wpList P l.toArray Q (l.drop n) a' w.drew) (l.take n) a) : (Code.region id l.toArray true).wp P Q a w :=
  wp_region_still_tail n hm hB h
/-! ### a map with string keys, as the list of its entries -/
section
variable {α : Type}
/-- the value at a key, the first one -/
def assoc : List (ByteArray × α) → ByteArray → Option α
  | [], _ => none
  | (k, v) :: r, s => if k = s then some v else assoc r s
/-- a value laid at a key: in its place, or at the end -/
def aput : List (ByteArray × α) → ByteArray → α → List (ByteArray × α)
  | [], s, v => [(s, v)]
  | (k, x) :: r, s, v => if k = s then (k, v) :: r else (k, x) :: aput r s v
end
/-- the block's entries, in order: a list of keys and values -/
def StrMap (es : Array MapEntry) (l : List (ByteArray × Value)) : Prop :=
  es.toList.map (fun e => (e.key, e.val)) = l.map fun p => (Value.string p.1, p.2)

theorem findNow_str (s : ByteArray) : ∀ (es : List MapEntry) (l : List (ByteArray × Value)) (i : Nat), es.map (fun e => (e.key, e.val)) = (l.map fun p => (Value.string p.1, p.2)) →
    (assoc l s = none ∧ Instr.findNow .string (.string s) es i = some none ∧ ∀ v, aput l s v = l ++ [(s, v)]) ∨
    ∃ j e v, assoc l s = some v ∧ Instr.findNow .string (.string s) es i = some (some (i + j, v)) ∧ es[j]? = some e ∧ e.key = .string s ∧
      ∀ u, (es.modify j fun e => { e with key := .string s, val := u }).map (fun e => (e.key, e.val)) = (aput l s u).map fun p => (Value.string p.1, p.2)
  | [], [], i, _ => .inl ⟨rfl, rfl, fun _ => rfl⟩
  | [], _ :: _, _, h => by simp at h
  | _ :: _, [], _, h => by simp at h
  | e :: es, (k, v) :: l, i, h => by
    simp only [List.map_cons, List.cons.injEq, Prod.mk.injEq] at h
    obtain ⟨⟨hk, hv⟩, hr⟩ := h
    by_cases hs : k = s
    · subst hs
      refine .inr ⟨0, e, v, by simp [assoc], by simp [Instr.findNow, Instr.sameNow, hk, hv, (bytes_beq k k).2 rfl], rfl, hk, fun u => ?_⟩
      simp [aput, hr]
    · have hne : (s == k) = false := by
        cases hq : s == k
        · rfl
        · exact absurd ((bytes_beq s k).1 hq).symm hs
      rcases findNow_str s es l (i + 1) hr with ⟨h1, h2, h3⟩ | ⟨j, e', v', h1, h2, h3, h4, h5⟩
      · exact .inl ⟨by simp [assoc, hs, h1], by simp [Instr.findNow, Instr.sameNow, hk, hne, h2], fun v => by simp [aput, hs, h3]⟩
      · refine .inr ⟨j + 1, e', v', by simp [assoc, hs, h1], by simp [Instr.findNow, Instr.sameNow, hk, hne, h2]; omega, by simpa using h3, h4, fun u => ?_⟩
        have := h5 u
        simp [aput, hs, hk, hv, this]

section
variable {P : Program} {t k e : TypeId} {w : World} {b : Nat} {es : Array MapEntry} {clock : Nat} {l : List (ByteArray × Value)}
theorem run_lookup_str (ht : P.underlying t = some (.map k e)) (hk : P.underlying k = some .string) (hb : blk w b = some (.map es clock)) (hl : StrMap es l)
    {z : Value} (hz : (zeroValue e).run P w = .ok z w) (s : ByteArray) (ok : Bool) :
    (Instr.lookup t (.map (some b)) (.string s) ok).run P w = .ok (if ok then .tuple #[(assoc l s).getD z, .bool (assoc l s).isSome] else (assoc l s).getD z) w := by
  rcases findNow_str s es.toList l 0 hl with ⟨h1, h2, _⟩ | ⟨j, e', v, h1, h2, _⟩
  · simp [Instr.lookup, run_underlying ht, MapKept.run_getObj_map hb, MapKept.run_checkKey hk (show IsKey .string (.string s) from trivial), MapKept.run_findKey hk h2, Result.andThen, hz, h1]
  · simp [Instr.lookup, run_underlying ht, MapKept.run_getObj_map hb, MapKept.run_checkKey hk (show IsKey .string (.string s) from trivial), MapKept.run_findKey hk h2, Result.andThen, h1]

theorem run_lookup_nil (ht : P.underlying t = some (.map k e)) (hk : P.underlying k = some .string)
    {z : Value} (hz : (zeroValue e).run P w = .ok z w) (s : ByteArray) (ok : Bool) :
    (Instr.lookup t (.map none) (.string s) ok).run P w = .ok (if ok then .tuple #[z, .bool false] else z) w := by
  simp [Instr.lookup, run_underlying ht, MapKept.run_checkKey hk (show IsKey .string (.string s) from trivial), Instr.findKey, run_underlying hk, Instr.findNow, Result.andThen, hz]

/-- the block behind a store at a key: the same whatever the world -/
theorem run_update_str (ht : P.underlying t = some (.map k e)) (hk : P.underlying k = some .string) (hl : StrMap es l) (s : ByteArray) (u : Value) :
    ∃ es' clock', (∀ w : World, blk w b = some (.map es clock) → (Instr.mapUpdate t (.map (some b)) (.string s) u).run P w = .ok () (setBlock w b (.map es' clock'))) ∧ StrMap es' (aput l s u) := by
  rcases findNow_str s es.toList l 0 hl with ⟨h1, h2, h3⟩ | ⟨j, e', v, h1, h2, h4, h5, h6⟩
  · refine ⟨es.push { key := .string s, val := u, born := clock }, clock + 1, fun w hb => ?_, ?_⟩
    · simp [Instr.mapUpdate, run_underlying ht, MapKept.run_getObj_map hb, MapKept.run_checkKey hk (show IsKey .string (.string s) from trivial), MapKept.run_findKey hk h2, Result.andThen, MapKept.run_setObj_map _ hb, ChangeMaps.setBlock]
    · unfold StrMap at *
      simp [hl, h3]
  · refine ⟨es.modify j fun e => { e with key := .string s, val := u }, clock, fun w hb => ?_, ?_⟩
    · have h4' : es[j]? = some e' := by simpa using h4
      simp only [Nat.zero_add] at h2
      simp [Instr.mapUpdate, run_underlying ht, MapKept.run_getObj_map hb, MapKept.run_checkKey hk (show IsKey .string (.string s) from trivial), MapKept.run_findKey hk h2, Result.andThen, MapKept.run_setObj_map _ hb, ChangeMaps.setBlock, h4', h5, run_keyThatStays (show IsKey .string (.string s) from trivial)]
    · unfold StrMap
      have := h6 u
      rw [Array.toList_modify]
      exact this
end
end Go.Proofs.Ythligdgkhmgagaa
