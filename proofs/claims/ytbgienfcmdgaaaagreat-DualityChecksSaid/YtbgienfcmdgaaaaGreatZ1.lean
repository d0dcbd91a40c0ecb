/-
  General lemmas on worlds, maps with string keys and slices of structs, used by every walk of this seat. Conditions: none beyond each lemma's own.
-/
import Derived.WalkKit
import Derived.WalkSpells
import Derived.WalkLawsBesides
import Derived.ProofKit
import Derived.Deep.QuietTactic
import Derived.BigQuiet
import Derived.Lib.Hide
import Derived.StillTailTactics
import Derived.Test.YtbgienfcmdgaaaaGreatProg
import Derived.Deep.LoopGhost
import Derived.Deep.CutBlock
import Derived.Deep.DeepCutAuto
import Derived.Deep.RegionHeld3
import Derived.Deep.AppendLies
import Derived.Maps.AppendAt
import Derived.Laws.AppendOwnNone
import Derived.Laws.Bits64
import Derived.Deep.RegionLaw
import Derived.Lib.SliceRun
import Derived.Laws.MakeOwn
import Derived.Laws.OwnMore
set_option linter.unusedVariables false
namespace Go.Proofs.YtbgienfcmdgaaaaGreat
open Go.RowKit Go.MapKept
open Go.ChangeMaps (setBlock)

theorem ret_bool {a b : Bool} (h : a = b) : Ending.returned (.bool a) = .returned (.bool b) := by rw [h]
theorem ret_int {k : IntKind} {a b : Int} (h : a = b) : Ending.returned (.int k a) = .returned (.int k b) := by rw [h]
/-! ### worlds: what may have changed -/
/-- 'w' is w with new blocks; of the old blocks at most those of which S holds have turned. -/
structure Ext (S : Nat → Prop) (w w' : World) : Prop where
  os : w'.os = w.os
  tape : w'.tape = w.tape
  output : w'.output = w.output
  size : w.heap.size ≤ w'.heap.size
  block : ∀ k, k < w.heap.size → ¬ S k → w'.heap[k]? = w.heap[k]?

theorem Ext.refl (S : Nat → Prop) (w : World) : Ext S w w := ⟨rfl, rfl, rfl, Nat.le_refl _, fun _ _ _ => rfl⟩
theorem Ext.trans {S : Nat → Prop} {a b c : World} (h : Ext S a b) (k : Ext S b c) : Ext S a c :=
  ⟨k.os.trans h.os, k.tape.trans h.tape, k.output.trans h.output, Nat.le_trans h.size k.size,
   fun i hi hn => (k.block i (Nat.lt_of_lt_of_le hi h.size) hn).trans (h.block i hi hn)⟩
theorem Ext.mono {S T : Nat → Prop} {a b : World} (h : Ext S a b) (hs : ∀ k, k < a.heap.size → S k → T k) : Ext T a b :=
  ⟨h.os, h.tape, h.output, h.size, fun k hk hn => h.block k hk (fun hS => hn (hs k hk hS))⟩
/-- a step that may turn blocks which were not there at first -/
theorem Ext.trans' {S T : Nat → Prop} {a b c : World} (h : Ext S a b) (k : Ext T b c) (hT : ∀ k, k < a.heap.size → T k → S k) : Ext S a c :=
  ⟨k.os.trans h.os, k.tape.trans h.tape, k.output.trans h.output, Nat.le_trans h.size k.size,
   fun i hi hn => (k.block i (Nat.lt_of_lt_of_le hi h.size) (fun ht => hn (hT i hi ht))).trans (h.block i hi hn)⟩
theorem Ext.drew {S : Nat → Prop} {a w : World} (h : Ext S a w) : Ext S a w.drew := ⟨h.os, h.tape, h.output, h.size, h.block⟩
theorem Ext.drewN {S : Nat → Prop} {a w : World} (h : Ext S a w) (n : Nat) : Ext S a (w.drewN n) := ⟨h.os, h.tape, h.output, h.size, h.block⟩
theorem Ext.alloc {S : Nat → Prop} {a w : World} (h : Ext S a w) (o : Obj) : Ext S a (w.alloc o) :=
  h.trans ⟨rfl, rfl, rfl, by simp, fun k hk _ => Below.heap_alloc _ _ _ hk⟩
theorem Ext.setCell {S : Nat → Prop} {a w : World} (h : Ext S a w) {p : Addr} (u : Value) (hp : p.block < a.heap.size → S p.block) : Ext S a (w.setCell p u) :=
  h.trans' (T := fun k => k = p.block) ⟨rfl, rfl, rfl, by simp [World.setCell], fun k hk hn => Below.heap_setCell _ _ _ _ hn⟩ (fun k hk e => by subst e; exact hp hk)
theorem Ext.setBlock {S : Nat → Prop} {a w : World} (h : Ext S a w) (b : Nat) (o : Obj) (hb : b < a.heap.size → S b) : Ext S a (setBlock w b o) :=
  h.trans' (T := fun k => k = b) ⟨rfl, rfl, rfl, by simp [ChangeMaps.setBlock], fun k hk hn => by simp [ChangeMaps.setBlock, Ne.symm hn]⟩ (fun k hk e => by subst e; exact hb hk)
theorem Ext.grown {S : Nat → Prop} {a w w' : World} {row : Option Nat} (h : Ext S a w) (hg : w.grownBy w' row) (hr : ∀ k, row = some k → k < a.heap.size → S k) : Ext S a w' :=
  h.trans' (T := fun k => row = some k) ⟨hg.os, hg.tape, hg.output, hg.size, fun k hk hn => hg.block k hk (fun e => hn e.symm)⟩ (fun k hk e => hr k e hk)
theorem Ext.below {w w' : World} (h : Ext (fun _ => False) w w') : Below w.heap.size w w' :=
  ⟨h.os, h.tape, h.output, h.size, fun k hk => h.block k hk id⟩
theorem Ext.cell {S : Nat → Prop} {w w' : World} (h : Ext S w w') {p : Addr} (hp : p.block < w.heap.size) (hn : ¬ S p.block) : w'.cell? p = w.cell? p :=
  World.cell?_of_block (w := w) (h.block _ hp hn)
theorem Ext.frozen {S : Nat → Prop} {w w' : World} (h : Ext S w w') {p : Addr} (hp : p.block < w.heap.size) (hn : ¬ S p.block) : w'.frozen? p = w.frozen? p :=
  World.frozen?_of_block (w := w) (h.block _ hp hn)

/-! ### what a block holds, in the walk's spellings -/
/-- the block's content, under a name of its own: simp turns 'w.heap[b]?' into 'w.heap[b]' where a bound is at hand -/
def blk (w : World) (b : Nat) : Option Obj := w.heap[b]?
theorem blk_lt {w : World} {b : Nat} {o : Obj} (h : blk w b = some o) : b < w.heap.size := (Array.getElem?_eq_some_iff.1 h).1
@[go_sem] theorem blk_drew (w : World) (k : Nat) : blk w.drew k = blk w k := rfl
@[go_sem] theorem blk_drewN (w : World) (n k : Nat) : blk (w.drewN n) k = blk w k := rfl
theorem blk_alloc_past (w : World) (o : Obj) (k : Nat) (h : k < w.heap.size) : blk (w.alloc o) k = blk w k := Below.heap_alloc _ _ _ h
theorem blk_alloc_at (w : World) (o : Obj) : blk (w.alloc o) w.heap.size = some o := (MapKept.heap_alloc w o).1
/-- without a side condition: simp's side goals may lie two deep alone; 'ne_sizes' gives what decides the tests -/
@[go_sem] theorem blk_alloc_if (w : World) (o : Obj) (k : Nat) : blk (w.alloc o) k = if k = w.heap.size then some o else blk w k := by
  split
  · rename_i h; subst h; exact blk_alloc_at w o
  · rename_i h
    unfold blk
    show (w.heap.push o)[k]? = _
    rw [Array.getElem?_push, if_neg h]
theorem ne_sizes {k n : Nat} (h : k < n) : k ≠ n ∧ k ≠ n + 1 ∧ k ≠ n + 1 + 1 ∧ k ≠ n + 1 + 1 + 1 ∧ k ≠ n + 1 + 1 + 1 + 1 ∧ k ≠ n + 1 + 1 + 1 + 1 + 1 := by omega
theorem lt_sizes {k n : Nat} (h : k < n) : k < n + 1 ∧ k < n + 1 + 1 ∧ k < n + 1 + 1 + 1 ∧ k < n + 1 + 1 + 1 + 1 ∧ k < n + 1 + 1 + 1 + 1 + 1 := by omega
theorem blk_setCell_other (w : World) (a : Addr) (v : Value) (k : Nat) (h : k ≠ a.block) : blk (w.setCell a v) k = blk w k := Below.heap_setCell _ _ _ _ h
theorem blk_setBlock_same {w : World} {b : Nat} {o : Obj} (h : blk w b = some o) (o' : Obj) : blk (setBlock w b o') b = some o' := by
  have := blk_lt h
  simp [blk, ChangeMaps.setBlock, this]
theorem blk_setBlock_other (w : World) (b : Nat) (o : Obj) (k : Nat) (h : k ≠ b) : blk (setBlock w b o) k = blk w k := by
  simp [blk, ChangeMaps.setBlock, Ne.symm h]
theorem Ext.blk {S : Nat → Prop} {w w' : World} (h : Ext S w w') {k : Nat} (hk : k < w.heap.size) (hn : ¬ S k) : blk w' k = blk w k := h.block k hk hn
theorem cell_of_cells {w : World} {b : Nat} {c : Array Value} {t : TypeId} {f : Nat × Nat} (h : blk w b = some (.cells c t f)) (i : Nat) : w.cell? ⟨b, i, none⟩ = c[i]? := by
  unfold Proofs.YtbgienfcmdgaaaaGreat.blk at h
  simp [World.cell?, h]
theorem free_of_cells {w : World} {b : Nat} {c : Array Value} {t : TypeId} (h : blk w b = some (.cells c t (0, 0))) (i : Nat) : w.frozen? ⟨b, i, none⟩ = false := by
  unfold Proofs.YtbgienfcmdgaaaaGreat.blk at h
  simp [World.frozen?, h]
theorem blk_setCell_same {w : World} {b : Nat} {c : Array Value} {t : TypeId} {f : Nat × Nat} (h : blk w b = some (.cells c t f)) (i : Nat) (v : Value) :
    blk (w.setCell ⟨b, i, none⟩ v) b = some (.cells (c.setIfInBounds i v) t f) := by
  unfold Proofs.YtbgienfcmdgaaaaGreat.blk at *
  simp [World.setCell, Array.getElem?_modify, h]

/-- what a cell holds behind a store, the two addresses compared -/
theorem cell?_setCell_if (w : World) (b i b' j : Nat) (v : Value) : (w.setCell ⟨b, i, none⟩ v).cell? ⟨b', j, none⟩ = if b = b' ∧ i = j then (w.cell? ⟨b, i, none⟩).map (fun _ => v) else w.cell? ⟨b', j, none⟩ := by
  by_cases h : b = b' ∧ i = j
  · obtain ⟨rfl, rfl⟩ := h
    rw [if_pos ⟨rfl, rfl⟩]
    cases hc : w.cell? ⟨b, i, none⟩ with
    | some u => rw [World.cell?_setCell_same w _ v hc]; rfl
    | none =>
      simp only [Option.map_none]
      simp only [World.setCell, World.cell?, Array.getElem?_modify, ↓reduceIte] at *
      cases hb : w.heap[b]? with
      | none => simp
      | some o => cases o <;> simp_all
  · rw [if_neg h]
    exact World.cell?_setCell_other w _ _ v (fun e => h (by cases e; exact ⟨rfl, rfl⟩))
theorem ownsRow_mono {w : World} {base base' : Nat} {e : TypeId} {size : Nat} {v : Value} {n : Nat} {xs : List Value} (h : w.ownsRow base e size v n xs) (hb : base' ≤ base) : w.ownsRow base' e size v n xs := by
  refine ⟨h.1, ?_⟩
  rcases h.2 with h2 | ⟨g, cap, cur, h1, h2, r⟩
  · exact .inl h2
  · exact .inr ⟨g, cap, cur, h1, Nat.le_trans hb h2, r⟩
/-- a slice reads on as it did, where its block has not turned -/
theorem ownsRow_ext {S : Nat → Prop} {w w' : World} {base : Nat} {e : TypeId} {size : Nat} {v : Value} {n : Nat} {xs : List Value} (h : w.ownsRow base e size v n xs) (hx : Ext S w w') (hn : ∀ g, v.ownBlock = some g → ¬ S g) : w'.ownsRow base e size v n xs := by
  refine ⟨h.1, ?_⟩
  rcases h.2 with h2 | ⟨g, cap, cur, rfl, h2, h3, r⟩
  · exact .inl h2
  · exact .inr ⟨g, cap, cur, rfl, h2, (hx.block g (Array.getElem?_eq_some_iff.1 h3).1 (hn g rfl)).trans h3, r⟩
/-- the cells of a block that has just been laid, for the laws on append -/
theorem cells_new {w : World} {b : Nat} (cs : List Value) (t : TypeId) (hb : b = w.heap.size) : ∀ j u, cs[j]? = some u → (w.alloc (.cells cs.toArray t)).cell? ((⟨b, 0, none⟩ : Addr).add j) = some u := by
  intro j u h
  subst hb
  rw [Addr.add_lit, Nat.zero_add, World.cell?_alloc_new]
  simpa using h
theorem bytes_ne {a b : ByteArray} (h : ¬ a = b) : (a.toList == b.toList) = false := by
  cases hq : a.toList == b.toList
  · rfl
  · refine absurd ?_ h
    have := eq_of_beq hq
    rw [ByteArray.toList_eq, ByteArray.toList_eq] at this
    cases a; cases b; simp_all
theorem bytes_eq {a b : ByteArray} (h : a = b) : (a.toList == b.toList) = true := by subst h; simp
/-- 'wp_region_still_tail', the draw under the walk's own name -/
theorem wp_region_tail {P : Program} {w : World} {id : Nat} {Q : Exit → Act → World → Prop} {a : Act} {l : List Oper} (n : Nat) (hm : P.follows .mixedOrders = true) (hB : Region.lexTailB .any l.toArray n = true)
    (h : wpStill P l.toArray w.drew (fun a' => wpList P l.toArray Q (l.drop n) a' w.drew) (l.take n) a) : (Code.region id l.toArray true).wp P Q a w :=
  wp_region_still_tail n hm hB h
/-! ### a map with string keys, as the list of its entries -/
section
variable {α : Type}
/-- the value at a key, the first one -/
def assoc : List (ByteArray × α) → ByteArray → Option α
  | [], _ => none
  | (k, v) :: r, s => if k = s then some v else assoc r s
/-- a value laid at a key: in its place, or at the end -/
def aput : List (ByteArray × α) → ByteArray → α → List (ByteArray × α)
  | [], s, v => [(s, v)]
  | (k, x) :: r, s, v => if k = s then (k, v) :: r else (k, x) :: aput r s v
end
/-- the block's entries, in order: a list of keys and values -/
def StrMap (es : Array MapEntry) (l : List (ByteArray × Value)) : Prop :=
  es.toList.map (fun e => (e.key, e.val)) = l.map fun p => (Value.string p.1, p.2)

theorem findNow_str (s : ByteArray) : ∀ (es : List MapEntry) (l : List (ByteArray × Value)) (i : Nat), es.map (fun e => (e.key, e.val)) = (l.map fun p => (Value.string p.1, p.2)) →
    (assoc l s = none ∧ Instr.findNow .string (.string s) es i = some none ∧ ∀ v, aput l s v = l ++ [(s, v)]) ∨
    ∃ j e v, assoc l s = some v ∧ Instr.findNow .string (.string s) es i = some (some (i + j, v)) ∧ es[j]? = some e ∧ e.key = .string s ∧
      ∀ u, (es.modify j fun e => { e with key := .string s, val := u }).map (fun e => (e.key, e.val)) = (aput l s u).map fun p => (Value.string p.1, p.2)
  | [], [], i, _ => .inl ⟨rfl, rfl, fun _ => rfl⟩
  | [], _ :: _, _, h => by simp at h
  | _ :: _, [], _, h => by simp at h
  | e :: es, (k, v) :: l, i, h => by
    simp only [List.map_cons, List.cons.injEq, Prod.mk.injEq] at h
    obtain ⟨⟨hk, hv⟩, hr⟩ := h
    by_cases hs : k = s
    · subst hs
      refine .inr ⟨0, e, v, by simp [assoc], by simp [Instr.findNow, Instr.sameNow, hk, hv, (bytes_beq k k).2 rfl], rfl, hk, fun u => ?_⟩
      simp [aput, hr]
    · have hne : (s == k) = false := by
        cases hq : s == k
        · rfl
        · exact absurd ((bytes_beq s k).1 hq).symm hs
      rcases findNow_str s es l (i + 1) hr with ⟨h1, h2, h3⟩ | ⟨j, e', v', h1, h2, h3, h4, h5⟩
      · exact .inl ⟨by simp [assoc, hs, h1], by simp [Instr.findNow, Instr.sameNow, hk, hne, h2], fun v => by simp [aput, hs, h3]⟩
      · refine .inr ⟨j + 1, e', v', by simp [assoc, hs, h1], by simp [Instr.findNow, Instr.sameNow, hk, hne, h2]; omega, by simpa using h3, h4, fun u => ?_⟩
        have := h5 u
        simp [aput, hs, hk, hv, this]

section
variable {P : Program} {t k e : TypeId} {w : World} {b : Nat} {es : Array MapEntry} {clock : Nat} {l : List (ByteArray × Value)}
theorem run_lookup_str (ht : P.underlying t = some (.map k e)) (hk : P.underlying k = some .string) (hb : blk w b = some (.map es clock)) (hl : StrMap es l)
    {z : Value} (hz : (zeroValue e).run P w = .ok z w) (s : ByteArray) (ok : Bool) :
    (Instr.lookup t (.map (some b)) (.string s) ok).run P w = .ok (if ok then .tuple #[(assoc l s).getD z, .bool (assoc l s).isSome] else (assoc l s).getD z) w := by
  rcases findNow_str s es.toList l 0 hl with ⟨h1, h2, _⟩ | ⟨j, e', v, h1, h2, _⟩
  · simp [Instr.lookup, run_underlying ht, MapKept.run_getObj_map hb, MapKept.run_checkKey hk (show IsKey .string (.string s) from trivial), MapKept.run_findKey hk h2, Result.andThen, hz, h1]
  · simp [Instr.lookup, run_underlying ht, MapKept.run_getObj_map hb, MapKept.run_checkKey hk (show IsKey .string (.string s) from trivial), MapKept.run_findKey hk h2, Result.andThen, h1]

theorem run_lookup_nil (ht : P.underlying t = some (.map k e)) (hk : P.underlying k = some .string)
    {z : Value} (hz : (zeroValue e).run P w = .ok z w) (s : ByteArray) (ok : Bool) :
    (Instr.lookup t (.map none) (.string s) ok).run P w = .ok (if ok then .tuple #[z, .bool false] else z) w := by
  simp [Instr.lookup, run_underlying ht, MapKept.run_checkKey hk (show IsKey .string (.string s) from trivial), Instr.findKey, run_underlying hk, Instr.findNow, Result.andThen, hz]

/-- the block behind a store at a key: the same whatever the world -/
theorem run_update_str (ht : P.underlying t = some (.map k e)) (hk : P.underlying k = some .string) (hl : StrMap es l) (s : ByteArray) (u : Value) :
    ∃ es' clock', (∀ w : World, blk w b = some (.map es clock) → (Instr.mapUpdate t (.map (some b)) (.string s) u).run P w = .ok () (setBlock w b (.map es' clock'))) ∧ StrMap es' (aput l s u) := by
  rcases findNow_str s es.toList l 0 hl with ⟨h1, h2, h3⟩ | ⟨j, e', v, h1, h2, h4, h5, h6⟩
  · refine ⟨es.push { key := .string s, val := u, born := clock }, clock + 1, fun w hb => ?_, ?_⟩
    · simp [Instr.mapUpdate, run_underlying ht, MapKept.run_getObj_map hb, MapKept.run_checkKey hk (show IsKey .string (.string s) from trivial), MapKept.run_findKey hk h2, Result.andThen, MapKept.run_setObj_map _ hb, ChangeMaps.setBlock]
    · unfold StrMap at *
      simp [hl, h3]
  · refine ⟨es.modify j fun e => { e with key := .string s, val := u }, clock, fun w hb => ?_, ?_⟩
    · have h4' : es[j]? = some e' := by simpa using h4
      simp only [Nat.zero_add] at h2
      simp [Instr.mapUpdate, run_underlying ht, MapKept.run_getObj_map hb, MapKept.run_checkKey hk (show IsKey .string (.string s) from trivial), MapKept.run_findKey hk h2, Result.andThen, MapKept.run_setObj_map _ hb, ChangeMaps.setBlock, h4', h5, run_keyThatStays (show IsKey .string (.string s) from trivial)]
    · unfold StrMap
      have := h6 u
      rw [Array.toList_modify]
      exact this
end
end Go.Proofs.YtbgienfcmdgaaaaGreat
/-
  Plain laws on lists of digits to the base 2^32: their value, their only form without leading zeros. Conditions: none beyond each lemma's own.
-/
namespace Go.Proofs.YtbgienfcmdgaaaaGreat

/-- the value of digits, the least significant first -/
def vl : List Nat → Nat
  | [] => 0
  | d :: r => d + 4294967296 * vl r
def Dig (l : List Nat) : Prop := ∀ d ∈ l, d < 4294967296
theorem Dig.nil : Dig [] := fun _ h => by cases h
theorem Dig.cons {d : Nat} {l : List Nat} (h : d < 4294967296) (hl : Dig l) : Dig (d :: l) := fun x hx => by
  rcases List.mem_cons.1 hx with rfl | hx
  · exact h
  · exact hl x hx
theorem Dig.head {d : Nat} {l : List Nat} (h : Dig (d :: l)) : d < 4294967296 := h d List.mem_cons_self
theorem Dig.tail {d : Nat} {l : List Nat} (h : Dig (d :: l)) : Dig l := fun x hx => h x (List.mem_cons_of_mem _ hx)
theorem Dig.append {a b : List Nat} (ha : Dig a) (hb : Dig b) : Dig (a ++ b) := fun x hx => by
  rcases List.mem_append.1 hx with h | h
  · exact ha x h
  · exact hb x h
theorem Dig.take {l : List Nat} (h : Dig l) (n : Nat) : Dig (l.take n) := fun x hx => h x (List.mem_of_mem_take hx)
theorem Dig.drop {l : List Nat} (h : Dig l) (n : Nat) : Dig (l.drop n) := fun x hx => h x (List.mem_of_mem_drop hx)
theorem Dig.get {l : List Nat} (h : Dig l) (i : Nat) (hi : i < l.length) : l[i] < 4294967296 := h _ (List.getElem_mem hi)
theorem Dig.set {l : List Nat} (h : Dig l) (i d : Nat) (hd : d < 4294967296) : Dig (l.set i d) := fun x hx => by
  rcases List.mem_or_eq_of_mem_set hx with hx | rfl
  · exact h x hx
  · exact hd
theorem Dig.zeros (n : Nat) : Dig (List.replicate n 0) := fun x hx => by rw [(List.mem_replicate.1 hx).2]; omega
theorem vl_append (a b : List Nat) : vl (a ++ b) = vl a + 4294967296 ^ a.length * vl b := by
  induction a with
  | nil => simp [vl]
  | cons d r ih => simp only [List.cons_append, vl, ih, List.length_cons, Nat.pow_succ, Nat.mul_add]; rw [Nat.mul_comm (4294967296 ^ r.length) 4294967296, Nat.mul_assoc]; omega
theorem vl_zeros (n : Nat) : vl (List.replicate n 0) = 0 := by
  induction n with
  | zero => rfl
  | succ n ih => simp [List.replicate_succ, vl, ih]
theorem vl_lt {l : List Nat} (h : Dig l) : vl l < 4294967296 ^ l.length := by
  induction l with
  | nil => simp [vl]
  | cons d r ih =>
    have h1 := ih h.tail
    have h2 := h.head
    simp only [vl, List.length_cons, Nat.pow_succ]
    omega
theorem vl_split (l : List Nat) (n : Nat) : vl l = vl (l.take n) + 4294967296 ^ (l.take n).length * vl (l.drop n) := by
  rw [← vl_append, List.take_append_drop]
theorem vl_take_succ {l : List Nat} {i : Nat} (h : i < l.length) : vl (l.take (i + 1)) = vl (l.take i) + 4294967296 ^ i * l[i] := by
  rw [List.take_succ_eq_append_getElem h, vl_append]
  simp [vl, List.length_take, Nat.min_eq_left (Nat.le_of_lt h)]
theorem vl_drop {l : List Nat} {i : Nat} (h : i < l.length) : vl (l.drop i) = l[i] + 4294967296 * vl (l.drop (i + 1)) := by
  rw [List.drop_eq_getElem_cons h]; rfl
theorem vl_set {l : List Nat} {i : Nat} (d : Nat) (h : i < l.length) : vl (l.set i d) + 4294967296 ^ i * l[i] = vl l + 4294967296 ^ i * d := by
  induction l generalizing i with
  | nil => cases h
  | cons x r ih =>
    cases i with
    | zero => simp [vl]; omega
    | succ i =>
      have := ih (i := i) (by simpa using h)
      simp only [List.set_cons_succ, vl, List.getElem_cons_succ, Nat.pow_succ]
      rw [Nat.mul_comm (4294967296 ^ i) 4294967296, Nat.mul_assoc, Nat.mul_assoc]
      omega
/-- no leading zero digits -/
def Canon (l : List Nat) : Prop := Dig l ∧ l.getLast? ≠ some 0
theorem Canon.nil : Canon [] := ⟨Dig.nil, by simp⟩
def dg (n : Nat) : List Nat := if h : n = 0 then [] else (n % 4294967296) :: dg (n / 4294967296)
termination_by n
decreasing_by omega
theorem dg_zero : dg 0 = [] := by unfold dg; simp
theorem dg_pos {n : Nat} (h : 0 < n) : dg n = (n % 4294967296) :: dg (n / 4294967296) := by rw [dg.eq_def]; rw [dif_neg (by omega)]
theorem vl_dg (n : Nat) : vl (dg n) = n := by
  induction n using Nat.strongRecOn with
  | _ n ih =>
    by_cases h : n = 0
    · subst h; rw [dg_zero]; rfl
    · rw [dg_pos (by omega)]
      simp only [vl]
      rw [ih (n / 4294967296) (by omega)]
      omega
theorem dg_dig (n : Nat) : Dig (dg n) := by
  induction n using Nat.strongRecOn with
  | _ n ih =>
    by_cases h : n = 0
    · subst h; rw [dg_zero]; exact Dig.nil
    · rw [dg_pos (by omega)]; exact Dig.cons (Nat.mod_lt _ (by omega)) (ih _ (by omega))
theorem dg_eq_nil {n : Nat} : dg n = [] ↔ n = 0 := by
  constructor
  · intro h
    by_cases hn : n = 0
    · exact hn
    · rw [dg_pos (by omega)] at h; cases h
  · rintro rfl; exact dg_zero
theorem canon_tail {d : Nat} {l : List Nat} (h : Canon (d :: l)) : Canon l := by
  refine ⟨h.1.tail, ?_⟩
  cases l with
  | nil => simp
  | cons x r => have := h.2; rwa [List.getLast?_cons_cons] at this
theorem canon_zero {l : List Nat} (h : Canon l) (hv : vl l = 0) : l = [] := by
  induction l with
  | nil => rfl
  | cons d r ih =>
    simp only [vl] at hv
    have hr := ih (canon_tail h) (by omega)
    subst hr
    have hd : d = 0 := by omega
    exact absurd (by simp [hd]) h.2
theorem canon_dg {l : List Nat} (h : Canon l) : l = dg (vl l) := by
  induction l with
  | nil => rw [show vl [] = 0 from rfl, dg_zero]
  | cons d r ih =>
    have hd := h.1.head
    by_cases hv : vl (d :: r) = 0
    · rw [hv, dg_zero, canon_zero h hv]
    · rw [dg_pos (by omega)]
      have h1 : vl (d :: r) % 4294967296 = d := by simp only [vl]; omega
      have h2 : vl (d :: r) / 4294967296 = vl r := by simp only [vl]; omega
      rw [h1, h2, ← ih (canon_tail h)]
theorem dg_canon (n : Nat) : Canon (dg n) := by
  refine ⟨dg_dig n, ?_⟩
  induction n using Nat.strongRecOn with
  | _ n ih =>
    by_cases h : n = 0
    · subst h; rw [dg_zero]; simp
    · rw [dg_pos (by omega)]
      by_cases h2 : n / 4294967296 = 0
      · rw [h2, dg_zero]; simp; omega
      · have h3 := ih (n / 4294967296) (by omega)
        cases hq : dg (n / 4294967296) with
        | nil => exact absurd (dg_eq_nil.1 hq) h2
        | cons x r => rw [List.getLast?_cons_cons, ← hq]; exact h3
theorem canon_inj {a b : List Nat} (ha : Canon a) (hb : Canon b) (h : vl a = vl b) : a = b := by rw [canon_dg ha, canon_dg hb, h]
theorem dg_length_le {n k : Nat} (h : n < 4294967296 ^ k) : (dg n).length ≤ k := by
  induction k generalizing n with
  | zero => simp at h; subst h; rw [dg_zero]; simp
  | succ k ih =>
    by_cases hn : n = 0
    · subst hn; rw [dg_zero]; simp
    · rw [dg_pos (by omega), List.length_cons]
      have := ih (n := n / 4294967296) (by rw [Nat.pow_succ] at h; exact Nat.div_lt_of_lt_mul (by rw [Nat.mul_comm]; exact h))
      omega
theorem dg_lt (n : Nat) : n < 4294967296 ^ (dg n).length := by have := vl_lt (dg_dig n); rwa [vl_dg] at this
/-! ### trim -/
def trimL (l : List Nat) : List Nat := dg (vl l)
theorem trim_take {l : List Nat} (hl : Dig l) {n : Nat} (hn : n ≤ l.length) (hz : ∀ i, n ≤ i → (h : i < l.length) → l[i] = 0) (hlast : n = 0 ∨ ∃ h : n - 1 < l.length, l[n - 1] ≠ 0) : l.take n = trimL l := by
  have h1 : l.drop n = List.replicate (l.length - n) 0 := by
    apply List.ext_getElem
    · simp
    · intro i h1 h2
      rw [List.getElem_drop, List.getElem_replicate]
      exact hz (n + i) (by omega) (by simp at h1; omega)
  have h2 : vl l = vl (l.take n) := by rw [vl_split l n, h1, vl_zeros]; simp
  unfold trimL
  rw [h2]
  refine canon_dg ⟨hl.take n, ?_⟩
  rcases hlast with rfl | ⟨h, hne⟩
  · simp
  · by_cases h0 : n = 0
    · subst h0; simp
    · rw [List.getLast?_eq_getElem?, List.length_take, Nat.min_eq_left hn, List.getElem?_take_of_lt (by omega), List.getElem?_eq_getElem h]
      simpa using hne
theorem trimL_length (l : List Nat) (hl : Dig l) : (trimL l).length ≤ l.length := dg_length_le (vl_lt hl)
theorem trimL_value (l : List Nat) : vl (trimL l) = vl l := vl_dg _
end Go.Proofs.YtbgienfcmdgaaaaGreat
/-
  Plain laws on lists of digits: what the loops of Add, Sub, Mul, short and shift keep. Conditions: none beyond each lemma's own.
-/
namespace Go.Proofs.YtbgienfcmdgaaaaGreat

def dgt (l : List Nat) (i : Nat) : Nat := l.getD i 0
theorem dgt_in {l : List Nat} {i : Nat} (h : i < l.length) : dgt l i = l[i] := by unfold dgt; rw [List.getD_eq_getElem?_getD, List.getElem?_eq_getElem h]; rfl
theorem dgt_out {l : List Nat} {i : Nat} (h : l.length ≤ i) : dgt l i = 0 := by unfold dgt; rw [List.getD_eq_getElem?_getD, List.getElem?_eq_none h]; rfl
theorem dgt_lt {l : List Nat} (hl : Dig l) (i : Nat) : dgt l i < 4294967296 := by
  by_cases h : i < l.length
  · rw [dgt_in h]; exact hl.get i h
  · rw [dgt_out (by omega)]; omega
theorem vl_take_dgt (l : List Nat) (i : Nat) : vl (l.take (i + 1)) = vl (l.take i) + 4294967296 ^ i * dgt l i := by
  by_cases h : i < l.length
  · rw [vl_take_succ h, dgt_in h]
  · rw [dgt_out (by omega), List.take_of_length_le (by omega), List.take_of_length_le (by omega)]; simp
theorem pow_mono {i j : Nat} (h : i ≤ j) : 4294967296 ^ i ≤ 4294967296 ^ j := Nat.pow_le_pow_right (by omega) h
theorem pow_next (i : Nat) : 4294967296 ^ (i + 1) = 4294967296 ^ i * 4294967296 := Nat.pow_succ _ _
theorem vl_snoc (o : List Nat) (d : Nat) : vl (o ++ [d]) = vl o + 4294967296 ^ o.length * d := by rw [vl_append]; simp [vl]
theorem vl_take_all {l : List Nat} {i : Nat} (h : l.length ≤ i) : vl (l.take i) = vl l := by rw [List.take_of_length_le h]
theorem Dig.snoc {o : List Nat} (h : Dig o) {d : Nat} (hd : d < 4294967296) : Dig (o ++ [d]) := h.append (Dig.cons hd Dig.nil)
/-! ### Add -/
structure AddSt (a b : List Nat) (i : Nat) (o : List Nat) (c : Nat) : Prop where
  dig : Dig o
  len : o.length = i
  car : c ≤ 1
  val : vl o + 4294967296 ^ i * c = vl (a.take i) + vl (b.take i)
theorem AddSt.zero (a b : List Nat) : AddSt a b 0 [] 0 := ⟨Dig.nil, rfl, by omega, by simp [vl]⟩
theorem AddSt.step {a b : List Nat} (ha : Dig a) (hb : Dig b) {i : Nat} {o : List Nat} {c : Nat} (h : AddSt a b i o c) :
    AddSt a b (i + 1) (o ++ [(dgt a i + dgt b i + c) % 4294967296]) ((dgt a i + dgt b i + c) / 4294967296) := by
  have h1 := dgt_lt ha i
  have h2 := dgt_lt hb i
  have h3 := h.car
  have h4 := h.val
  refine ⟨h.dig.snoc (Nat.mod_lt _ (by omega)), by simp [h.len], by omega, ?_⟩
  rw [vl_snoc, vl_take_dgt, vl_take_dgt, h.len, Nat.pow_succ, Nat.mul_assoc, Nat.add_assoc, ← Nat.mul_add, Nat.mod_add_div, Nat.mul_add, Nat.mul_add]
  omega
theorem add_end {P va vb vo c : Nat} (h1 : va < P) (h2 : vb < P) (hc : c ≤ 1) (h : vo + P * 4294967296 * c = va + vb) : c = 0 := by
  rcases Nat.eq_zero_or_pos c with h0 | h0
  · exact h0
  · obtain rfl : c = 1 := by omega
    omega
theorem AddSt.done {a b : List Nat} (ha : Dig a) (hb : Dig b) {o : List Nat} {c : Nat} (h : AddSt a b (max a.length b.length + 1) o c) : trimL o = dg (vl a + vl b) := by
  have h4 := h.val
  rw [vl_take_all (Nat.le_succ_of_le (Nat.le_max_left _ _)), vl_take_all (Nat.le_succ_of_le (Nat.le_max_right _ _)), pow_next] at h4
  have hc := add_end (Nat.lt_of_lt_of_le (vl_lt ha) (pow_mono (Nat.le_max_left a.length b.length))) (Nat.lt_of_lt_of_le (vl_lt hb) (pow_mono (Nat.le_max_right a.length b.length))) h.car h4
  subst hc
  unfold trimL
  rw [← h4, Nat.mul_zero, Nat.add_zero]
/-! ### Sub -/
structure SubSt (a b : List Nat) (i : Nat) (o : List Nat) (c : Nat) : Prop where
  dig : Dig o
  len : o.length = i
  car : c ≤ 1
  val : vl o + vl (b.take i) = vl (a.take i) + 4294967296 ^ i * c
theorem SubSt.zero (a b : List Nat) : SubSt a b 0 [] 0 := ⟨Dig.nil, rfl, by omega, by simp [vl]⟩
/-- the digit and the borrow of x - y - c -/
def subD (x y c : Nat) : Nat := if y + c ≤ x then x - y - c else x + 4294967296 - y - c
def subB (x y c : Nat) : Nat := if y + c ≤ x then 0 else 1
theorem SubSt.step {a b : List Nat} (ha : Dig a) (hb : Dig b) {i : Nat} {o : List Nat} {c : Nat} (h : SubSt a b i o c) :
    SubSt a b (i + 1) (o ++ [subD (dgt a i) (dgt b i) c]) (subB (dgt a i) (dgt b i) c) := by
  have h1 := dgt_lt ha i
  have h2 := dgt_lt hb i
  have h3 := h.car
  have h4 := h.val
  have hd : subD (dgt a i) (dgt b i) c + dgt b i + c = dgt a i + 4294967296 * subB (dgt a i) (dgt b i) c := by unfold subD subB; split <;> omega
  refine ⟨h.dig.snoc (by unfold subD; split <;> omega), by simp [h.len], by unfold subB; split <;> omega, ?_⟩
  rw [vl_snoc, vl_take_dgt, vl_take_dgt, h.len, Nat.pow_succ, Nat.mul_assoc]
  have := congrArg (4294967296 ^ i * ·) hd
  simp only [Nat.mul_add] at this
  omega
theorem SubSt.done {a b : List Nat} (ha : Dig a) (hb : Dig b) {o : List Nat} {c : Nat} (h : SubSt a b (max a.length b.length + 1) o c) (hle : vl b ≤ vl a) : trimL o = dg (vl a - vl b) := by
  have h4 := h.val
  rw [vl_take_all (by omega), vl_take_all (by omega)] at h4
  have ho := vl_lt h.dig
  rw [h.len] at ho
  have hc : c = 0 := by
    have := h.car
    by_cases hc : c = 0
    · exact hc
    · have : c = 1 := by omega
      subst this
      omega
  subst hc
  unfold trimL
  rw [show vl o = vl a - vl b by omega]
/-! ### Mul -/
structure MulSt (a b : List Nat) (i : Nat) (o : List Nat) : Prop where
  dig : Dig o
  len : o.length = a.length + b.length
  high : ∀ k, i + b.length ≤ k → dgt o k = 0
  val : vl o = vl (a.take i) * vl b
theorem MulSt.zero (a b : List Nat) : MulSt a b 0 (List.replicate (a.length + b.length) 0) :=
  ⟨Dig.zeros _, by simp, fun k _ => by
    by_cases h : k < a.length + b.length
    · rw [dgt_in (by simpa using h)]; simp
    · rw [dgt_out (by simpa using h)], by rw [vl_zeros]; simp [vl]⟩
/-- within a round: from the list o0, k digits of b are done -/
structure MulIn (a b o0 : List Nat) (i k : Nat) (o : List Nat) (c : Nat) : Prop where
  dig : Dig o
  len : o.length = a.length + b.length
  car : c < 4294967296
  high : ∀ j, i + k ≤ j → dgt o j = dgt o0 j
  val : vl o + 4294967296 ^ (i + k) * c = vl o0 + 4294967296 ^ i * (dgt a i * vl (b.take k))
theorem MulIn.zero {a b o0 : List Nat} {i : Nat} (hd : Dig o0) (hl : o0.length = a.length + b.length) : MulIn a b o0 i 0 o0 0 :=
  ⟨hd, hl, by omega, fun _ _ => rfl, by simp [vl]⟩
theorem dgt_set {l : List Nat} {i j d : Nat} (h : i < l.length) : dgt (l.set i d) j = if i = j then d else dgt l j := by
  unfold dgt
  rw [List.getD_eq_getElem?_getD, List.getD_eq_getElem?_getD, List.getElem?_set]
  split
  · subst_vars; simp
  · rfl
theorem vl_set_dgt {l : List Nat} {i : Nat} (d : Nat) (h : i < l.length) : vl (l.set i d) + 4294967296 ^ i * dgt l i = vl l + 4294967296 ^ i * d := by rw [dgt_in h]; exact vl_set d h
theorem mul_fits {x y o c : Nat} (hx : x < 4294967296) (hy : y < 4294967296) (ho : o < 4294967296) (hc : c < 4294967296) : x * y + o + c < 18446744073709551616 := by
  have : x * y ≤ 4294967295 * 4294967295 := Nat.mul_le_mul (by omega) (by omega)
  omega
theorem MulIn.step {a b o0 : List Nat} (ha : Dig a) (hb : Dig b) {i k : Nat} {o : List Nat} {c : Nat} (hi : i < a.length) (hk : k < b.length) (h : MulIn a b o0 i k o c) :
    MulIn a b o0 i (k + 1) (o.set (i + k) ((dgt a i * dgt b k + dgt o (i + k) + c) % 4294967296)) ((dgt a i * dgt b k + dgt o (i + k) + c) / 4294967296) := by
  have h1 := dgt_lt ha i
  have h2 := dgt_lt hb k
  have h3 := dgt_lt h.dig (i + k)
  have h4 := h.val
  have hf := mul_fits h1 h2 h3 h.car
  have hlt : i + k < o.length := by rw [h.len]; omega
  refine ⟨h.dig.set _ _ (Nat.mod_lt _ (by omega)), by simp [h.len], by omega, fun j hj => ?_, ?_⟩
  · rw [dgt_set hlt, if_neg (by omega)]; exact h.high j (by omega)
  · have hs := vl_set_dgt ((dgt a i * dgt b k + dgt o (i + k) + c) % 4294967296) hlt
    have hm := congrArg (4294967296 ^ (i + k) * ·) (Nat.mod_add_div (dgt a i * dgt b k + dgt o (i + k) + c) 4294967296)
    simp only [Nat.mul_add] at hm
    rw [vl_take_dgt, show i + (k + 1) = (i + k) + 1 by omega, Nat.pow_succ, Nat.mul_add, Nat.mul_add]
    rw [Nat.mul_assoc (4294967296 ^ (i + k)) 4294967296]
    have e : 4294967296 ^ i * (dgt a i * (4294967296 ^ k * dgt b k)) = 4294967296 ^ (i + k) * (dgt a i * dgt b k) := by
      rw [Nat.pow_add, Nat.mul_assoc, ← Nat.mul_assoc (dgt a i), Nat.mul_comm (dgt a i) (4294967296 ^ k), Nat.mul_assoc]
    rw [e]
    omega
theorem MulSt.step {a b o0 o : List Nat} {i c : Nat} (hi : i < a.length) (hs : MulSt a b i o0) (h : MulIn a b o0 i b.length o c) : MulSt a b (i + 1) (o.set (i + b.length) c) := by
  have hlt : i + b.length < o.length := by rw [h.len]; omega
  refine ⟨h.dig.set _ _ h.car, by simp [h.len], fun k hk => ?_, ?_⟩
  · rw [dgt_set hlt, if_neg (by omega), h.high k (by omega)]; exact hs.high k (by omega)
  · have hz : dgt o (i + b.length) = 0 := by rw [h.high _ (Nat.le_refl _)]; exact hs.high _ (Nat.le_refl _)
    have h1 := vl_set_dgt c hlt
    have h2 := h.val
    rw [List.take_length, hs.val] at h2
    rw [hz] at h1
    rw [vl_take_dgt, Nat.add_mul, Nat.mul_assoc]
    omega
theorem MulSt.done {a b o : List Nat} (h : MulSt a b a.length o) : trimL o = dg (vl a * vl b) := by
  unfold trimL
  rw [h.val, List.take_length]
/-! ### short -/
structure ShortSt (a : List Nat) (by_ : Nat) (i : Nat) (o : List Nat) (r : Nat) : Prop where
  dig : Dig o
  len : o.length = a.length
  rest : r < by_
  low : ∀ k, k < i → dgt o k = dgt a k
  val : vl (a.drop i) = by_ * vl (o.drop i) + r
theorem ShortSt.start {a : List Nat} (ha : Dig a) {d : Nat} (hd : 0 < d) : ShortSt a d a.length a 0 := ⟨ha, rfl, hd, fun _ _ => rfl, by simp [vl]⟩
theorem ShortSt.step {a : List Nat} (ha : Dig a) {d : Nat} (hd : d < 4294967296) {i : Nat} (hi : i < a.length) {o : List Nat} {r : Nat} (h : ShortSt a d (i + 1) o r) :
    (r * 4294967296 + dgt a i) / d < 4294967296 ∧ ShortSt a d i (o.set i ((r * 4294967296 + dgt a i) / d)) ((r * 4294967296 + dgt a i) % d) := by
  have h1 := dgt_lt ha i
  have h2 := h.rest
  have hq : (r * 4294967296 + dgt a i) / d < 4294967296 := by
    rw [Nat.div_lt_iff_lt_mul (by omega)]
    have : r + 1 ≤ d := h2
    have := Nat.mul_le_mul_right 4294967296 this
    rw [Nat.mul_comm 4294967296 d]
    omega
  have hlt : i < o.length := by rw [h.len]; exact hi
  refine ⟨hq, h.dig.set _ _ hq, by simp [h.len], Nat.mod_lt _ (by omega), fun k hk => ?_, ?_⟩
  · rw [dgt_set hlt, if_neg (by omega)]; exact h.low k (by omega)
  · rw [vl_drop hi, vl_drop (l := o.set i _) (by simpa using hlt), h.val, List.drop_set, if_pos (by omega), List.getElem_set_self, ← dgt_in hi]
    have hm := Nat.div_add_mod (r * 4294967296 + dgt a i) d
    rw [Nat.mul_add, Nat.mul_add, ← Nat.mul_assoc, Nat.mul_left_comm d 4294967296]
    rw [Nat.mul_comm 4294967296 r]
    rw [Nat.mul_assoc] at *
    omega
theorem ShortSt.done {a : List Nat} {d : Nat} {o : List Nat} {r : Nat} (h : ShortSt a d 0 o r) : trimL o = dg (vl a / d) ∧ r = vl a % d := by
  have hv := h.val
  simp only [List.drop_zero] at hv
  have h2 := h.rest
  rw [Nat.mul_comm] at hv
  have e1 : vl a / d = vl o := by rw [hv, Nat.mul_comm, Nat.mul_add_div (by omega), Nat.div_eq_of_lt h2]; omega
  have e2 : vl a % d = r := by rw [hv, Nat.mul_comm, Nat.mul_add_mod, Nat.mod_eq_of_lt h2]
  exact ⟨by unfold trimL; rw [e1], e2.symm⟩
/-! ### shift -/
structure ShiftSt (a : List Nat) (n i : Nat) (o : List Nat) (c : Nat) : Prop where
  dig : Dig o
  len : o.length = a.length + 1
  car : c < 2 ^ n
  high : ∀ k, i ≤ k → dgt o k = 0
  val : vl o + 4294967296 ^ i * c = 2 ^ n * vl (a.take i)
theorem ShiftSt.zero (a : List Nat) (n : Nat) : ShiftSt a n 0 (List.replicate (a.length + 1) 0) 0 :=
  ⟨Dig.zeros _, by simp, Nat.two_pow_pos n, fun k _ => by
    by_cases h : k < a.length + 1
    · rw [dgt_in (by simpa using h)]; simp
    · rw [dgt_out (by simpa using h)], by rw [vl_zeros]; simp [vl]⟩
theorem ShiftSt.step {a : List Nat} (ha : Dig a) {n i : Nat} (hn : n < 32) {o : List Nat} {c : Nat} (hi : i < a.length) (h : ShiftSt a n i o c) :
    ShiftSt a n (i + 1) (o.set i ((2 ^ n * dgt a i + c) % 4294967296)) ((2 ^ n * dgt a i + c) / 4294967296) := by
  have h1 := dgt_lt ha i
  have h2 := h.car
  have hlt : i < o.length := by rw [h.len]; omega
  refine ⟨h.dig.set _ _ (Nat.mod_lt _ (by omega)), by simp [h.len], ?_, fun k hk => ?_, ?_⟩
  · rw [Nat.div_lt_iff_lt_mul (by omega)]
    have : dgt a i + 1 ≤ 4294967296 := h1
    have := Nat.mul_le_mul_left (2 ^ n) this
    rw [Nat.mul_add] at this
    omega
  · rw [dgt_set hlt, if_neg (by omega)]; exact h.high k (by omega)
  · have hs := vl_set_dgt ((2 ^ n * dgt a i + c) % 4294967296) hlt
    rw [h.high i (Nat.le_refl _)] at hs
    have hm := congrArg (4294967296 ^ i * ·) (Nat.mod_add_div (2 ^ n * dgt a i + c) 4294967296)
    simp only [Nat.mul_add] at hm
    have hv := h.val
    rw [vl_take_dgt, Nat.pow_succ, Nat.mul_add, Nat.mul_assoc, Nat.mul_left_comm (2 ^ n)]
    omega
theorem ShiftSt.done {a : List Nat} {n : Nat} {o : List Nat} {c : Nat} (h : ShiftSt a n a.length o c) (hn : n < 32) :
    Dig (o.set a.length c) ∧ (o.set a.length c).length = a.length + 1 ∧ vl (o.set a.length c) = 2 ^ n * vl a := by
  have hlt : a.length < o.length := by rw [h.len]; omega
  have hs := vl_set_dgt c hlt
  rw [h.high _ (Nat.le_refl _)] at hs
  have hv := h.val
  rw [List.take_length] at hv
  have hp : 2 ^ n ≤ 2 ^ 31 := Nat.pow_le_pow_right (by omega) (by omega)
  exact ⟨h.dig.set _ _ (by have := h.car; omega), by simp [h.len], by omega⟩
end Go.Proofs.YtbgienfcmdgaaaaGreat
/-
  append from any slice, rows of a fixed width; slices of digits; natural.trim. Conditions: none beyond each lemma's own.
-/
namespace Go.Proofs.YtbgienfcmdgaaaaGreat
open Go.RowKit Go.MapKept
open Go.ChangeMaps (setBlock)

/-! ### append, whatever the source -/
theorem grownBy_refl (w : World) (row : Option Nat) : w.grownBy w row := ⟨rfl, rfl, rfl, Nat.le_refl _, fun _ _ _ => rfl⟩
/-- the m elements from the slice's head on hold these cells -/
def Lies (w : World) (ao : Option Addr) (m : Nat) (news : List Value) : Prop := m = 0 ∨ ∃ ad, ao = some ad ∧ ∀ j u, news[j]? = some u → w.cell? (ad.add j) = some u
theorem Lies.ext {S : Nat → Prop} {w w' : World} {ao : Option Addr} {m : Nat} {news : List Value} (h : Lies w ao m news) (hx : Ext S w w') (hn : ∀ ad, ao = some ad → 0 < m → ¬ S ad.block) (hp : m = 0 ∨ 0 < news.length) : Lies w' ao m news := by
  by_cases h0 : m = 0
  · exact .inl h0
  · rcases h with h | ⟨ad, rfl, h⟩
    · exact .inl h
    · refine .inr ⟨ad, rfl, fun j u hu => ?_⟩
      have hb : (ad.add j).block = ad.block := by unfold Addr.add; split <;> rfl
      have hlt : ad.block < w.heap.size := by rw [← hb]; exact World.block_lt_of_cell? w _ (h j u hu)
      exact (hx.cell (p := ad.add j) (by rw [hb]; exact hlt) (by rw [hb]; exact hn ad rfl (by omega))).trans (h j u hu)
section
variable {P : Program} {w : World}
theorem run_append_any (base : Nat) (t ty e : TypeId) (i : TypeInfo) (z : Value) (size bytes : Nat) (ht : P.underlying t = some (.slice e)) (hi : P.info? e = some i) (hz : i.zero = some z)
    (hsize : i.size = size) (hby : i.bytes = bytes) (hzs : z.cells.size = size) (hsz : 0 < size)
    (v : Value) (n : Nat) (xs : List Value) (hown : w.ownsRow base e size v n xs)
    (ao : Option Addr) (m c : Nat) (hc : ao = none → c = 0) (news : List Value) (hl : news.length = m * size) (hnews : Lies w ao m news) (h1 : ∀ u ∈ news, u.oneCell' = true)
    (h63 : n + m ≤ maxLen) (hbytes : (n + m) * bytes ≤ 140737488355328) (hbase : base ≤ w.heap.size) :
    ∃ v' w', (Builtin.append_ #[t, t] ty #[v, .slice ao m c]).run P w = .ok v' w' ∧ w'.ownsRow base e size v' (n + m) (xs ++ news) ∧ w.grownBy w' v.ownBlock ∧ (v'.ownBlock = v.ownBlock ∨ v'.ownBlock = some w.heap.size) := by
  cases ao with
  | none =>
    have hm : m = 0 := by
      rcases hnews with h | ⟨ad, h, _⟩
      · exact h
      · cases h
    subst hm
    have hc0 := hc rfl
    subst hc0
    have hn : news = [] := List.eq_nil_of_length_eq_zero (by rw [hl]; simp)
    subst hn
    refine ⟨v, w, run_append_owned_none w base t ty e i size ht hi v n xs hown, by simpa using hown, grownBy_refl _ _, .inl rfl⟩
  | some ad =>
    have hn : ∀ j u, news[j]? = some u → w.cell? (ad.add j) = some u := by
      rcases hnews with h | ⟨ad', h, h2⟩
      · subst h
        have hn : news = [] := List.eq_nil_of_length_eq_zero (by rw [hl]; simp)
        subst hn
        intro j u hu; simp at hu
      · cases h; exact h2
    obtain ⟨v', w', hr, h2, h3, _, h5⟩ := run_append_own_at (P := P) w base t ty e i z size bytes ht hi hz hsize hby hzs hsz v n xs hown ad m c news hl hn h1 h63 hbytes hbase
    exact ⟨v', w', hr, h2, h3, h5⟩
theorem wpList_append_any {ops : Array Oper} {rest : List Oper} {o : Oper} {a : Act} {Q : Exit → Act → World → Prop} (hgd : o.guard = none) (s x : Operand) (t : TypeId)
    (ho : o.op = .call { callee := .builtin .append, args := #[s, x], argTypes := #[t, t] })
    (base : Nat) (e : TypeId) (i : TypeInfo) (z : Value) (size bytes : Nat) (ht : P.underlying t = some (.slice e)) (hi : P.info? e = some i) (hz : i.zero = some z)
    (hsize : i.size = size) (hby : i.bytes = bytes) (hzs : z.cells.size = size) (hsz : 0 < size)
    (v : Value) (n : Nat) (xs : List Value) (hs : a.eval s = v) (hown : w.ownsRow base e size v n xs)
    (ao : Option Addr) (m c : Nat) (hc : ao = none → c = 0) (news : List Value) (hx : a.eval x = .slice ao m c) (hl : news.length = m * size) (hnews : Lies w ao m news) (h1 : ∀ u ∈ news, u.oneCell' = true)
    (h63 : n + m ≤ maxLen) (hbytes : (n + m) * bytes ≤ 140737488355328) (hbase : base ≤ w.heap.size)
    (h : ∀ v' w', w'.ownsRow base e size v' (n + m) (xs ++ news) → w.grownBy w' v.ownBlock → (v'.ownBlock = v.ownBlock ∨ v'.ownBlock = some w.heap.size) → wpList P ops Q rest (a.put o.dst v') w') :
    wpList P ops Q (o :: rest) a w := by
  refine wpList_plain hgd fun K hK => ?_
  obtain ⟨v', w', hr, h2, h3, h5⟩ := run_append_any (P := P) (w := w) base t o.type e i z size bytes ht hi hz hsize hby hzs hsz v n xs hown ao m c hc news hl hnews h1 h63 hbytes hbase
  unfold Oper.wp execOp
  simp only [ho, resolve, invoke, builtin, Sem.run_bind, Sem.run_pure, Result.andThen_ok, List.map_toArray, List.map_cons, List.map_nil, hs, hx, hr]
  exact hK _ _ (h v' w' h2 h3 h5)
theorem step_append_any {ops : Array Oper} {o : Oper} {a : Act} {K : Act → World → Prop} {Q : Exit → Act → World → Prop} {E : Prop} (hgd : o.guard = none) (s x : Operand) (t : TypeId)
    (ho : o.op = .call { callee := .builtin .append, args := #[s, x], argTypes := #[t, t] })
    (base : Nat) (e : TypeId) (i : TypeInfo) (z : Value) (size bytes : Nat) (ht : P.underlying t = some (.slice e)) (hi : P.info? e = some i) (hz : i.zero = some z)
    (hsize : i.size = size) (hby : i.bytes = bytes) (hzs : z.cells.size = size) (hsz : 0 < size)
    (v : Value) (n : Nat) (xs : List Value) (hs : a.eval s = v) (hown : w.ownsRow base e size v n xs)
    (ao : Option Addr) (m c : Nat) (hc : ao = none → c = 0) (news : List Value) (hx : a.eval x = .slice ao m c) (hl : news.length = m * size) (hnews : Lies w ao m news) (h1 : ∀ u ∈ news, u.oneCell' = true)
    (h63 : n + m ≤ maxLen) (hbytes : (n + m) * bytes ≤ 140737488355328) (hbase : base ≤ w.heap.size)
    (h : ∀ v' w', w'.ownsRow base e size v' (n + m) (xs ++ news) → w.grownBy w' v.ownBlock → (v'.ownBlock = v.ownBlock ∨ v'.ownBlock = some w.heap.size) → K (a.put o.dst v') w') :
    if Region.wanted o (yielded ops a.tmps) = true then Oper.wp P o a w K Q else E := by
  have hw : Region.wanted o (yielded ops a.tmps) = true := by simp [Region.wanted, hgd]
  rw [if_pos hw]
  obtain ⟨v', w', hr, h2, h3, h5⟩ := run_append_any (P := P) (w := w) base t o.type e i z size bytes ht hi hz hsize hby hzs hsz v n xs hown ao m c hc news hl hnews h1 h63 hbytes hbase
  unfold Oper.wp execOp
  simp only [ho, resolve, invoke, builtin, Sem.run_bind, Sem.run_pure, Result.andThen_ok, List.map_toArray, List.map_cons, List.map_nil, hs, hx, hr]
  exact h v' w' h2 h3 h5
end
/-! ### rows of a fixed width -/
section
variable {β : Type} {f : β → List Value} {m : Nat}
theorem fm_length (hf : ∀ x, (f x).length = m) (l : List β) : (l.flatMap f).length = l.length * m := by
  induction l with
  | nil => simp
  | cons x r ih => rw [List.flatMap_cons, List.length_append, hf, ih, List.length_cons, Nat.succ_mul]; omega
theorem fm_drop (hf : ∀ x, (f x).length = m) (l : List β) (i : Nat) : (l.flatMap f).drop (i * m) = (l.drop i).flatMap f := by
  induction l generalizing i with
  | nil => simp
  | cons x r ih =>
    cases i with
    | zero => simp
    | succ i => rw [List.flatMap_cons, Nat.succ_mul, Nat.add_comm, ← List.drop_drop, List.drop_left' (hf x), ih]; rfl
theorem fm_take (hf : ∀ x, (f x).length = m) (l : List β) (i : Nat) : (l.flatMap f).take (i * m) = (l.take i).flatMap f := by
  induction l generalizing i with
  | nil => simp
  | cons x r ih =>
    cases i with
    | zero => simp
    | succ i => rw [List.flatMap_cons, Nat.succ_mul, Nat.add_comm, List.take_add, List.take_left' (hf x), List.drop_left' (hf x), ih]; rfl
theorem fm_get (hf : ∀ x, (f x).length = m) (l : List β) (i : Nat) {x : β} (h : l[i]? = some x) (j : Nat) (hj : j < m) : (l.flatMap f)[i * m + j]? = (f x)[j]? := by
  have h1 : (l.flatMap f)[i * m + j]? = ((l.flatMap f).drop (i * m))[j]? := by rw [List.getElem?_drop]
  rw [h1, fm_drop hf]
  obtain ⟨hi, he⟩ := List.getElem?_eq_some_iff.1 h
  rw [List.drop_eq_getElem_cons hi, he, List.flatMap_cons, List.getElem?_append_left (by rw [hf]; exact hj)]
/-- a row's cells, by element -/
theorem row_at {w : World} {base : Nat} {e : TypeId} {n g cap : Nat} {l : List β} (hf : ∀ x, (f x).length = m) (h : w.ownsRow base e m (.slice (some ⟨g, 0, none⟩) n cap) n (l.flatMap f)) (i : Nat) {x : β} (hx : l[i]? = some x) (j : Nat) (hj : j < m) {u : Value} (hu : (f x)[j]? = some u) :
    w.cell? ⟨g, i * m + j, none⟩ = some u := by
  have := h.cells (g := g) rfl (i * m + j) u (by rw [fm_get hf l i hx j hj]; exact hu)
  rwa [Addr.add_lit, Nat.zero_add] at this
/-- a part of a row lies there, as a source -/
theorem row_lies {w : World} {base : Nat} {e : TypeId} {n g cap : Nat} {l : List β} (hf : ∀ x, (f x).length = m) (h : w.ownsRow base e m (.slice (some ⟨g, 0, none⟩) n cap) n (l.flatMap f)) (i k off : Nat) (ho : off = i * m) :
    Lies w (some ⟨g, off, none⟩) k (((l.drop i).take k).flatMap f) := by
  subst ho
  refine .inr ⟨_, rfl, fun j u hu => ?_⟩
  rw [← fm_take hf, ← fm_drop hf] at hu
  have hj : j < k * m := by
    have := (List.getElem?_eq_some_iff.1 hu).1
    rw [List.length_take] at this; omega
  rw [List.getElem?_take_of_lt hj, List.getElem?_drop] at hu
  have := h.cells (g := g) rfl (i * m + j) u hu
  rw [Addr.add_lit, Nat.zero_add] at this
  rw [Addr.add_lit]
  exact this
end
/-! ### slices of digits -/
def dv (d : Nat) : Value := .int .u32 (d : Int)
theorem Tryz.infoU32 : (Tryz.prog.info? 127).map (fun i => (i.zero, i.size, i.bytes)) = some (some (.int .u32 0), 1, 4) := by kernel_rfl
/-- a slice whose elements are the digits l -/
def Rds (w : World) (v : Value) (l : List Nat) : Prop :=
  Dig l ∧ ∃ ao c, v = .slice ao l.length c ∧ l.length ≤ c ∧ c ≤ maxLen ∧ (ao = none → c = 0) ∧ (0 < l.length → ∃ b off, ao = some ⟨b, off, none⟩ ∧ b < w.heap.size ∧ ∀ i d, l[i]? = some d → w.cell? ⟨b, off + i, none⟩ = some (dv d))
theorem Rds.nil (w : World) : Rds w (.slice none 0 0) [] := ⟨Dig.nil, none, 0, rfl, Nat.le_refl _, Nat.zero_le _, fun _ => rfl, fun h => absurd h (Nat.lt_irrefl 0)⟩
theorem Rds.keep {w w' : World} {v : Value} {l : List Nat} (h : Rds w v l) (hx : Ext (fun _ => False) w w') : Rds w' v l := by
  obtain ⟨h0, ao, c, rfl, h1, h2, h3, h4⟩ := h
  refine ⟨h0, ao, c, rfl, h1, h2, h3, fun hp => ?_⟩
  obtain ⟨b, off, e, hb, hc⟩ := h4 hp
  exact ⟨b, off, e, Nat.lt_of_lt_of_le hb hx.size, fun i d hi => (hx.cell (p := ⟨b, off + i, none⟩) hb id).trans (hc i d hi)⟩
/-- a row of the call's own that holds digits -/
def Own (w : World) (base : Nat) (v : Value) (l : List Nat) : Prop := w.ownsRow base 127 1 v l.length (l.map dv)
theorem Own.rds {w : World} {base : Nat} {v : Value} {l : List Nat} (h : Own w base v l) (hd : Dig l) : Rds w v l := by
  refine ⟨hd, ?_⟩
  rcases h.2 with ⟨h1, h2⟩ | ⟨g, c, cur, h1, _, h3, h4, h5, _, _⟩
  · exact ⟨none, 0, by rw [h1, h2], by omega, Nat.zero_le _, fun _ => rfl, fun h => by omega⟩
  · subst h1
    refine ⟨_, c, rfl, h4, h5, fun h => (by cases h), fun _ => ⟨g, 0, rfl, blk_lt (w := w) (b := g) h3, fun i d hi => ?_⟩⟩
    have := World.ownsRow.cells h (g := g) rfl i (dv d) (by rw [List.getElem?_map, hi]; rfl)
    rwa [Addr.add_lit] at this
/-- a result: the only form of n -/
def IsNat (w : World) (v : Value) (n : Nat) : Prop := Rds w v (dg n)
def NatPost (w : World) (n : Nat) (r : Ending) (w' : World) : Prop := ∃ v, r = .returned v ∧ IsNat w' v n ∧ Ext (fun _ => False) w w'
/-- the first n digits, the capacity cut too -/
theorem Rds.take {w : World} {ao : Option Addr} {c m : Nat} {l : List Nat} (h : Rds w (.slice ao m c) l) (n : Nat) (hn : n ≤ m) (h0 : ao = none → n = 0) : Rds w (.slice ao n n) (l.take n) := by
  obtain ⟨hd, ao', c', e, h1, h2, h3, h4⟩ := h
  cases e
  have hl : (l.take n).length = n := by rw [List.length_take]; omega
  refine ⟨hd.take n, ao, n, by rw [hl], by omega, by omega, h0, fun hp => ?_⟩
  obtain ⟨b, off, e, hb, hc⟩ := h4 (by omega)
  refine ⟨b, off, e, hb, fun i d hi => hc i d ?_⟩
  have hlt := (List.getElem?_eq_some_iff.1 hi).1
  rwa [List.getElem?_take_of_lt (by omega)] at hi
/-- the same base, its head -/
def CutOf (v v' : Value) : Prop := ∀ ao m c, v = .slice ao m c → ∃ n, v' = .slice ao n n
def SamePost (w : World) (Q : Value → Prop) (r : Ending) (w' : World) : Prop := w' = w ∧ ∃ v, r = .returned v ∧ Q v
set_option maxRecDepth 100000 in
set_option maxHeartbeats 1000000 in
theorem trim_at (w : World) (v : Value) (l : List Nat) (h : Rds w v l) : Calls Tryz.prog 185 #[v] w (SamePost w fun v' => Rds w v' (trimL l) ∧ CutOf v v') := by
  have h' := h
  obtain ⟨hd, ao, c, rfl, h1, h2, h3, h4⟩ := h'
  obtain ⟨m, hm⟩ : ∃ m, l.length = m := ⟨_, rfl⟩
  have hmx : m ≤ 9223372036854775807 := by unfold maxLen at h2; omega
  rw [hm] at h h1 h4 ⊢
  have H := Lib.hid h
  have H4 := Lib.hid h4
  have Hm := Lib.hid hm
  have Hd := Lib.hid hd
  clear h h4 hm hd
  go_enter Tryz.func185, Tryz.ntmps185
  go_wp2_with fail
  go_loopg [3] m (fun g v3 wr => ∃ n : Nat, n ≤ m ∧ g = n ∧ v3 = .int .i64 n ∧ wr = w ∧ ∀ i, n ≤ i → (hi : i < l.length) → l[i] = 0)
  case atStart => exact ⟨m, Nat.le_refl _, rfl, rfl, rfl, fun i hi hl => by have := Hm.out; omega⟩
  case round =>
    obtain ⟨n, hn, hg, rfl, hwr, hz⟩ := hrel
    obtain rfl := hg.symm
    obtain rfl := hwr.symm
    by_cases h0 : n = 0
    · subst h0
      have HR := Lib.hid (H.out.take 0 hn (fun _ => rfl))
      have HT := Lib.hid (trim_take Hd.out (Nat.zero_le _) hz (.inl rfl))
      clear hz
      cases ao with
      | none =>
        have hc := h3 rfl
        subst hc
        go_wp2
        go_ret
        exact ⟨rfl, _, rfl, (by rw [← HT.out]; exact HR.out), (by intro _ _ _ e; cases e; exact ⟨_, rfl⟩)⟩
      | some ad =>
        go_wp2
        go_ret
        exact ⟨rfl, _, rfl, (by rw [← HT.out]; exact HR.out), (by intro _ _ _ e; cases e; exact ⟨_, rfl⟩)⟩
    · obtain ⟨b, off, rfl, hb, hc⟩ := H4.out (by omega)
      obtain ⟨j, rfl⟩ : ∃ j, n = j + 1 := ⟨n - 1, by omega⟩
      have hj : j < l.length := by have := Hm.out; omega
      have c0 := hc j l[j] (List.getElem?_eq_getElem hj)
      unfold dv at c0
      have hd := Hd.out.get j hj
      have p0 : (0 : Int) < ((j + 1 : Nat) : Int) := by omega
      have p1 : ((j + 1 : Nat) : Int) - 1 = j := by omega
      by_cases hz0 : l[j] = 0
      · rw [hz0] at c0
        clear hc
        have Hz := Lib.hid hz
        clear hz
        go_wp2
        go_roundg j
        case measure => omega
        case rel => exact ⟨j, by omega, rfl, by go_num, rfl, fun i hi hl => by
          by_cases e : i = j
          · subst e; exact hz0
          · exact Hz.out i (by omega) hl⟩
      · have HR := Lib.hid (H.out.take (j + 1) hn (fun h => by cases h))
        have HT := Lib.hid (trim_take Hd.out (by have := Hm.out; omega) hz (.inr ⟨by omega, by simpa using hz0⟩))
        have hz1 : ¬ (l[j] : Int) = 0 := by omega
        clear hz hc
        generalize l[j] = dj at *
        go_wp2
        go_ret
        exact ⟨rfl, _, rfl, (by rw [← HT.out]; exact HR.out), (by intro _ _ _ e; cases e; exact ⟨_, rfl⟩)⟩
theorem trim_any (w : World) (v : Value) (l : List Nat) (h : Rds w v l) : Calls Tryz.prog 185 #[v] w (SamePost w fun v' => Rds w v' (trimL l)) :=
  (trim_at w v l h).mono fun _ _ h => ⟨h.1, h.2.imp fun _ h => ⟨h.1, h.2.1⟩⟩
end Go.Proofs.YtbgienfcmdgaaaaGreat
/-
  Package natural: digit, slices.Clone of digits, fresh, the functions that combine digits. Conditions: the arguments read as digits, lengths bounded.
-/
namespace Go.Proofs.YtbgienfcmdgaaaaGreat
open Go.RowKit Go.MapKept
open Go.ChangeMaps (setBlock)

theorem Ext.own {w0 w w' : World} {S : Nat → Prop} (h : Ext (fun _ => False) w0 w) (hx : Ext S w w') (hb : ∀ k, S k → w0.heap.size ≤ k) : Ext (fun _ => False) w0 w' :=
  h.trans' hx (fun k hk e => absurd hk (by have := hb k e; omega))
theorem ext_any {w w' : World} (h : Ext (fun _ => False) w w') (S : Nat → Prop) : Ext S w w' := h.mono (fun _ _ h => h.elim)
theorem ownsRow_shape {w : World} {base : Nat} {e : TypeId} {size : Nat} {v : Value} {n : Nat} {xs : List Value} (h : w.ownsRow base e size v n xs) : ∃ ao cap, v = .slice ao n cap := by
  rcases h.2 with ⟨h1, h2⟩ | ⟨g, c, cur, h1, _⟩
  · exact ⟨none, 0, by rw [h1, h2]⟩
  · exact ⟨_, _, h1⟩
theorem ownsRow_empty {w : World} {base g : Nat} {e : TypeId} (size : Nat) (hg : base ≤ g) (h : blk w g = some (.cells #[] e (0, 0))) : w.ownsRow base e size (.slice (some ⟨g, 0, none⟩) 0 0) 0 [] :=
  ⟨by simp, .inr ⟨g, 0, #[], rfl, hg, h, Nat.le_refl _, Nat.zero_le _, by simp, by simp⟩⟩
theorem own_step {v' v : Value} {w : World} {b : Nat} (hat : v'.ownBlock = v.ownBlock ∨ v'.ownBlock = some w.heap.size) (hv : ∀ g, v.ownBlock = some g → b ≤ g) (hb : b ≤ w.heap.size) : ∀ g, v'.ownBlock = some g → b ≤ g := fun g e => by
  rcases hat with h | h
  · exact hv g (h.symm.trans e)
  · rw [h] at e; cases e; exact hb
theorem dv_one (l : List Nat) : ∀ u ∈ l.map dv, u.oneCell' = true := fun u hu => by
  obtain ⟨d, _, rfl⟩ := List.mem_map.1 hu
  rfl
theorem Own.nil (w : World) (base : Nat) : Own w base (.slice none 0 0) [] := World.ownsRow_nil w base _ 1
theorem Own.shape {w : World} {base : Nat} {v : Value} {l : List Nat} (h : Own w base v l) : ∃ ao cap, v = .slice ao l.length cap := ownsRow_shape h
theorem Own.keep {w w' : World} {base : Nat} {v : Value} {l : List Nat} (h : Own w base v l) (hx : Ext (fun _ => False) w w') : Own w' base v l := ownsRow_ext h hx (fun _ _ h => h)
theorem Own.ge {w : World} {base : Nat} {v : Value} {l : List Nat} (h : Own w base v l) : ∀ g, v.ownBlock = some g → base ≤ g := fun g e => by
  rcases h.2 with ⟨h1, _⟩ | ⟨g1, c, cur, h1, h2, _⟩
  · subst h1; cases e
  · subst h1; cases e; exact h2
theorem Own.lt {w : World} {base : Nat} {v : Value} {l : List Nat} (h : Own w base v l) : ∀ g, v.ownBlock = some g → g < w.heap.size := fun g e => by
  rcases h.2 with ⟨h1, _⟩ | ⟨g1, c, cur, h1, h2, h3, _⟩
  · subst h1; cases e
  · subst h1; cases e; exact blk_lt (w := w) (b := g1) h3
def OwnPost (w : World) (l : List Nat) (r : Ending) (w' : World) : Prop := ∃ v', r = .returned v' ∧ Own w' w.heap.size v' l ∧ Ext (fun _ => False) w w'
theorem Rds.lies {w : World} {ao : Option Addr} {m c : Nat} {l : List Nat} (h : Rds w (.slice ao m c) l) : Lies w ao m (l.map dv) := by
  obtain ⟨_, ao', c', e, h1, h2, h3, h4⟩ := h
  cases e
  by_cases h0 : l.length = 0
  · exact .inl h0
  · obtain ⟨b, off, rfl, hb, hc⟩ := h4 (by omega)
    refine .inr ⟨_, rfl, fun j u hu => ?_⟩
    rw [List.getElem?_map] at hu
    cases hq : l[j]? with
    | none => rw [hq] at hu; cases hu
    | some d => rw [hq] at hu; cases hu; rw [Addr.add_lit]; exact hc j d hq
set_option maxRecDepth 100000 in
set_option maxHeartbeats 1000000 in
theorem clone_any (w : World) (v : Value) (l : List Nat) (h : Rds w v l) (hl : l.length ≤ 1073741824) : Calls Tryz.prog 205 #[v] w (OwnPost w l) := by
  have h' := h
  obtain ⟨hd, ao, c, rfl, h1, h2, h3, h4⟩ := h'
  obtain ⟨m, hm⟩ : ∃ m, l.length = m := ⟨_, rfl⟩
  rw [hm] at h h1 h4 hl ⊢
  obtain ⟨i0, hi, hz0, hz1, hz2⟩ := info_parts Tryz.infoU32
  have H := Lib.hid h
  have Hm := Lib.hid hm
  have Hi := Lib.hid (And.intro hi (And.intro hz0 (And.intro hz1 hz2)))
  have q22 : ∀ (w : World) (a : Option Addr) (n c n' c' : Nat), (binOp .eql 27 (.slice a n c) (.slice none n' c')).run Tryz.prog w = .ok (.bool a.isNone) w := fun w a n c n' c' => Lib.run_eql_slice_nil w _ _ a n c n' c' Tryz.underlying27
  clear h h4 hm hd hi hz0 hz1 hz2
  cases ao with
  | none =>
    have hc := h3 rfl
    subst hc
    have hm0 : m = 0 := by omega
    subst hm0
    obtain rfl := List.eq_nil_of_length_eq_zero Hm.out
    go_enter Tryz.func205, Tryz.ntmps205
    go_wp2
    go_ret
    exact ⟨_, rfl, Own.nil _ _, Ext.refl _ _⟩
  | some ad =>
    have hx1 : Ext (fun _ => False) w (w.alloc (.cells #[] 127)) := (Ext.refl _ w).alloc _
    have hb1 : blk (w.alloc (.cells #[] 127)) w.heap.size = some (.cells #[] 127 (0, 0)) := blk_alloc_at _ _
    have L1 := (H.out.keep hx1).lies
    have HL := Lib.hid L1
    have HX1 := Lib.hid hx1
    have HB1 := Lib.hid hb1
    clear L1 hx1 hb1
    go_enter Tryz.func205, Tryz.ntmps205
    go_wp2_with (at_builtin; refine wpList_append_any rfl (.tmp 5) (.tmp 6) 27 rfl w.heap.size 127 i0 _ 1 4 Tryz.underlying27 Hi.out.1 Hi.out.2.1 Hi.out.2.2.1 Hi.out.2.2.2 rfl (by decide) _ 0 [] rfl (ownsRow_empty 1 (Nat.le_refl _) HB1.out) _ _ _ (fun e => by cases e) _ rfl (by have := Hm.out; simp [this]) HL.out (dv_one _) (by simp only [maxLen]; omega) (by omega) (by simp) ?_; intro v5 w5 hown5 hgrow5 hat5; have HO : Hid (OwnPost w l (.returned v5) w5) := Lib.hid ⟨v5, rfl, (by unfold Own; have := Hm.out; rw [this]; simpa using hown5), HX1.out.own ((Ext.refl (fun k => w.heap.size = k) _).grown hgrow5 (fun k e _ => Option.some.inj e)) (fun k e => Nat.le_of_eq e)⟩; clear hown5 hgrow5 hat5)
    go_wp2
    go_ret
    exact HO.out
set_option maxRecDepth 100000 in
set_option maxHeartbeats 1000000 in
theorem fresh_any (w : World) (v : Value) (l : List Nat) (h : Rds w v l) (hl : l.length ≤ 1073741824) : Calls Tryz.prog 189 #[v] w (NatPost w (vl l)) := by
  have H := Lib.hid h
  have h2 := trimL_length l h.1
  have hlen : (trimL l).length ≤ 1073741824 := by omega
  clear h h2
  go_enter Tryz.func189, Tryz.ntmps189
  go_wp2_with fail
  refine (trim_any w v l H.out).mono ?_
  rintro r w' ⟨hw, v1, rfl, h1⟩; obtain rfl := hw.symm
  have H1 := Lib.hid h1
  clear h1 hw
  go_wp2_with fail
  refine (clone_any w v1 _ H1.out hlen).mono ?_
  rintro r w2 ⟨v2, rfl, ho, hx⟩
  have HP : Hid (NatPost w (vl l) (.returned v2) w2) := Lib.hid ⟨v2, rfl, ho.rds (dg_dig _), hx⟩
  clear ho hx
  go_wp2
  go_ret
  exact HP.out
set_option maxRecDepth 100000 in
set_option maxHeartbeats 1000000 in
theorem digit_any (w : World) (v : Value) (l : List Nat) (h : Rds w v l) (i : Nat) (hi : i ≤ 9223372036854775807) : Calls Tryz.prog 192 #[v, .int .i64 i] w fun r w' => r = .returned (.int .u64 (dgt l i)) ∧ w' = w := by
  have h' := h
  obtain ⟨hd, ao, c, rfl, h1, h2, h3, h4⟩ := h'
  obtain ⟨m, hm⟩ : ∃ m, l.length = m := ⟨_, rfl⟩
  have hmx : m ≤ 9223372036854775807 := by unfold maxLen at h2; omega
  by_cases hlt : i < l.length
  · obtain ⟨b, off, rfl, hb, hc⟩ := h4 (by omega)
    have c0 := hc i l[i] (List.getElem?_eq_getElem hlt)
    unfold dv at c0
    rw [dgt_in hlt]
    have hdi := hd.get i hlt
    rw [hm] at hlt ⊢
    clear hc h h3 h4
    generalize l[i] = d at *
    have i0 : (0 : Int) ≤ (i : Int) := by omega
    have i1 : (i : Int) < (m : Int) := by omega
    have hw : IntKind.u64.wrap (d : Int) = d := IntWalk.u64_in _ (by omega)
    go_enter Tryz.func192, Tryz.ntmps192
    go_wp2
    go_ret
    exact ⟨ret_int (by omega), rfl⟩
  · rw [dgt_out (by omega)]
    rw [hm] at hlt ⊢
    have i1 : (m : Int) ≤ (i : Int) := by omega
    clear h h3 h4
    go_enter Tryz.func192, Tryz.ntmps192
    go_wp2
    go_ret
    exact ⟨rfl, rfl⟩
end Go.Proofs.YtbgienfcmdgaaaaGreat
/-
  Package natural: Add, Sub, Cmp, From. Conditions: the arguments read as digits, lengths bounded.
-/
namespace Go.Proofs.YtbgienfcmdgaaaaGreat
open Go.RowKit Go.MapKept
open Go.ChangeMaps (setBlock)

theorem ret_two {k k' : IntKind} {a b c d : Int} (h : a = b) (h' : c = d) : Ending.returned (.tuple #[.int k a, .int k' c]) = .returned (.tuple #[.int k b, .int k' d]) := by rw [h, h']
theorem row_ge {w : World} {base : Nat} {e : TypeId} {size : Nat} {v : Value} {n : Nat} {xs : List Value} (h : w.ownsRow base e size v n xs) : ∀ g, v.ownBlock = some g → base ≤ g := fun g e => by
  rcases h.2 with ⟨h1, _⟩ | ⟨g1, c, cur, h1, h2, _⟩
  · subst h1; cases e
  · subst h1; cases e; exact h2
theorem own_app {w : World} {base j D : Nat} {v : Value} {o : List Nat} (hlen : o.length = j) (h : w.ownsRow base 127 1 v (j + 1) (o.map dv ++ [.int .u32 (D : Int)])) : Own w base v (o ++ [D]) := by
  unfold Own
  rw [List.length_append, hlen, List.map_append]
  exact h
theorem wrapU (x : Int) : IntKind.u64.wrap x = x % 18446744073709551616 := by simp [IntKind.wrap, IntKind.bits, IntKind.signed]
set_option maxRecDepth 100000 in
set_option maxHeartbeats 1000000 in
theorem addF_any (w : World) (x y c : Nat) (hx : x < 4294967296) (hy : y < 4294967296) (hc : c ≤ 1) :
    Calls Tryz.prog 191 #[.int .u64 x, .int .u64 y, .int .u64 c] w fun r w' => r = .returned (.tuple #[dv ((x + y + c) % 4294967296), .int .u64 ((x + y + c) / 4294967296 : Nat)]) ∧ w' = w := by
  go_enter Tryz.func191, Tryz.ntmps191
  go_wp2
  go_ret2
  exact ⟨ret_two (k := .u32) (k' := .u64) (by omega) (by omega), rfl⟩
set_option maxRecDepth 100000 in
set_option maxHeartbeats 1000000 in
theorem subF_any (w : World) (x y c : Nat) (hx : x < 4294967296) (hy : y < 4294967296) (hc : c ≤ 1) :
    Calls Tryz.prog 193 #[.int .u64 x, .int .u64 y, .int .u64 c] w fun r w' => r = .returned (.tuple #[dv (subD x y c), .int .u64 (subB x y c : Nat)]) ∧ w' = w := by
  go_enter Tryz.func193, Tryz.ntmps193
  go_wp2
  go_ret2
  refine ⟨ret_two (k := .u32) (k' := .u64) ?_ ?_, rfl⟩
  · rw [wrapU, wrapU]; unfold subD; split <;> omega
  · rw [wrapU, wrapU]; unfold subB; split <;> omega
set_option maxRecDepth 100000 in
set_option maxHeartbeats 2000000 in
theorem combineAdd_any (w : World) (va vb : Value) (a b : List Nat) (ha : Rds w va a) (hb : Rds w vb b) (hal : a.length ≤ 1073741823) (hbl : b.length ≤ 1073741823) :
    Calls Tryz.prog 190 #[va, vb, .func (.func 191) #[] #[]] w fun r w' => ∃ v o c, r = .returned v ∧ AddSt a b (max a.length b.length + 1) o c ∧ Rds w' v (trimL o) ∧ Ext (fun _ => False) w w' := by
  obtain ⟨ada, aao, ac, rfl, _⟩ := id ha
  obtain ⟨bda, bao, bc, rfl, _⟩ := id hb
  obtain ⟨m, hm⟩ : ∃ m, max a.length b.length + 1 = m := ⟨_, rfl⟩
  have hmx : m ≤ 1073741824 := by omega
  have hm2 : max (a.length : Int) (b.length : Int) + 1 = m := by omega
  obtain ⟨i0, hi, hz0, hz1, hz2⟩ := info_parts Tryz.infoU32
  have Ha := Lib.hid ha
  have Hb := Lib.hid hb
  have Hi := Lib.hid (And.intro hi (And.intro hz0 (And.intro hz1 hz2)))
  clear ha hb hi hz0 hz1 hz2
  rw [hm]
  generalize hna : a.length = na at *
  generalize hnb : b.length = nb at *
  have HN := Lib.hid (And.intro hna hnb)
  clear hna hnb
  go_enter Tryz.func190, Tryz.ntmps190
  go_upto_region 3 with fail
  go_cut [16, 17] (fun v16 v17 wx => v16 = .int .i64 m ∧ v17 = .int .i64 0 ∧ wx = w)
  case first =>
    by_cases hc : na < nb
    · go_wp2
      go_meet
      exact ⟨by go_num, rfl, rfl⟩
    · go_wp2
      go_meet
      exact ⟨by go_num, rfl, rfl⟩
  case rest =>
    obtain ⟨rfl, rfl, hwc⟩ := hcut
    obtain rfl := hwc.symm
    go_wp2_with fail
    go_loopg [7, 8, 17] m (fun g v7 v8 v17 wr => ∃ (j : Nat) (o : List Nat) (c : Nat), j ≤ m ∧ g = m - j ∧ v17 = .int .i64 j ∧ v8 = .int .u64 c ∧ AddSt a b j o c ∧ Own wr w.heap.size v7 o ∧ Ext (fun _ => False) w wr)
    case atStart => exact ⟨0, [], 0, Nat.zero_le _, rfl, rfl, rfl, AddSt.zero a b, Own.nil _ _, Ext.refl _ _⟩
    case round =>
      obtain ⟨j, o, c, hj, rfl, rfl, rfl, hst, ho, hx⟩ := hrel
      by_cases hjm : j < m
      · have hda := digit_any wr _ a (Ha.out.keep hx) j (by omega)
        have hdb := digit_any wr _ b (Hb.out.keep hx) j (by omega)
        have h1 := dgt_lt Ha.out.1 j
        have h2 := dgt_lt Hb.out.1 j
        have hF := addF_any wr _ _ _ h1 h2 hst.car
        have hst2 := hst.step Ha.out.1 Hb.out.1
        obtain ⟨ao, cap, rfl⟩ := ho.shape
        have Hda := Lib.hid hda
        have Hdb := Lib.hid hdb
        have HF := Lib.hid hF
        have Hst := Lib.hid hst2
        have Ho := Lib.hid ho
        have Hx := Lib.hid hx
        have hlen := hst.len
        clear hda hdb hF hst hst2 ho hx h1 h2
        go_wp2_with fail
        refine Hda.out.mono ?_
        rintro r w' ⟨rfl, hw⟩; obtain rfl := hw.symm
        go_wp2_with fail
        refine Hdb.out.mono ?_
        rintro r w' ⟨rfl, hw⟩; obtain rfl := hw.symm
        go_wp2_with fail
        refine HF.out.mono ?_
        rintro r w' ⟨rfl, hw⟩; obtain rfl := hw.symm
        obtain ⟨D, hD⟩ : ∃ D, (dgt a j + dgt b j + c) % 4294967296 = D := ⟨_, rfl⟩
        obtain ⟨E, hE⟩ : ∃ E, (dgt a j + dgt b j + c) / 4294967296 = E := ⟨_, rfl⟩
        rw [hD, hE] at Hst
        rw [hD, hE]
        have hx1 : Ext (fun _ => False) wr (wr.alloc (.cells #[dv D] 127)) := (Ext.refl _ wr).alloc _
        have HX1 := Lib.hid hx1
        have HO1 : Hid ((wr.alloc (.cells #[dv D] 127)).ownsRow w.heap.size 127 1 (.slice ao j cap) j (o.map dv)) := Lib.hid (by have := Ho.out.keep hx1; unfold Own at this; rw [hlen] at this; exact this)
        have HG := Lib.hid (row_ge HO1.out)
        clear hx1 hD hE Hda Hdb HF hw
        unfold dv at HX1 HO1 ⊢
        go_wp2_with (at_builtin; refine wpList_append_any rfl (.tmp 32) (.tmp 34) 27 rfl w.heap.size 127 i0 _ 1 4 Tryz.underlying27 Hi.out.1 Hi.out.2.1 Hi.out.2.2.1 Hi.out.2.2.2 rfl (by decide) _ _ _ rfl HO1.out _ 1 1 (fun e => by cases e) [.int .u32 (D : Int)] rfl rfl (.inr ⟨_, rfl, cells_new [.int .u32 (D : Int)] _ rfl⟩) (dv_one [D]) (by simp only [maxLen]; omega) (by omega) (Nat.le_trans Hx.out.size HX1.out.size) ?_; intro v5 w5 hown5 hgrow5 hat5; have HO : Hid (Own w5 w.heap.size v5 (o ++ [D])) := Lib.hid (own_app hlen hown5); have HX : Hid (Ext (fun _ => False) w w5) := Lib.hid ((Hx.out.trans HX1.out).grown hgrow5 (fun k e h => absurd (HG.out k e) (by omega))); clear hown5 hgrow5 hat5)
        go_wp2
        go_roundg (m - (j + 1))
        case measure => omega
        case rel => exact ⟨j + 1, _, _, by omega, rfl, by go_num, rfl, Hst.out, HO.out, HX.out⟩
      · have e : j = m := by omega
        subst e
        have HT := Lib.hid (trim_any wr _ o (ho.rds hst.dig))
        have HS := Lib.hid hst
        have Hx := Lib.hid hx
        clear hst ho hx
        go_wp2_with fail
        refine HT.out.mono ?_
        rintro r w' ⟨hw, v9, rfl, h9⟩; obtain rfl := hw.symm
        have H9 := Lib.hid h9
        clear h9 HT hw
        go_wp2
        go_ret
        exact ⟨_, o, c, rfl, HS.out, H9.out, Hx.out⟩
set_option maxRecDepth 100000 in
set_option maxHeartbeats 2000000 in
theorem combineSub_any (w : World) (va vb : Value) (a b : List Nat) (ha : Rds w va a) (hb : Rds w vb b) (hal : a.length ≤ 1073741823) (hbl : b.length ≤ 1073741823) :
    Calls Tryz.prog 190 #[va, vb, .func (.func 193) #[] #[]] w fun r w' => ∃ v o c, r = .returned v ∧ SubSt a b (max a.length b.length + 1) o c ∧ Rds w' v (trimL o) ∧ Ext (fun _ => False) w w' := by
  obtain ⟨ada, aao, ac, rfl, _⟩ := id ha
  obtain ⟨bda, bao, bc, rfl, _⟩ := id hb
  obtain ⟨m, hm⟩ : ∃ m, max a.length b.length + 1 = m := ⟨_, rfl⟩
  have hmx : m ≤ 1073741824 := by omega
  have hm2 : max (a.length : Int) (b.length : Int) + 1 = m := by omega
  obtain ⟨i0, hi, hz0, hz1, hz2⟩ := info_parts Tryz.infoU32
  have Ha := Lib.hid ha
  have Hb := Lib.hid hb
  have Hi := Lib.hid (And.intro hi (And.intro hz0 (And.intro hz1 hz2)))
  clear ha hb hi hz0 hz1 hz2
  rw [hm]
  generalize hna : a.length = na at *
  generalize hnb : b.length = nb at *
  have HN := Lib.hid (And.intro hna hnb)
  clear hna hnb
  go_enter Tryz.func190, Tryz.ntmps190
  go_upto_region 3 with fail
  go_cut [16, 17] (fun v16 v17 wx => v16 = .int .i64 m ∧ v17 = .int .i64 0 ∧ wx = w)
  case first =>
    by_cases hc : na < nb
    · go_wp2
      go_meet
      exact ⟨by go_num, rfl, rfl⟩
    · go_wp2
      go_meet
      exact ⟨by go_num, rfl, rfl⟩
  case rest =>
    obtain ⟨rfl, rfl, hwc⟩ := hcut
    obtain rfl := hwc.symm
    go_wp2_with fail
    go_loopg [7, 8, 17] m (fun g v7 v8 v17 wr => ∃ (j : Nat) (o : List Nat) (c : Nat), j ≤ m ∧ g = m - j ∧ v17 = .int .i64 j ∧ v8 = .int .u64 c ∧ SubSt a b j o c ∧ Own wr w.heap.size v7 o ∧ Ext (fun _ => False) w wr)
    case atStart => exact ⟨0, [], 0, Nat.zero_le _, rfl, rfl, rfl, SubSt.zero a b, Own.nil _ _, Ext.refl _ _⟩
    case round =>
      obtain ⟨j, o, c, hj, rfl, rfl, rfl, hst, ho, hx⟩ := hrel
      by_cases hjm : j < m
      · have hda := digit_any wr _ a (Ha.out.keep hx) j (by omega)
        have hdb := digit_any wr _ b (Hb.out.keep hx) j (by omega)
        have h1 := dgt_lt Ha.out.1 j
        have h2 := dgt_lt Hb.out.1 j
        have hF := subF_any wr _ _ _ h1 h2 hst.car
        have hst2 := hst.step Ha.out.1 Hb.out.1
        obtain ⟨ao, cap, rfl⟩ := ho.shape
        have Hda := Lib.hid hda
        have Hdb := Lib.hid hdb
        have HF := Lib.hid hF
        have Hst := Lib.hid hst2
        have Ho := Lib.hid ho
        have Hx := Lib.hid hx
        have hlen := hst.len
        clear hda hdb hF hst hst2 ho hx h1 h2
        go_wp2_with fail
        refine Hda.out.mono ?_
        rintro r w' ⟨rfl, hw⟩; obtain rfl := hw.symm
        go_wp2_with fail
        refine Hdb.out.mono ?_
        rintro r w' ⟨rfl, hw⟩; obtain rfl := hw.symm
        go_wp2_with fail
        refine HF.out.mono ?_
        rintro r w' ⟨rfl, hw⟩; obtain rfl := hw.symm
        obtain ⟨D, hD⟩ : ∃ D, subD (dgt a j) (dgt b j) c = D := ⟨_, rfl⟩
        obtain ⟨E, hE⟩ : ∃ E, subB (dgt a j) (dgt b j) c = E := ⟨_, rfl⟩
        rw [hD, hE] at Hst
        rw [hD, hE]
        have hx1 : Ext (fun _ => False) wr (wr.alloc (.cells #[dv D] 127)) := (Ext.refl _ wr).alloc _
        have HX1 := Lib.hid hx1
        have HO1 : Hid ((wr.alloc (.cells #[dv D] 127)).ownsRow w.heap.size 127 1 (.slice ao j cap) j (o.map dv)) := Lib.hid (by have := Ho.out.keep hx1; unfold Own at this; rw [hlen] at this; exact this)
        have HG := Lib.hid (row_ge HO1.out)
        clear hx1 hD hE Hda Hdb HF hw
        unfold dv at HX1 HO1 ⊢
        go_wp2_with (at_builtin; refine wpList_append_any rfl (.tmp 32) (.tmp 34) 27 rfl w.heap.size 127 i0 _ 1 4 Tryz.underlying27 Hi.out.1 Hi.out.2.1 Hi.out.2.2.1 Hi.out.2.2.2 rfl (by decide) _ _ _ rfl HO1.out _ 1 1 (fun e => by cases e) [.int .u32 (D : Int)] rfl rfl (.inr ⟨_, rfl, cells_new [.int .u32 (D : Int)] _ rfl⟩) (dv_one [D]) (by simp only [maxLen]; omega) (by omega) (Nat.le_trans Hx.out.size HX1.out.size) ?_; intro v5 w5 hown5 hgrow5 hat5; have HO : Hid (Own w5 w.heap.size v5 (o ++ [D])) := Lib.hid (own_app hlen hown5); have HX : Hid (Ext (fun _ => False) w w5) := Lib.hid ((Hx.out.trans HX1.out).grown hgrow5 (fun k e h => absurd (HG.out k e) (by omega))); clear hown5 hgrow5 hat5)
        go_wp2
        go_roundg (m - (j + 1))
        case measure => omega
        case rel => exact ⟨j + 1, _, _, by omega, rfl, by go_num, rfl, Hst.out, HO.out, HX.out⟩
      · have e : j = m := by omega
        subst e
        have HT := Lib.hid (trim_any wr _ o (ho.rds hst.dig))
        have HS := Lib.hid hst
        have Hx := Lib.hid hx
        clear hst ho hx
        go_wp2_with fail
        refine HT.out.mono ?_
        rintro r w' ⟨hw, v9, rfl, h9⟩; obtain rfl := hw.symm
        have H9 := Lib.hid h9
        clear h9 HT hw
        go_wp2
        go_ret
        exact ⟨_, o, c, rfl, HS.out, H9.out, Hx.out⟩
end Go.Proofs.YtbgienfcmdgaaaaGreat
/-
  Package natural: Add, Sub, Cmp, From. Conditions: the arguments read as digits, lengths bounded.
-/
namespace Go.Proofs.YtbgienfcmdgaaaaGreat
open Go.RowKit Go.MapKept
open Go.ChangeMaps (setBlock)

theorem vl_take_lt {l : List Nat} (hl : Dig l) (i : Nat) : vl (l.take i) < 4294967296 ^ i :=
  Nat.lt_of_lt_of_le (vl_lt (hl.take i)) (pow_mono (by rw [List.length_take]; omega))
theorem dgt_lt_step {P x y d e : Nat} (hx : x < P) (h : d < e) : x + P * d < y + P * e := by
  have := Nat.mul_le_mul_left P h
  rw [Nat.mul_succ] at this
  omega
theorem vl_less {a b : List Nat} (ha : Dig a) {i : Nat} (h : dgt a i < dgt b i) (hh : ∀ j, i + 1 ≤ j → dgt a j = dgt b j) : vl a < vl b := by
  have key : ∀ n, vl (a.take (i + 1 + n)) < vl (b.take (i + 1 + n)) := fun n => by
    induction n with
    | zero => rw [Nat.add_zero, vl_take_dgt, vl_take_dgt]; exact dgt_lt_step (vl_take_lt ha i) h
    | succ n ih => rw [← Nat.add_assoc, vl_take_dgt, vl_take_dgt, hh _ (by omega)]; exact Nat.add_lt_add_right ih _
  have := key (a.length + b.length)
  rwa [vl_take_all (by omega), vl_take_all (by omega)] at this
theorem vl_equal {a b : List Nat} (hh : ∀ j, dgt a j = dgt b j) : vl a = vl b := by
  have key : ∀ n, vl (a.take n) = vl (b.take n) := fun n => by
    induction n with
    | zero => simp
    | succ n ih => rw [vl_take_dgt, vl_take_dgt, ih, hh]
  have := key (a.length + b.length)
  rwa [vl_take_all (by omega), vl_take_all (by omega)] at this
def cmpN (x y : Nat) : Int := if x < y then -1 else if y < x then 1 else 0
set_option maxRecDepth 100000 in
set_option maxHeartbeats 1000000 in
theorem add_any (w : World) (va vb : Value) (a b : List Nat) (ha : Rds w va a) (hb : Rds w vb b) (hal : a.length ≤ 1073741823) (hbl : b.length ≤ 1073741823) :
    Calls Tryz.prog 161 #[va, vb] w (NatPost w (vl a + vl b)) := by
  have H := Lib.hid (combineAdd_any w va vb a b ha hb hal hbl)
  have HA := Lib.hid (And.intro ha.1 hb.1)
  clear ha hb
  go_enter Tryz.func161, Tryz.ntmps161
  go_wp2_with fail
  refine H.out.mono ?_
  rintro r w' ⟨v, o, c, rfl, hst, hr, hx⟩
  have HP : Hid (NatPost w (vl a + vl b) (.returned v) w') := Lib.hid ⟨v, rfl, by unfold IsNat; rw [← hst.done HA.out.1 HA.out.2]; exact hr, hx⟩
  clear hst hr hx
  go_wp2
  go_ret
  exact HP.out
set_option maxRecDepth 100000 in
set_option maxHeartbeats 2000000 in
theorem cmp_any (w : World) (va vb : Value) (a b : List Nat) (ha : Rds w va a) (hb : Rds w vb b) (hal : a.length ≤ 1073741823) (hbl : b.length ≤ 1073741823) :
    Calls Tryz.prog 162 #[va, vb] w fun r w' => r = .returned (.int .i64 (cmpN (vl a) (vl b))) ∧ w' = w := by
  obtain ⟨ada, aao, ac, rfl, _⟩ := id ha
  obtain ⟨bda, bao, bc, rfl, _⟩ := id hb
  obtain ⟨m, hm⟩ : ∃ m, max a.length b.length = m := ⟨_, rfl⟩
  have hmx : m ≤ 1073741824 := by omega
  have hm2 : max (a.length : Int) (b.length : Int) - 1 = (m : Int) - 1 := by omega
  have hz : ∀ j, m ≤ j → dgt a j = dgt b j := fun j hj => by rw [dgt_out (by omega), dgt_out (by omega)]
  have Ha := Lib.hid ha
  have Hb := Lib.hid hb
  have Hz := Lib.hid hz
  clear ha hb hz
  generalize hna : a.length = na at *
  generalize hnb : b.length = nb at *
  clear hna hnb
  go_enter Tryz.func162, Tryz.ntmps162
  go_upto_region 1 with fail
  go_cut [5] (fun v5 wx => v5 = .int .i64 ((m : Int) - 1) ∧ wx = w)
  case first =>
    by_cases hc : na < nb
    · have hw : IntKind.i64.wrap ((nb : Int) - 1) = (nb : Int) - 1 := IntWalk.i64_in _ (by omega)
      go_wp2
      go_meet
      exact ⟨by go_num, rfl⟩
    · have hw : IntKind.i64.wrap ((na : Int) - 1) = (na : Int) - 1 := IntWalk.i64_in _ (by omega)
      go_wp2
      go_meet
      exact ⟨by go_num, rfl⟩
  case rest =>
    obtain ⟨rfl, hwc⟩ := hcut
    obtain rfl := hwc.symm
    go_wp2_with fail
    go_loopg [5] m (fun g v5 wr => ∃ k : Nat, k ≤ m ∧ g = k ∧ v5 = .int .i64 ((k : Int) - 1) ∧ wr = w ∧ ∀ j, k ≤ j → dgt a j = dgt b j)
    case atStart => exact ⟨m, Nat.le_refl _, rfl, rfl, rfl, Hz.out⟩
    case round =>
      obtain ⟨k, hk, hg, rfl, hwr, hz⟩ := hrel
      obtain rfl := hg.symm
      obtain rfl := hwr.symm
      by_cases h0 : k = 0
      · subst h0
        have e : cmpN (vl a) (vl b) = 0 := by
          unfold cmpN
          rw [vl_equal (fun j => hz j (Nat.zero_le _)), if_neg (Nat.lt_irrefl _), if_neg (Nat.lt_irrefl _)]
        clear hz
        have p0 : ((0 : Nat) : Int) - 1 = -1 := by omega
        rw [p0]
        go_wp2
        go_ret
        exact ⟨by first | (rw [e]; rfl) | rfl, rfl⟩
      · obtain ⟨i, rfl⟩ : ∃ i, k = i + 1 := ⟨k - 1, by omega⟩
        have p1 : ((i + 1 : Nat) : Int) - 1 = i := by omega
        rw [p1]
        have Hda := Lib.hid (digit_any w _ a Ha.out i (by omega))
        have Hdb := Lib.hid (digit_any w _ b Hb.out i (by omega))
        have h1 := dgt_lt Ha.out.1 i
        have h2 := dgt_lt Hb.out.1 i
        have p2 : (0 : Int) ≤ (i : Int) := by omega
        have hlt := fun h => vl_less Ha.out.1 (b := b) (i := i) h hz
        have hgt := fun h => vl_less Hb.out.1 (b := a) (i := i) h (fun j hj => (hz j hj).symm)
        have Hlt := Lib.hid hlt
        have Hgt := Lib.hid hgt
        have Hzz := Lib.hid hz
        clear hlt hgt hz
        go_wp2_with fail
        refine Hda.out.mono ?_
        rintro r w' ⟨rfl, hw⟩; obtain rfl := hw.symm
        go_wp2_with fail
        refine Hdb.out.mono ?_
        rintro r w' ⟨rfl, hw⟩; obtain rfl := hw.symm
        obtain ⟨D, hD⟩ : ∃ D, dgt a i = D := ⟨_, rfl⟩
        obtain ⟨E, hE⟩ : ∃ E, dgt b i = E := ⟨_, rfl⟩
        rw [hD] at Hlt Hgt h1 ⊢
        rw [hE] at Hlt Hgt h2 ⊢
        clear Hda Hdb hw
        by_cases q1 : D < E
        · have e : cmpN (vl a) (vl b) = -1 := by unfold cmpN; rw [if_pos (Hlt.out q1)]
          go_wp2
          go_ret
          exact ⟨by first | (rw [e]; rfl) | rfl, rfl⟩
        · by_cases q2 : E < D
          · have e : cmpN (vl a) (vl b) = 1 := by
              have := Hgt.out q2
              unfold cmpN; rw [if_neg (by omega), if_pos this]
            go_wp2
            go_ret
            exact ⟨by first | (rw [e]; rfl) | rfl, rfl⟩
          · have q3 : D = E := by omega
            go_wp2
            go_roundg i
            case measure => omega
            case rel => exact ⟨i, by omega, rfl, by go_num, rfl, fun j hj => by
              by_cases e : j = i
              · subst e; rw [hD, hE, q3]
              · exact Hzz.out j (by omega)⟩
def SubPost (w : World) (x y : Nat) (r : Ending) (w' : World) : Prop :=
  if x < y then r = .returned (.tuple #[.slice none 0 0, .int .i64 2]) ∧ w' = w else ∃ v, r = .returned (.tuple #[v, .int .i64 0]) ∧ IsNat w' v (x - y) ∧ Ext (fun _ => False) w w'
set_option maxRecDepth 100000 in
set_option maxHeartbeats 1000000 in
theorem sub_any (w : World) (va vb : Value) (a b : List Nat) (ha : Rds w va a) (hb : Rds w vb b) (hal : a.length ≤ 1073741823) (hbl : b.length ≤ 1073741823) :
    Calls Tryz.prog 163 #[va, vb] w (SubPost w (vl a) (vl b)) := by
  have H := Lib.hid (combineSub_any w va vb a b ha hb hal hbl)
  have HC := Lib.hid (cmp_any w va vb a b ha hb hal hbl)
  have HA := Lib.hid (And.intro ha.1 hb.1)
  clear ha hb
  by_cases hlt : vl a < vl b
  · have e : cmpN (vl a) (vl b) = -1 := by unfold cmpN; rw [if_pos hlt]
    rw [e] at HC
    have HP : Hid (SubPost w (vl a) (vl b) (.returned (.tuple #[.slice none 0 0, .int .i64 2])) w) := Lib.hid (by unfold SubPost; rw [if_pos hlt]; exact ⟨rfl, rfl⟩)
    clear e hlt
    go_enter Tryz.func163, Tryz.ntmps163
    go_wp2_with fail
    refine HC.out.mono ?_
    rintro r w' ⟨rfl, hw⟩; obtain rfl := hw.symm
    go_wp2
    go_ret2
    exact HP.out
  · have e : ¬ cmpN (vl a) (vl b) < 0 := by unfold cmpN; rw [if_neg hlt]; split <;> omega
    generalize hq : cmpN (vl a) (vl b) = q at *
    clear hq
    go_enter Tryz.func163, Tryz.ntmps163
    go_wp2_with fail
    refine HC.out.mono ?_
    rintro r w' ⟨rfl, hw⟩; obtain rfl := hw.symm
    go_wp2_with fail
    refine H.out.mono ?_
    rintro r w' ⟨v, o, c, rfl, hst, hr, hx⟩
    have HP : Hid (SubPost w (vl a) (vl b) (.returned (.tuple #[v, .int .i64 0])) w') := Lib.hid (by unfold SubPost; rw [if_neg hlt]; exact ⟨v, rfl, by unfold IsNat; rw [← hst.done HA.out.1 HA.out.2 (by omega)]; exact hr, hx⟩)
    clear hst hr hx hlt
    go_wp2
    go_ret2
    exact HP.out
set_option maxRecDepth 100000 in
set_option maxHeartbeats 1000000 in
theorem from_any (w : World) (n : Nat) (hn : n < 18446744073709551616) : Calls Tryz.prog 160 #[.int .u64 n] w (NatPost w n) := by
  have hx1 : Ext (fun _ => False) w (w.alloc (.cells #[.int .u32 ((n : Int) % 4294967296), .int .u32 ((n : Int) / 4294967296)] 127)) := (Ext.refl _ w).alloc _
  have hr : Rds (w.alloc (.cells #[.int .u32 ((n : Int) % 4294967296), .int .u32 ((n : Int) / 4294967296)] 127)) (.slice (some ⟨w.heap.size, 0, none⟩) 2 2) [n % 4294967296, n / 4294967296] := by
    refine ⟨Dig.cons (by omega) (Dig.cons (by omega) Dig.nil), _, 2, rfl, Nat.le_refl _, by unfold maxLen; omega, fun h => (by cases h), fun _ => ⟨_, 0, rfl, by simp, fun i d hi => ?_⟩⟩
    have := cells_new (w := w) [.int .u32 ((n : Int) % 4294967296), .int .u32 ((n : Int) / 4294967296)] 127 rfl i (dv d) (by
      match i, hi with
      | 0, hi => simp at hi ⊢; subst hi; simp [dv]
      | 1, hi => simp at hi ⊢; subst hi; simp [dv]
      | i + 2, hi => simp at hi)
    rwa [Addr.add_lit] at this
  have hf := fresh_any _ _ _ hr (by simp)
  rw [show vl [n % 4294967296, n / 4294967296] = n by simp [vl]; omega] at hf
  have H := Lib.hid hf
  have HX := Lib.hid hx1
  clear hf hr hx1
  go_enter Tryz.func160, Tryz.ntmps160
  go_wp2_with fail
  refine H.out.mono ?_
  rintro r w' ⟨v, rfl, h1, h2⟩
  have HP : Hid (NatPost w n (.returned v) w') := Lib.hid ⟨v, rfl, h1, HX.out.trans h2⟩
  clear h1 h2
  go_wp2
  go_ret
  exact HP.out
end Go.Proofs.YtbgienfcmdgaaaaGreat
/-
  Package natural: Mul. Conditions: the arguments read as digits, lengths bounded.
-/
namespace Go.Proofs.YtbgienfcmdgaaaaGreat
open Go.RowKit Go.MapKept
open Go.ChangeMaps (setBlock)

/-- a block whose first cells hold digits -/
def Arr (w : World) (b : Nat) (l : List Nat) : Prop := ∃ cur, blk w b = some (.cells cur 127 (0, 0)) ∧ cur.toList.take l.length = l.map dv
theorem Arr.lt {w : World} {b : Nat} {l : List Nat} (h : Arr w b l) : b < w.heap.size := by obtain ⟨cur, h, _⟩ := h; exact blk_lt h
theorem Arr.free {w : World} {b : Nat} {l : List Nat} (h : Arr w b l) (i : Nat) : w.frozen? ⟨b, i, none⟩ = false := by obtain ⟨cur, h, _⟩ := h; exact free_of_cells h i
theorem Arr.cell {w : World} {b : Nat} {l : List Nat} (h : Arr w b l) (i : Nat) (hi : i < l.length) : w.cell? ⟨b, i, none⟩ = some (.int .u32 (dgt l i)) := by
  obtain ⟨cur, h, ht⟩ := h
  have e := congrArg (·[i]?) ht
  simp only [List.getElem?_take_of_lt hi] at e
  rw [cell_of_cells h i, dgt_in hi, ← Array.getElem?_toList, e]
  simp [hi, dv]
theorem Arr.set {w : World} {b : Nat} {l : List Nat} (h : Arr w b l) (i d : Nat) : Arr (w.setCell ⟨b, i, none⟩ (.int .u32 d)) b (l.set i d) := by
  obtain ⟨cur, h, ht⟩ := h
  refine ⟨_, blk_setCell_same h i (.int .u32 d), ?_⟩
  rw [List.length_set, Array.toList_setIfInBounds, List.take_set, ht, List.map_set]
  rfl
theorem Arr.ext {w w' : World} {b : Nat} {l : List Nat} (h : Arr w b l) (hx : Ext (fun _ => False) w w') : Arr w' b l := by
  obtain ⟨cur, h, ht⟩ := h
  exact ⟨cur, (hx.blk (blk_lt h) id).trans h, ht⟩
theorem Arr.rds {w : World} {b : Nat} {l : List Nat} (h : Arr w b l) (hd : Dig l) (hl : l.length ≤ 1073741824) : Rds w (.slice (some ⟨b, 0, none⟩) l.length l.length) l :=
  ⟨hd, _, _, rfl, Nat.le_refl _, by unfold maxLen; omega, (fun e => by cases e), fun _ => ⟨b, 0, rfl, h.lt, fun i d hi => by
    obtain ⟨hj, rfl⟩ := List.getElem?_eq_some_iff.1 hi
    rw [Nat.zero_add, h.cell i hj, dgt_in hj]; rfl⟩⟩
theorem run_make_nat (w : World) (n : Nat) (hn : n ≤ 2147483648) : ∃ w', (Instr.makeSlice 27 (.int .i64 n) (.int .i64 n)).run Tryz.prog w = .ok (.slice (some ⟨w.heap.size, 0, none⟩) n n) w' ∧ Arr w' w.heap.size (List.replicate n 0) ∧ Ext (fun _ => False) w w' := by
  obtain ⟨i0, hi, hz0, hz1, hz2⟩ := info_parts Tryz.infoU32
  have h := run_make (P := Tryz.prog) w 27 127 i0 (.int .u32 0) Tryz.underlying27 hi hz0 .i64 .i64 n n (by omega) (Int.le_refl _) (by rw [hz2]; omega) (by omega)
  rw [Int.toNat_natCast, hz1, Nat.mul_one] at h
  refine ⟨_, h, ?_, (Ext.refl _ w).alloc _⟩
  refine ⟨_, blk_alloc_at _ _, ?_⟩
  rw [show (Value.int .u32 0).cells = #[.int .u32 0] from rfl, toList_madeCells_one]
  simp [dv]
set_option maxRecDepth 100000 in
set_option maxHeartbeats 2000000 in
theorem mul_any (w : World) (va vb : Value) (a b : List Nat) (ha : Rds w va a) (hb : Rds w vb b) (hal : a.length ≤ 536870911) (hbl : b.length ≤ 536870911) :
    Calls Tryz.prog 153 #[va, vb] w (NatPost w (vl a * vl b)) := by
  obtain ⟨ada, aao, ac, rfl, _, _, _, ha4⟩ := id ha
  obtain ⟨bda, bao, bc, rfl, _, _, _, hb4⟩ := id hb
  obtain ⟨n, hn⟩ : ∃ n, a.length + b.length = n := ⟨_, rfl⟩
  obtain ⟨w1, hmk, hA, hx1⟩ := run_make_nat w n (by omega)
  rw [← hn] at hA
  obtain ⟨B, hB⟩ : ∃ B, w.heap.size = B := ⟨_, rfl⟩
  rw [hB] at hmk hA
  have HA := Lib.hid hA
  have HX := Lib.hid hx1
  have Hda := Lib.hid ada
  have Hdb := Lib.hid bda
  have Ha4 := Lib.hid ha4
  have Hb4 := Lib.hid hb4
  have Hst0 := Lib.hid (MulSt.zero a b)
  clear ha hb hA hx1 ada bda ha4 hb4
  generalize hna : a.length = na at *
  generalize hnb : b.length = nb at *
  have HN := Lib.hid (And.intro hna hnb)
  clear hna hnb
  have hn0 : (0 : Int) ≤ (na : Int) + nb := by omega
  have hn1 : (na : Int) + nb = n := by omega
  go_enter Tryz.func153, Tryz.ntmps153
  go_wp2_with fail
  go_loopg [20] na (fun g v20 wr => ∃ (i : Nat) (o : List Nat), i ≤ na ∧ g = na - i ∧ v20 = .int .i64 i ∧ MulSt a b i o ∧ Arr wr B o ∧ Ext (fun _ => False) w wr)
  case atStart => exact ⟨0, _, Nat.zero_le _, rfl, rfl, Hst0.out, HA.out, HX.out⟩
  case round =>
    obtain ⟨i, o, hi, rfl, rfl, hst, hA, hx⟩ := hrel
    clear HA HX Hst0 hmk
    by_cases hin : i < na
    · obtain ⟨ba, offa, rfl, hba, hca⟩ := Ha4.out (by omega)
      have hia : i < a.length := by have := HN.out.1; omega
      have c0 := (hx.cell (p := ⟨ba, offa + i, none⟩) hba id).trans (hca i a[i] (List.getElem?_eq_getElem hia))
      rw [← dgt_in hia] at c0
      unfold dv at c0
      have hxl := dgt_lt Hda.out i
      have hin0 := MulIn.zero (a := a) (b := b) (i := i) hst.dig hst.len
      have Hst := Lib.hid hst
      have Hin0 := Lib.hid hin0
      have HA := Lib.hid hA
      have HX := Lib.hid hx
      clear hst hin0 hA hx hca
      obtain ⟨x, hxe⟩ : ∃ x, dgt a i = x := ⟨_, rfl⟩
      rw [hxe] at c0 hxl
      have Hxe := Lib.hid hxe
      clear hxe
      go_wp2_with fail
      go_loopg [8, 27] nb (fun g v8 v27 wr => ∃ (k : Nat) (oc : List Nat) (c : Nat), k ≤ nb ∧ g = nb - k ∧ v27 = .int .i64 k ∧ v8 = .int .u64 c ∧ MulIn a b o i k oc c ∧ Arr wr B oc ∧ Ext (fun _ => False) w wr)
      case atStart => exact ⟨0, o, 0, Nat.zero_le _, rfl, rfl, rfl, Hin0.out, HA.out, HX.out⟩
      case round =>
        obtain ⟨k, oc, c, hk, rfl, rfl, rfl, hin1, hA1, hx1⟩ := hrel
        clear HA HX Hin0 c0
        by_cases hkn : k < nb
        · obtain ⟨bb, offb, rfl, hbb, hcb⟩ := Hb4.out (by omega)
          have hkb : k < b.length := by have := HN.out.2; omega
          have c1 := (hx1.cell (p := ⟨bb, offb + k, none⟩) hbb id).trans (hcb k b[k] (List.getElem?_eq_getElem hkb))
          rw [← dgt_in hkb] at c1
          unfold dv at c1
          have hyl := dgt_lt Hdb.out k
          have hlen : i + k < oc.length := by have := HN.out; have := hin1.len; omega
          have hnxt := hin1.step Hda.out Hdb.out (by have := HN.out; omega) hkb
          have c2 := hA1.cell (i + k) hlen
          have hol := dgt_lt hin1.dig (i + k)
          have hcl := hin1.car
          have f2 := hA1.free (i + k)
          rw [Hxe.out] at hnxt
          obtain ⟨y, hye⟩ : ∃ y, dgt b k = y := ⟨_, rfl⟩
          obtain ⟨od, hoe⟩ : ∃ od, dgt oc (i + k) = od := ⟨_, rfl⟩
          rw [hye] at c1 hyl hnxt
          rw [hoe] at c2 hol hnxt
          have hfit := mul_fits hxl hyl hol hcl
          obtain ⟨p, hp⟩ : ∃ p, x * y = p := ⟨_, rfl⟩
          have hpi : (x : Int) * (y : Int) = (p : Int) := by rw [← hp]; simp
          rw [hp] at hnxt hfit
          have HA2 := Lib.hid (hA1.set (i + k) ((p + od + c) % 4294967296))
          have Hnxt := Lib.hid hnxt
          have HX2 := Lib.hid (hx1.own ((Ext.refl (fun z => z = B) wr).setCell (p := ⟨B, i + k, none⟩) (.int .u32 ((p + od + c) % 4294967296 : Nat)) (fun _ => rfl)) (fun z e => by omega))
          clear hin1 hA1 hx1 hnxt hcb
          have e0 : (0 : Int) ≤ (k : Int) := by omega
          have e1 : (k : Int) < (nb : Int) := by omega
          have e2 : (i : Int) + k < (n : Int) := by omega
          have e3 : (0 : Int) ≤ (i : Int) + k := by omega
          have e4 : ((i : Int) + k).toNat = i + k := by omega
          have e5 : (0 : Int) ≤ (x : Int) * y := by omega
          have e6 : (x : Int) * y < 18446744073709551616 := by omega
          have e7 : (x : Int) * y + od < 18446744073709551616 := by omega
          have e8 : (x : Int) * y + od + c < 18446744073709551616 := by omega
          go_wp2
          have q1 : ((p : Int) + od + c) % 4294967296 = ((p + od + c) % 4294967296 : Nat) := by omega
          have q2 : ((p : Int) + od + c) / 4294967296 = ((p + od + c) / 4294967296 : Nat) := by omega
          rw [q1, q2]
          go_roundg (nb - (k + 1))
          case measure => omega
          case rel => exact ⟨k + 1, _, _, by omega, rfl, by go_num, rfl, Hnxt.out, HA2.out, HX2.out⟩
        · have e : k = nb := by omega
          subst e
          have hlen : i + k < oc.length := by have := HN.out; have := hin1.len; omega
          have hcl := hin1.car
          have f2 := hA1.free (i + k)
          have c2 := hA1.cell (i + k) hlen
          have HA2 := Lib.hid (hA1.set (i + k) c)
          have hnx := Hst.out.step (by have := HN.out; omega) (o := oc) (c := c) (by rw [HN.out.2]; exact hin1)
          rw [HN.out.2] at hnx
          have Hnx := Lib.hid hnx
          have HX2 := Lib.hid (hx1.own ((Ext.refl (fun z => z = B) wr).setCell (p := ⟨B, i + k, none⟩) (.int .u32 (c : Nat)) (fun _ => rfl)) (fun z e => by omega))
          clear hin1 hA1 hx1 hnx
          have e2 : (i : Int) + k < (n : Int) := by omega
          have e3 : (0 : Int) ≤ (i : Int) + k := by omega
          have e4 : ((i : Int) + k).toNat = i + k := by omega
          go_wp2
          go_roundg (na - (i + 1))
          case measure => omega
          case rel => exact ⟨i + 1, _, by omega, rfl, by go_num, Hnx.out, HA2.out, HX2.out⟩
    · have e : i = na := by omega
      subst e
      have hl : o.length = n := by have := HN.out; have := hst.len; omega
      have hr := hA.rds hst.dig (by omega)
      rw [hl] at hr
      have HT := Lib.hid (trim_any wr _ o hr)
      have hd := hst
      rw [← HN.out.1] at hd
      have HD := Lib.hid hd.done
      have HX := Lib.hid hx
      clear hst hA hx hr hd hl
      go_wp2_with fail
      refine HT.out.mono ?_
      rintro r w' ⟨hw, v9, rfl, h9⟩; obtain rfl := hw.symm
      rw [HD.out] at h9
      have HP : Hid (NatPost w (vl a * vl b) (.returned v9) wr) := Lib.hid ⟨v9, rfl, h9, HX.out⟩
      clear h9 HT hw
      go_wp2
      go_ret
      exact HP.out
end Go.Proofs.YtbgienfcmdgaaaaGreat
