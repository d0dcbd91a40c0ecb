/-
  Maps with int keys, as the list of their entries: look up, store, len. Conditions: none beyond each lemma's own.
-/
import Derived.Test.YthligdgkhmgagaaBase
namespace Go.Proofs.Ythligdgkhmgagaa
open Go.RowKit Go.MapKept
open Go.ChangeMaps (setBlock)

section
variable {α : Type}
/-- the value at a key, the first one -/
def iget : List (Int × α) → Int → Option α
  | [], _ => none
  | (k, v) :: r, s => if k = s then some v else iget r s
/-- a value laid at a key: in its place, or at the end -/
def iput : List (Int × α) → Int → α → List (Int × α)
  | [], s, v => [(s, v)]
  | (k, x) :: r, s, v => if k = s then (k, v) :: r else (k, x) :: iput r s v
theorem iget_none {l : List (Int × α)} {s : Int} (h : iget l s = none) : ∀ p ∈ l, p.1 ≠ s := by
  induction l with
  | nil => intro p hp; cases hp
  | cons q r ih =>
    obtain ⟨a, b⟩ := q
    simp only [iget] at h
    split at h
    · cases h
    · rename_i hn
      intro p hp
      rcases List.mem_cons.1 hp with rfl | hp
      · exact hn
      · exact ih h p hp
theorem iget_mem {l : List (Int × α)} {s : Int} {v : α} (h : iget l s = some v) : (s, v) ∈ l := by
  induction l with
  | nil => cases h
  | cons q r ih =>
    obtain ⟨a, b⟩ := q
    simp only [iget] at h
    split at h
    · rename_i e; subst e; cases h; simp
    · exact List.mem_cons_of_mem _ (ih h)
theorem iget_iput (l : List (Int × α)) (k : Int) (v : α) (k' : Int) : iget (iput l k v) k' = if k' = k then some v else iget l k' := by
  induction l with
  | nil =>
    simp only [iput, iget]
    by_cases h : k = k'
    · rw [if_pos h, if_pos h.symm]
    · rw [if_neg h, if_neg (Ne.symm h)]
  | cons p r ih =>
    obtain ⟨a, b⟩ := p
    simp only [iput]
    by_cases h : a = k
    · subst h
      rw [if_pos rfl]
      simp only [iget]
      by_cases h' : a = k'
      · subst h'; rw [if_pos rfl, if_pos rfl]
      · rw [if_neg h', if_neg h', if_neg (Ne.symm h')]
    · rw [if_neg h]
      simp only [iget]
      rw [ih]
      by_cases h' : a = k'
      · subst h'; rw [if_pos rfl, if_neg h, if_pos rfl]
      · rw [if_neg h', if_neg h']
theorem iput_length (l : List (Int × α)) (s : Int) (v : α) : (iput l s v).length ≤ l.length + 1 := by
  induction l with
  | nil => simp [iput]
  | cons p r ih =>
    obtain ⟨a, b⟩ := p
    simp only [iput]
    split
    · simp
    · simp; omega
theorem mem_iput {l : List (Int × α)} {s : Int} {v : α} {p : Int × α} (h : p ∈ iput l s v) : p = (s, v) ∨ p ∈ l := by
  induction l with
  | nil => simp [iput] at h; exact .inl h
  | cons q r ih =>
    obtain ⟨a, b⟩ := q
    simp only [iput] at h
    split at h
    · rename_i e; subst e
      rcases List.mem_cons.1 h with h | h
      · exact .inl h
      · exact .inr (List.mem_cons_of_mem _ h)
    · rcases List.mem_cons.1 h with h | h
      · exact .inr (by rw [h]; simp)
      · exact (ih h).elim .inl (fun h => .inr (List.mem_cons_of_mem _ h))
theorem iput_nodup {l : List (Int × α)} {s : Int} {v : α} (h : (l.map Prod.fst).Nodup) : ((iput l s v).map Prod.fst).Nodup := by
  induction l with
  | nil => simp [iput]
  | cons q r ih =>
    obtain ⟨a, b⟩ := q
    simp only [List.map_cons, List.nodup_cons] at h
    simp only [iput]
    split
    · simpa using h
    · rename_i e
      simp only [List.map_cons, List.nodup_cons]
      refine ⟨fun hm => ?_, ih h.2⟩
      obtain ⟨p, hp, hpe⟩ := List.mem_map.1 hm
      rcases mem_iput hp with h' | h'
      · subst h'; exact e hpe.symm
      · exact h.1 (List.mem_map.2 ⟨p, h', hpe⟩)
theorem iget_isSome {l : List (Int × α)} {k : Int} : (iget l k).isSome = true ↔ k ∈ l.map Prod.fst := by
  induction l with
  | nil => simp [iget]
  | cons q r ih =>
    obtain ⟨a, b⟩ := q
    simp only [iget, List.map_cons, List.mem_cons]
    split
    · rename_i e; subst e; simp
    · rename_i e; rw [ih]; exact ⟨.inr, fun h => h.elim (fun h => absurd h.symm e) id⟩
/-- a list of entries, its values sent through f -/
def imap {β : Type} (f : α → β) (l : List (Int × α)) : List (Int × β) := l.map fun p => (p.1, f p.2)
theorem iget_imap {β : Type} (f : α → β) (l : List (Int × α)) (k : Int) : iget (imap f l) k = (iget l k).map f := by
  induction l with
  | nil => rfl
  | cons p r ih =>
    obtain ⟨a, b⟩ := p
    simp only [imap, List.map_cons, iget] at *
    split
    · rfl
    · exact ih
theorem iput_imap {β : Type} (f : α → β) (l : List (Int × α)) (k : Int) (v : α) : iput (imap f l) k (f v) = imap f (iput l k v) := by
  induction l with
  | nil => rfl
  | cons p r ih =>
    obtain ⟨a, b⟩ := p
    simp only [imap, List.map_cons, iput] at *
    split
    · rfl
    · rw [ih]; rfl
end
/-- the block's entries, in order: a list of keys and values -/
def IntMap (es : Array MapEntry) (l : List (Int × Value)) : Prop :=
  es.toList.map (fun e => (e.key, e.val)) = l.map fun p => (Value.int .i64 p.1, p.2)
theorem IntMap.size {es : Array MapEntry} {l : List (Int × Value)} (h : IntMap es l) : es.size = l.length := by
  have := congrArg List.length h
  simpa using this
theorem findNow_int (s : Int) : ∀ (es : List MapEntry) (l : List (Int × Value)) (i : Nat), es.map (fun e => (e.key, e.val)) = (l.map fun p => (Value.int .i64 p.1, p.2)) →
    (iget l s = none ∧ Instr.findNow (.int .i64) (.int .i64 s) es i = some none ∧ ∀ v, iput l s v = l ++ [(s, v)]) ∨
    ∃ j e v, iget l s = some v ∧ Instr.findNow (.int .i64) (.int .i64 s) es i = some (some (i + j, v)) ∧ es[j]? = some e ∧ e.key = .int .i64 s ∧
      ∀ u, (es.modify j fun e => { e with key := .int .i64 s, val := u }).map (fun e => (e.key, e.val)) = (iput l s u).map fun p => (Value.int .i64 p.1, p.2)
  | [], [], i, _ => .inl ⟨rfl, rfl, fun _ => rfl⟩
  | [], _ :: _, _, h => by simp at h
  | _ :: _, [], _, h => by simp at h
  | e :: es, (k, v) :: l, i, h => by
    simp only [List.map_cons, List.cons.injEq, Prod.mk.injEq] at h
    obtain ⟨⟨hk, hv⟩, hr⟩ := h
    by_cases hs : k = s
    · subst hs
      refine .inr ⟨0, e, v, by simp [iget], by simp [Instr.findNow, Instr.sameNow, hk, hv], rfl, hk, fun u => ?_⟩
      simp [iput, hr]
    · have hne : (s == k) = false := by
        cases hq : s == k
        · rfl
        · exact absurd (eq_of_beq hq).symm hs
      rcases findNow_int s es l (i + 1) hr with ⟨h1, h2, h3⟩ | ⟨j, e', v', h1, h2, h3, h4, h5⟩
      · exact .inl ⟨by simp [iget, hs, h1], by simp [Instr.findNow, Instr.sameNow, hk, hne, h2], fun v => by simp [iput, hs, h3]⟩
      · refine .inr ⟨j + 1, e', v', by simp [iget, hs, h1], by simp [Instr.findNow, Instr.sameNow, hk, hne, h2]; omega, by simpa using h3, h4, fun u => ?_⟩
        have := h5 u
        simp [iput, hs, hk, hv, this]
section
variable {P : Program} {t k e : TypeId} {w : World} {b : Nat} {es : Array MapEntry} {clock : Nat} {l : List (Int × Value)}
theorem run_lookup_int (ht : P.underlying t = some (.map k e)) (hk : P.underlying k = some (.int .i64)) (hb : blk w b = some (.map es clock)) (hl : IntMap es l)
    {z : Value} (hz : (zeroValue e).run P w = .ok z w) (s : Int) (ok : Bool) :
    (Instr.lookup t (.map (some b)) (.int .i64 s) ok).run P w = .ok (if ok then .tuple #[(iget l s).getD z, .bool (iget l s).isSome] else (iget l s).getD z) w := by
  rcases findNow_int s es.toList l 0 hl with ⟨h1, h2, _⟩ | ⟨j, e', v, h1, h2, _⟩
  · simp [Instr.lookup, run_underlying ht, MapKept.run_getObj_map hb, MapKept.run_checkKey hk (show IsKey (.int .i64) (.int .i64 s) from rfl), MapKept.run_findKey hk h2, Result.andThen, hz, h1]
  · simp [Instr.lookup, run_underlying ht, MapKept.run_getObj_map hb, MapKept.run_checkKey hk (show IsKey (.int .i64) (.int .i64 s) from rfl), MapKept.run_findKey hk h2, Result.andThen, h1]
/-- the block behind a store at a key: the same whatever the world; the stamps kept -/
theorem run_update_int (ht : P.underlying t = some (.map k e)) (hk : P.underlying k = some (.int .i64)) (hl : IntMap es l) (hst : Stamped es clock) (s : Int) (u : Value) :
    ∃ es' clock', (∀ w : World, blk w b = some (.map es clock) → (Instr.mapUpdate t (.map (some b)) (.int .i64 s) u).run P w = .ok () (setBlock w b (.map es' clock'))) ∧ IntMap es' (iput l s u) ∧ Stamped es' clock' := by
  rcases findNow_int s es.toList l 0 hl with ⟨h1, h2, h3⟩ | ⟨j, e', v, h1, h2, h4, h5, h6⟩
  · refine ⟨es.push { key := .int .i64 s, val := u, born := clock }, clock + 1, fun w hb => ?_, ?_, ?_⟩
    · simp [Instr.mapUpdate, run_underlying ht, MapKept.run_getObj_map hb, MapKept.run_checkKey hk (show IsKey (.int .i64) (.int .i64 s) from rfl), MapKept.run_findKey hk h2, Result.andThen, MapKept.run_setObj_map _ hb, ChangeMaps.setBlock]
    · unfold IntMap at *
      simp [hl, h3]
    · refine stamped_push hst (fun x hx e => ?_)
      have : (x.key, x.val) ∈ es.toList.map (fun e => (e.key, e.val)) := List.mem_map.2 ⟨x, hx, rfl⟩
      rw [hl] at this
      obtain ⟨p, hp, hpe⟩ := List.mem_map.1 this
      refine iget_none h1 p hp ?_
      have hk2 : Value.int .i64 p.1 = x.key := congrArg Prod.fst hpe
      rw [e] at hk2
      exact (Value.int.inj hk2).2
  · refine ⟨es.modify j fun e => { e with key := .int .i64 s, val := u }, clock, fun w hb => ?_, ?_, ?_⟩
    · have h4' : es[j]? = some e' := by simpa using h4
      simp only [Nat.zero_add] at h2
      simp [Instr.mapUpdate, run_underlying ht, MapKept.run_getObj_map hb, MapKept.run_checkKey hk (show IsKey (.int .i64) (.int .i64 s) from rfl), MapKept.run_findKey hk h2, Result.andThen, MapKept.run_setObj_map _ hb, ChangeMaps.setBlock, h4', h5, run_keyThatStays (show IsKey (.int .i64) (.int .i64 s) from rfl)]
    · unfold IntMap
      have := h6 u
      rw [Array.toList_modify]
      exact this
    · refine stamped_modify hst j _ (fun _ _ => rfl) (fun x _ hx => ?_)
      have h4' : es[j]? = some e' := by simpa using h4
      rw [h4'] at hx
      cases hx
      exact h5.symm
end
/-- block b is a map of int keys that reads as l -/
def IsIMap (w : World) (b : Nat) (l : List (Int × Value)) : Prop := ∃ es clock, blk w b = some (.map es clock) ∧ IntMap es l ∧ Stamped es clock
theorem IsIMap.ext {S : Nat → Prop} {w w' : World} {b : Nat} {l : List (Int × Value)} (h : IsIMap w b l) (hx : Ext S w w') (hn : ¬ S b) : IsIMap w' b l := by
  obtain ⟨es, c, hb, r⟩ := h
  exact ⟨es, c, (hx.blk (blk_lt hb) hn).trans hb, r⟩
theorem IsIMap.lt {w : World} {b : Nat} {l : List (Int × Value)} (h : IsIMap w b l) : b < w.heap.size := by
  obtain ⟨es, c, hb, r⟩ := h
  exact blk_lt hb
theorem IsIMap.new (w : World) : IsIMap (w.alloc (.map #[] 0)) w.heap.size [] := ⟨#[], 0, blk_alloc_at _ _, rfl, stamped_empty 0⟩
/-- the map as the library's contracts know it: every element reads as nil -/
def asNil {H : Type} : Value → Option (DataW H × List MemPlace) := fun _ => some (.nil, [])
end Go.Proofs.Ythligdgkhmgagaa
