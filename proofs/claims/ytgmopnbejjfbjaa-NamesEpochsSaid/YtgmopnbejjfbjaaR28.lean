/-
  NamesEpochs: the walk. Conditions: the arguments' cells are as given.
-/
import Derived.Test.YtgmopnbejjfbjaaR25
import Derived.Test.YtgmopnbejjfbjaaR26
namespace Go.Proofs.Ytgmopnbejjfbjaa
open Go.RowKit Go.MapKept
open Go.ChangeMaps (setBlock)

theorem zeroEntry (w : World) : (zeroValue 28).run Try.prog w = .ok (.agg #[.string { data := #[] }, .int .i64 0, .int .i64 0, .int .i64 0]) w := by kernel_rfl
/-- a map of entries, by value -/
def entM (B : List (ByteArray × Ent)) : List (ByteArray × Value) := B.map fun p => (p.1, p.2.v)
theorem assoc_entM (B : List (ByteArray × Ent)) (n : ByteArray) : assoc (entM B) n = (assoc B n).map Ent.v := assoc_map Ent.v B n
theorem aput_entM (B : List (ByteArray × Ent)) (n : ByteArray) (e : Ent) : aput (entM B) n e.v = entM (aput B n e) := aput_map Ent.v B n e
theorem entry_lookup {bm : Nat} {es : Array MapEntry} {clock : Nat} {B : List (ByteArray × Ent)} (hl : StrMap es (entM B)) (n : ByteArray) (W : World) (hW : blk W bm = some (.map es clock)) :
    (Instr.lookup 68 (.map (some bm)) (.string n) false).run Try.prog W = .ok ((assoc B n).getD ⟨{ data := #[] }, 0, 0, 0⟩).v W := by
  have := run_lookup_str (P := Try.prog) Try.underlying68 Try.underlying9 hW hl (zeroEntry W) n false
  rw [this, assoc_entM]
  cases assoc B n <;> rfl
/-- the entries of the names so far -/
def entsOf (M : List (ByteArray × List Ep)) (S : List ByteArray) : List (ByteArray × Ent) := S.map fun n => (n, (entOf M n).getD ⟨n, 0, 0, 0⟩)
theorem entsOf_keys (M : List (ByteArray × List Ep)) (S : List ByteArray) : (entsOf M S).map Prod.fst = S := by
  unfold entsOf; rw [List.map_map]; exact List.map_id' S
theorem assoc_entsOf_in (M : List (ByteArray × List Ep)) {S : List ByteArray} {n : ByteArray} (h : n ∈ S) : assoc (entsOf M S) n = some ((entOf M n).getD ⟨n, 0, 0, 0⟩) := by
  induction S with
  | nil => cases h
  | cons m r ih =>
    simp only [entsOf, List.map_cons, assoc] at *
    by_cases hm : m = n
    · subst hm; rw [if_pos rfl]
    · rw [if_neg hm]
      exact ih ((List.mem_cons.1 h).resolve_left (Ne.symm hm))
theorem assoc_entsOf_out (M : List (ByteArray × List Ep)) {S : List ByteArray} {n : ByteArray} (h : n ∉ S) : assoc (entsOf M S) n = none := by
  cases ha : assoc (entsOf M S) n with
  | none => rfl
  | some e =>
    have : n ∈ (entsOf M S).map Prod.fst := List.mem_map.2 ⟨_, mem_of_assoc ha, rfl⟩
    rw [entsOf_keys] at this
    exact absurd this h
theorem namesM_mem {M : List (ByteArray × List Ep)} {n : ByteArray} : n ∈ namesM M ↔ (assoc M n).isSome = true := by
  rw [(namesM_perm M).mem_iff, assoc_isSome]
theorem namesM_nodup {M : List (ByteArray × List Ep)} (h : (M.map Prod.fst).Nodup) : (namesM M).Nodup := (namesM_perm M).nodup_iff.2 h
theorem namesM_length (M : List (ByteArray × List Ep)) : (namesM M).length = M.length := by
  have := (namesM_perm M).length_eq
  simpa using this
theorem RegAt.off {w0 w w' : World} {rb mb : Nat} {M : List (ByteArray × List Ep)} (h : RegAt w0 w rb mb M) {B : Nat} (hx : Ext (fun b => b = B) w w') (hB : ∀ L, IsReg w rb mb L → ¬ fpR rb mb L B) (hB0 : w0.heap.size ≤ B) : RegAt w0 w' rb mb M := by
  obtain ⟨L, h1, h2, h3, h4⟩ := h
  exact ⟨L, h1.ext hx (fun b hb e => hB L h1 (e ▸ hb)), h2, h3.trans' hx (fun k hk (e : k = B) => absurd hk (by omega)), h4⟩
theorem Iter.aside {w w' : World} {mb : Nat} {S : Nat → Prop} (h : Aside w mb S) (hx : Ext S w w') {r bm : Nat} {es : Array MapEntry} {clock : Nat} {seen : Array Nat} (hI : Iter w r bm es clock seen) (hne : bm ≠ mb) : Iter w' r bm es clock seen :=
  ⟨(hx.blk (blk_lt hI.1) (h.iters _ _ _ _ _ hI.1)).trans hI.1, h.map hx hI.2 hne⟩
theorem Iter.keep {w w' : World} (hx : Ext (fun _ => False) w w') {r bm : Nat} {es : Array MapEntry} {clock : Nat} {seen : Array Nat} (hI : Iter w r bm es clock seen) : Iter w' r bm es clock seen :=
  ⟨(hx.blk (blk_lt hI.1) id).trans hI.1, (hx.blk (blk_lt hI.2) id).trans hI.2⟩
theorem len_emap {es : Array MapEntry} {clock mb : Nat} {l : List (ByteArray × Value)} (hl : StrMap es l) (ty : TypeId) (W : World) (h : blk W mb = some (.map es clock)) :
    (Builtin.len_ #[68] ty #[.map (some mb)]).run Try.prog W = .ok (.int .i64 l.length) W := by
  simp [Builtin.len_, run_underlying Try.underlying68, MapKept.run_getObj_map h, Result.andThen, goInt, (show es.size = l.length by have := congrArg List.length hl; simpa using this)]
/-- what stands between the loops: the entries, by name -/
theorem ent_epoch {M : List (ByteArray × List Ep)} {j : Nat} (h : Inv M j) (nm : ByteArray) : ((assoc (entsOf M (namesM M)) nm).getD ⟨{ data := #[] }, 0, 0, 0⟩).e = ((entOf M nm).map Ent.e).getD 0 := by
  by_cases hm : nm ∈ namesM M
  · rw [assoc_entsOf_in M hm]
    obtain ⟨e, he, _⟩ := lookup_there h (namesM_mem.1 hm)
    rw [he]; rfl
  · rw [assoc_entsOf_out M hm]
    have : assoc M nm = none := by
      cases ha : assoc M nm with
      | none => rfl
      | some l => exact absurd (namesM_mem.2 (by rw [ha]; rfl)) hm
    unfold entOf
    rw [this]; rfl
theorem ents_epoch_le {M : List (ByteArray × List Ep)} {j : Nat} (h : Inv M j) (nm : ByteArray) : 0 ≤ ((entOf M nm).map Ent.e).getD 0 ∧ ((entOf M nm).map Ent.e).getD 0 ≤ j := by
  unfold entOf
  cases hl : assoc M nm with
  | none => simp
  | some l =>
    obtain ⟨_, b, c, _⟩ := h.each _ (mem_of_assoc hl)
    simp only at b c ⊢
    cases hx : l.getLast? with
    | some x => simp; omega
    | none => simp
/-- after the publication every entry of the map is the newest one -/
theorem ents_after {M M2 : List (ByteArray × List Ep)} {j : Nat} (h : Inv M j) (nm : ByteArray) (e2 : Ent) (h2 : entOf M2 nm = some e2) (h3 : ∀ m, m ≠ nm → entOf M2 m = entOf M m) :
    ∀ p ∈ aput (entsOf M (namesM M)) nm e2, entOf M2 p.1 = some p.2 := fun p hp => by
  have hn : ((entsOf M (namesM M)).map Prod.fst).Nodup := by rw [entsOf_keys]; exact namesM_nodup h.nodup
  rw [aput_k] at hp
  rcases (mem_kput hn).1 hp with rfl | ⟨hp, hne⟩
  · exact h2
  · rw [h3 _ hne]
    obtain ⟨n, hn', rfl⟩ := List.mem_map.1 hp
    obtain ⟨e, he, _⟩ := lookup_there h (namesM_mem.1 hn')
    simp only
    rw [he]; rfl
theorem ents_length {M M2 : List (ByteArray × List Ep)} (nm : ByteArray) (e2 : Ent) (h : M2.length = if (assoc M nm).isSome then M.length else M.length + 1) :
    (aput (entsOf M (namesM M)) nm e2).length = M2.length := by
  have h0 : (entsOf M (namesM M)).length = M.length := by unfold entsOf; rw [List.length_map, namesM_length]
  rw [h]
  cases hs : (assoc M nm).isSome with
  | true =>
    rw [(aput_len (entsOf M (namesM M)) nm e2).2 (by rw [assoc_entsOf_in M (namesM_mem.2 hs)]; rfl), h0]; rfl
  | false =>
    rw [aput_new (assoc_entsOf_out M (fun hm => by have := namesM_mem.1 hm; rw [hs] at this; cases this))]
    simp [h0]
theorem entOf_some {M : List (ByteArray × List Ep)} {n : ByteArray} {e : Ent} (h : entOf M n = some e) : (assoc M n).isSome = true := by
  unfold entOf at h
  cases ha : assoc M n with
  | none => rw [ha] at h; cases h
  | some l => rfl
end Go.Proofs.Ytgmopnbejjfbjaa
