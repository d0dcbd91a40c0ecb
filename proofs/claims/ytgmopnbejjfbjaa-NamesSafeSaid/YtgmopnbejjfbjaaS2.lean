/-
  NamesSafe: what lies in memory from act to act (Rep), and how each part's change keeps the rest. Conditions: none beyond each lemma's own.
-/
import Derived.Test.YtgmopnbejjfbjaaS1
namespace Go.Proofs.Ytgmopnbejjfbjaa
open Go.RowKit Go.MapKept
open Go.ChangeMaps (setBlock)

/-! ### a map with int keys -/
def IntMap (es : Array MapEntry) (l : List (Int × Bool)) : Prop := es.toList.map (fun e => (e.key, e.val)) = l.map fun p => (Value.int .i64 p.1, Value.bool p.2)
theorem findNow_int (s : Int) : ∀ (es : List MapEntry) (l : List (Int × Bool)) (i : Nat), es.map (fun e => (e.key, e.val)) = (l.map fun p => (Value.int .i64 p.1, Value.bool p.2)) →
    (iassoc l s = none ∧ Instr.findNow (.int .i64) (.int .i64 s) es i = some none ∧ ∀ v, iput l s v = l ++ [(s, v)]) ∨
    ∃ j e v, iassoc l s = some v ∧ Instr.findNow (.int .i64) (.int .i64 s) es i = some (some (i + j, .bool v)) ∧ es[j]? = some e ∧ e.key = .int .i64 s ∧
      ∀ u, (es.modify j fun e => { e with key := .int .i64 s, val := .bool u }).map (fun e => (e.key, e.val)) = (iput l s u).map fun p => (Value.int .i64 p.1, Value.bool p.2)
  | [], [], i, _ => .inl ⟨rfl, rfl, fun _ => rfl⟩
  | [], _ :: _, _, h => by simp at h
  | _ :: _, [], _, h => by simp at h
  | e :: es, (k, v) :: l, i, h => by
    simp only [List.map_cons, List.cons.injEq, Prod.mk.injEq] at h
    obtain ⟨⟨hk, hv⟩, hr⟩ := h
    by_cases hs : k = s
    · subst hs
      refine .inr ⟨0, e, v, by simp [iassoc], by simp [Instr.findNow, Instr.sameNow, hk, hv], rfl, hk, fun u => ?_⟩
      simp [iput, hr]
    · have hne : (s == k) = false := by simpa using Ne.symm hs
      rcases findNow_int s es l (i + 1) hr with ⟨h1, h2, h3⟩ | ⟨j, e', v', h1, h2, h3, h4, h5⟩
      · exact .inl ⟨by simp [iassoc, hs, h1], by simp [Instr.findNow, Instr.sameNow, hk, hne, h2, Ne.symm hs], fun v => by simp [iput, hs, h3]⟩
      · refine .inr ⟨j + 1, e', v', by simp [iassoc, hs, h1], by simp [Instr.findNow, Instr.sameNow, hk, hne, h2, Ne.symm hs]; omega, by simpa using h3, h4, fun u => ?_⟩
        have := h5 u
        simp [iput, hs, hk, hv, this]
section
variable {P : Program} {t k e : TypeId} {w : World} {b : Nat} {es : Array MapEntry} {clock : Nat} {l : List (Int × Bool)}
theorem run_lookup_int (ht : P.underlying t = some (.map k e)) (hk : P.underlying k = some (.int .i64)) (hb : blk w b = some (.map es clock)) (hl : IntMap es l)
    (hz : (zeroValue e).run P w = .ok (.bool false) w) (s : Int) :
    (Instr.lookup t (.map (some b)) (.int .i64 s) false).run P w = .ok (.bool (cutF l s)) w := by
  rcases findNow_int s es.toList l 0 hl with ⟨h1, h2, _⟩ | ⟨j, e', v, h1, h2, _⟩
  · simp [Instr.lookup, run_underlying ht, MapKept.run_getObj_map hb, MapKept.run_checkKey hk (show IsKey (.int .i64) (.int .i64 s) from rfl), MapKept.run_findKey hk h2, Result.andThen, hz, h1, cutF]
  · simp [Instr.lookup, run_underlying ht, MapKept.run_getObj_map hb, MapKept.run_checkKey hk (show IsKey (.int .i64) (.int .i64 s) from rfl), MapKept.run_findKey hk h2, Result.andThen, h1, cutF]
theorem run_update_int (ht : P.underlying t = some (.map k e)) (hk : P.underlying k = some (.int .i64)) (hl : IntMap es l) (s : Int) (u : Bool) :
    ∃ es' clock', (∀ w : World, blk w b = some (.map es clock) → (Instr.mapUpdate t (.map (some b)) (.int .i64 s) (.bool u)).run P w = .ok () (setBlock w b (.map es' clock'))) ∧ IntMap es' (iput l s u) := by
  rcases findNow_int s es.toList l 0 hl with ⟨h1, h2, h3⟩ | ⟨j, e', v, h1, h2, h4, h5, h6⟩
  · refine ⟨es.push { key := .int .i64 s, val := .bool u, born := clock }, clock + 1, fun w hb => ?_, ?_⟩
    · simp [Instr.mapUpdate, run_underlying ht, MapKept.run_getObj_map hb, MapKept.run_checkKey hk (show IsKey (.int .i64) (.int .i64 s) from rfl), MapKept.run_findKey hk h2, Result.andThen, MapKept.run_setObj_map _ hb, ChangeMaps.setBlock]
    · unfold IntMap at *
      simp [hl, h3]
  · refine ⟨es.modify j fun e => { e with key := .int .i64 s, val := .bool u }, clock, fun w hb => ?_, ?_⟩
    · have h4' : es[j]? = some e' := by simpa using h4
      simp only [Nat.zero_add] at h2
      simp [Instr.mapUpdate, run_underlying ht, MapKept.run_getObj_map hb, MapKept.run_checkKey hk (show IsKey (.int .i64) (.int .i64 s) from rfl), MapKept.run_findKey hk h2, Result.andThen, MapKept.run_setObj_map _ hb, ChangeMaps.setBlock, h4', h5, run_keyThatStays (show IsKey (.int .i64) (.int .i64 s) from rfl)]
    · unfold IntMap
      have := h6 u
      rw [Array.toList_modify]
      exact this
end
end Go.Proofs.Ytgmopnbejjfbjaa
