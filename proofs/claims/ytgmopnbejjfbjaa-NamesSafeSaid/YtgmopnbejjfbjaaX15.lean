/-
  NamesResolves: for every input the law returns true, and the input reads as it did. Conditions: none.
-/
import Derived.Test.YtgmopnbejjfbjaaX14
import Derived.OpenShut
import Derived.ShutString
import Derived.ChangeOld
import Derived.Deep.Slices
namespace Go.Proofs.Ytgmopnbejjfbjaa.namesResolves
open Go.ChangeShapes Go.WideShapes Go.ChangeAt Go.RowKit Go.Deep
open Go.ChangeMaps (open_string shut_string)
set_option linter.unusedVariables false

theorem own : ownKnob Try.prog.godebug = none := by kernel_rfl
theorem laidOut : laidOutB Try.prog = true := by kernel_rfl

section
variable {H : Type} {enc : TypeId × Value → H} {w : World} {base : Nat} {spare : Nat → Bool} {held : Bool}
theorem struct_field {P : Program} {t : TypeId} {fs : Array Field} {fuel : Nat} {cs : List Value} {x : DataW H × List MemPlace} (ht : P.underlying t = some (.struct fs)) (h : DataW.trod enc P w base spare held fuel t cs = some x)
    (i : Nat) {f : Field} (hi : fs[i]? = some f) {ty off n : Nat} (h1 : f.type = ty) (h2 : f.offset = off) (h3 : P.cellsOf ty = n) : ∃ m y, DataW.trod enc P w base spare held m ty ((cs.drop off).take n) = some y := by
  obtain ⟨xs, m, _, _, hl, hxl, hf⟩ := DataW.trod_struct ht h
  subst h1 h2 h3
  have hlt : i < xs.length := by rw [hxl]; exact (Array.getElem?_eq_some_iff.1 hi).1
  exact ⟨m, _, (hf i f hi).trans (List.getElem?_eq_getElem hlt)⟩
theorem struct_length {P : Program} {t : TypeId} {fs : Array Field} {fuel : Nat} {cs : List Value} {x : DataW H × List MemPlace} (ht : P.underlying t = some (.struct fs)) (h : DataW.trod enc P w base spare held fuel t cs = some x) {n : Nat} (h3 : P.cellsOf t = n) : cs.length = n := by
  obtain ⟨xs, m, _, _, hl, hxl, hf⟩ := DataW.trod_struct ht h
  rw [hl, h3]
theorem cells3 : Try.prog.cellsOf 3 = 1 := by kernel_rfl
theorem cells9 : Try.prog.cellsOf 9 = 1 := by kernel_rfl
theorem cells28 : Try.prog.cellsOf 28 = 4 := by kernel_rfl
theorem cells30 : Try.prog.cellsOf 30 = 5 := by kernel_rfl
theorem open_entry {fuel : Nat} {cs : List Value} {x : DataW H × List MemPlace} (h : DataW.trod enc Try.prog w base spare held fuel 28 cs = some x) :
    ∃ (n : ByteArray) (e a t : Int), cs = [.string n, .int .i64 e, .int .i64 a, .int .i64 t] := by
  have hl := struct_length Try.underlying28 h cells28
  obtain ⟨_, _, f0⟩ := struct_field Try.underlying28 h 0 rfl rfl rfl cells9
  obtain ⟨_, _, f1⟩ := struct_field Try.underlying28 h 1 rfl rfl rfl cells3
  obtain ⟨_, _, f2⟩ := struct_field Try.underlying28 h 2 rfl rfl rfl cells3
  obtain ⟨_, _, f3⟩ := struct_field Try.underlying28 h 3 rfl rfl rfl cells3
  clear h
  obtain ⟨s, hs, _⟩ := DataW.trod_string Try.underlying9 f0
  obtain ⟨a1, h1, _⟩ := DataW.trod_int Try.underlying3 f1
  obtain ⟨a2, h2, _⟩ := DataW.trod_int Try.underlying3 f2
  obtain ⟨a3, h3, _⟩ := DataW.trod_int Try.underlying3 f3
  clear f0 f1 f2 f3
  match cs, hl with
  | [c0, c1, c2, c3], _ =>
    simp at hs h1 h2 h3
    exact ⟨s, a1, a2, a3, by rw [hs, h1, h2, h3]⟩
theorem open_kept {fuel : Nat} {cs : List Value} {x : DataW H × List MemPlace} (h : DataW.trod enc Try.prog w base spare held fuel 30 cs = some x) : ∃ y : KV, cs = y.cs := by
  have hl := struct_length Try.underlying30 h cells30
  obtain ⟨_, _, f0⟩ := struct_field Try.underlying30 h 0 rfl rfl rfl cells28
  obtain ⟨_, _, f1⟩ := struct_field Try.underlying30 h 1 rfl rfl rfl cells3
  clear h
  obtain ⟨n, e, a, t, hs⟩ := open_entry f0
  obtain ⟨k, h1, _⟩ := DataW.trod_int Try.underlying3 f1
  clear f0 f1
  match cs, hl with
  | [c0, c1, c2, c3, c4], _ =>
    simp at hs h1
    exact ⟨⟨⟨n, e, a, t⟩, k⟩, by obtain ⟨q0, q1, q2, q3⟩ := hs; rw [q0, q1, q2, q3, h1]; rfl⟩
end

theorem walk {H : Type} {enc : TypeId × Value → H} {w : World} {base : Nat} {spare : Nat → Bool} {held : Bool} {ao : Option Addr} {len cap : Nat} {d : DataW H} {p : List MemPlace}
    (h : DataW.Trod enc Try.prog w base spare held 22 (.slice ao len cap) d p) (n : ByteArray) (now : Int) :
    Calls Try.prog 3 #[.slice ao len cap, .string n, .int .i64 now] w fun e w' => e = .returned (.bool true) ∧ Below w.heap.size w w' := by
  refine Calls.mono (R := AwakePost w) ?_ (fun e w' ⟨h1, h2⟩ => ⟨h1, h2.below⟩)
  obtain ⟨fuel, hf⟩ := h
  rcases open_slice Try.underlying22 hf with ⟨hcs, _⟩ | ⟨a, l, c, m, n', D, Pl, hcs, _, hlc, hcm, hm, _, hel⟩
  · simp [Value.cells] at hcs
    obtain ⟨rfl, rfl, rfl⟩ := hcs
    by_cases hr : now ≤ 1152921504606846976 ∧ -1152921504606846976 ≤ now
    · exact law_none _ _ w n now hr.1 hr.2
    · exact law_out _ _ _ w n now (by omega) (by omega)
  · simp [Value.cells] at hcs
    obtain ⟨rfl, rfl, rfl⟩ := hcs
    unfold maxLen at hcm
    by_cases hr : len ≤ 20 ∧ now ≤ 1152921504606846976 ∧ -1152921504606846976 ≤ now
    · obtain ⟨r1, r2, r3⟩ := hr
      by_cases hl0 : len = 0
      · subst hl0; exact law_none _ _ w n now r2 r3
      · have hml : len ≤ m := by rw [hm]; split <;> omega
        have hel' : ∀ i, i < len → ∃ y : KV, ∀ j u, y.cs[j]? = some u → w.cell? ((a.add (i * 5)).add j) = some u := fun i hi => by
          obtain ⟨cs', hc, ht⟩ := hel i (by omega)
          rw [show Try.prog.cellsOf 30 = 5 from by kernel_rfl] at hc
          obtain ⟨y, rfl⟩ := open_kept ht
          obtain ⟨_, _, hat⟩ := World.cells?_some hc
          exact ⟨y, fun j u hu => (hat j (List.getElem?_eq_some_iff.1 hu).1).trans hu⟩
        have hks : ∃ ks : List KV, ks.length = len ∧ ∀ i (h : i < ks.length) j u, (ks[i]).cs[j]? = some u → w.cell? ((a.add (i * 5)).add j) = some u := by
          refine ⟨List.ofFn fun i : Fin len => Classical.choose (hel' i i.2), by simp, fun i hi j u hu => ?_⟩
          simp at hi
          have := Classical.choose_spec (hel' i hi)
          simp at hu
          exact this j u hu
        obtain ⟨ks, rfl, hks⟩ := hks
        obtain ⟨b, off, spot⟩ := a
        have h0 := hks 0 (by omega) 0 _ rfl
        have hspot : spot = none := by simpa [Addr.add] using World.cell?_spot h0
        subst hspot
        refine law_any ks b off cap w (fun i hi j u hu => ?_) (fun _ => ?_) r1 n now r2 r3
        · have := hks i hi j u hu
          simpa [Addr.add_lit, Nat.add_assoc] using this
        · have := World.block_lt_of_cell? w _ h0
          simpa [Addr.add_lit] using this
    · exact law_out _ _ _ w n now (by omega) (by omega)

/-! ### the row -/
set_option maxRecDepth 100000 in
theorem lifted (os : Os) (started : os.Started) (H : Type) (enc : TypeId × Value → H) :
    ReturnsInHanded {} Try.checked os 3 .any (Rows.namesResolvesSpec.pre6 enc Try.prog Try.f3 Rows.namesResolvesRow.domain false) (Rows.namesResolvesSpec.post enc Try.prog Try.f3 false true false false) := by
  refine returnsInHanded_of_change (C := Try.checked) own started (by kernel_rfl) Try.func3
    (ChangeSpec.witness6 (enc := enc) (C := Try.checked) false ⟨#[], #[.slice none 0 0, .string .empty, .int .i64 0], []⟩ 8 (by kernel_rfl) (by kernel_rfl) (by kernel_rfl) (by kernel_rfl)) ?_
  intro W base args ds gs before hval0 hW hcnd _
  have hval : ∀ (j : Nat) t v, Try.f3.params[j]? = some t → args[j]? = some v → Value.okWide Try.prog W .any base t v := hval0
  have hW' := hW
  obtain ⟨p, q, hA0, hV, rfl, hfz, hnd⟩ := hW
  have hA : DataW.TrodAll enc Try.prog W 0 (fun _ => true) true Try.f3.params.toList args.toList ds p := hA0
  rw [Try.params3] at hA hval
  obtain ⟨v0, vs0, d0, ds0, p0, q0, hargs, rfl, rfl, h0, r0⟩ := trodAll_cons hA
  obtain ⟨v1, vs1, d1, ds1, p1, q1, rfl, rfl, rfl, h1, r1⟩ := trodAll_cons r0
  obtain ⟨v2, vs2, d2, ds2, p2, q2, rfl, rfl, rfl, h2, r2⟩ := trodAll_cons r1
  obtain ⟨rfl, rfl, rfl⟩ := trodAll_nil r2
  obtain rfl : args = #[v0, v1, v2] := by cases args; simp_all
  obtain ⟨rfl, rfl⟩ := trodVars_none hV
  obtain ⟨a0, len0, cap0, rfl⟩ := okWide_slice Try.underlying22 (hval 0 22 v0 rfl rfl)
  have k0 := h0
  have lt0 : ∀ x ∈ p0, x.block < W.heap.size := by obtain ⟨m, hm⟩ := k0; exact DataW.trod_lt m _ _ _ hm
  obtain ⟨s1, rfl, rfl, rfl, w1⟩ := open_string Try.underlying9 (hval 1 9 v1 rfl rfl) h1
  obtain ⟨a2, rfl, rfl, rfl, w2⟩ := open_int Try.underlying3 (hval 2 3 v2 rfl rfl) h2
  clear hA0 hval0
  refine (walk h0 s1 a2).mono fun e W' ⟨he, bel⟩ => ?_
  subst he
  exact ⟨_, rfl, _, _, _, [], _, [], hW', trodAll_mk1 (shut_bool Try.underlying4 _), (trodAll_cons_mk (Below.trod laidOut (by kernel_rfl) (of_decide_eq_true (by kernel_rfl)) k0 bel lt0) (trodAll_cons_mk (shut_string Try.underlying9 w1) (trodAll_cons_mk (shut_int Try.underlying3 w2) trodAll_mk0))), rfl, bel.frame _, fun h => by cases h⟩

theorem over : Rows.namesResolvesRow.holds Try.pinned (OpenSpec.ofChange Rows.namesResolvesSpec) :=
  OpenClaim.holds_of_wide 3 Try.f3 rfl rfl rfl rfl rfl rfl rfl ⟨rfl, rfl, rfl, rfl, rfl⟩ rfl rfl rfl rfl rfl (by kernel_rfl) Try.func3 (by kernel_rfl)
    (of_decide_eq_true (by kernel_rfl)) (by unfold Func.isWrapper; first | (rw [if_pos (by decide +kernel)]; kernel_rfl) | (rw [if_neg (by decide +kernel)]; exact ⟨rfl, rfl⟩))
    (fun os started H enc _ => lifted os started H enc)

theorem proved : Rows.NamesResolvesSaid := over
#print axioms proved
end Go.Proofs.Ytgmopnbejjfbjaa.namesResolves
