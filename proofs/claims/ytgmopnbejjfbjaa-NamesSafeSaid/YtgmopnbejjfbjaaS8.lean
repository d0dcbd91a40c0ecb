/-
  NamesSafe: for every input the law returns true, and the input reads as it did. Conditions: none.
-/
import Derived.Test.YtgmopnbejjfbjaaS7a
import Derived.Test.YtgmopnbejjfbjaaS7b
import Derived.Test.YtgmopnbejjfbjaaX15
namespace Go.Proofs.Ytgmopnbejjfbjaa.namesSafe
open Go.ChangeShapes Go.WideShapes Go.ChangeAt Go.RowKit Go.Deep
open Go.Proofs.Ytgmopnbejjfbjaa.namesResolves (struct_field struct_length own laidOut)
set_option linter.unusedVariables false

theorem cells3 : Try.prog.cellsOf 3 = 1 := by kernel_rfl
theorem cells5 : Try.prog.cellsOf 5 = 1 := by kernel_rfl
theorem cells46 : Try.prog.cellsOf 46 = 4 := by kernel_rfl
theorem cells48 : Try.prog.cellsOf 48 = 9 := by kernel_rfl
section
variable {H : Type} {enc : TypeId × Value → H} {w : World} {base : Nat} {spare : Nat → Bool} {held : Bool}
theorem open_u8 {fuel : Nat} {cs : List Value} {x : DataW H × List MemPlace} (h : DataW.trod enc Try.prog w base spare held fuel 5 cs = some x) : ∃ a : Int, cs = [.int .u8 a] ∧ 0 ≤ a ∧ a ≤ 255 := by
  obtain ⟨a, h1, _, h2⟩ := DataW.trod_int Try.underlying5 h
  refine ⟨a, h1, ?_⟩
  simp [Lit.wf, IntKind.min, IntKind.max, IntKind.signed, IntKind.bits] at h2
  omega
theorem open_four {fuel : Nat} {cs : List Value} {x : DataW H × List MemPlace} (h : DataW.trod enc Try.prog w base spare held fuel 46 cs = some x) :
    ∃ a b c d : Int, cs = [.int .u8 a, .int .u8 b, .int .u8 c, .int .u8 d] ∧ (0 ≤ a ∧ a ≤ 255) ∧ (0 ≤ b ∧ b ≤ 255) ∧ (0 ≤ c ∧ c ≤ 255) ∧ (0 ≤ d ∧ d ≤ 255) := by
  obtain ⟨xs, m, _, _, hl, hxl, hf⟩ := DataW.trod_array Try.underlying46 h
  rw [cells46] at hl
  rw [cells5] at hf
  have g : ∀ i, i < 4 → ∃ y, DataW.trod enc Try.prog w base spare held m 5 ((cs.drop (i * 1)).take 1) = some y := fun i hi => ⟨_, (hf i hi).trans (List.getElem?_eq_getElem (by rw [hxl]; exact hi))⟩
  obtain ⟨_, f0⟩ := g 0 (by omega)
  obtain ⟨_, f1⟩ := g 1 (by omega)
  obtain ⟨_, f2⟩ := g 2 (by omega)
  obtain ⟨_, f3⟩ := g 3 (by omega)
  obtain ⟨a, ha, a1⟩ := open_u8 f0
  obtain ⟨b, hb, b1⟩ := open_u8 f1
  obtain ⟨c, hc, c1⟩ := open_u8 f2
  obtain ⟨d, hd, d1⟩ := open_u8 f3
  clear f0 f1 f2 f3 g hf h
  match cs, hl with
  | [v0, v1, v2, v3], _ =>
    simp at ha hb hc hd
    exact ⟨a, b, c, d, by rw [ha, hb, hc, hd], a1, b1, c1, d1⟩
theorem open_act {fuel : Nat} {cs : List Value} {x : DataW H × List MemPlace} (h : DataW.trod enc Try.prog w base spare held fuel 48 cs = some x) :
    ∃ y : ActV, cs = y.cs ∧ y.ok := by
  have hl := struct_length Try.underlying48 h cells48
  obtain ⟨_, _, f0⟩ := struct_field Try.underlying48 h 0 rfl rfl rfl cells3
  obtain ⟨_, _, f1⟩ := struct_field Try.underlying48 h 1 rfl rfl rfl cells3
  obtain ⟨_, _, f2⟩ := struct_field Try.underlying48 h 2 rfl rfl rfl cells3
  obtain ⟨_, _, f3⟩ := struct_field Try.underlying48 h 3 rfl rfl rfl cells3
  obtain ⟨_, _, f4⟩ := struct_field Try.underlying48 h 4 rfl rfl rfl cells3
  obtain ⟨_, _, f5⟩ := struct_field Try.underlying48 h 5 rfl rfl rfl cells46
  clear h
  obtain ⟨a0, h0, _⟩ := DataW.trod_int Try.underlying3 f0
  obtain ⟨a1, h1, _⟩ := DataW.trod_int Try.underlying3 f1
  obtain ⟨a2, h2, _⟩ := DataW.trod_int Try.underlying3 f2
  obtain ⟨a3, h3, _⟩ := DataW.trod_int Try.underlying3 f3
  obtain ⟨a4, h4, _⟩ := DataW.trod_int Try.underlying3 f4
  obtain ⟨r0, r1, r2, r3, h5, o0, o1, o2, o3⟩ := open_four f5
  clear f0 f1 f2 f3 f4 f5
  match cs, hl with
  | [c0, c1, c2, c3, c4, c5, c6, c7, c8], _ =>
    simp at h0 h1 h2 h3 h4 h5
    obtain ⟨q0, q1, q2, q3⟩ := h5
    exact ⟨⟨a0, a1, a2, a3, a4, r0, r1, r2, r3⟩, by rw [h0, h1, h2, h3, h4, q0, q1, q2, q3]; rfl, o0, o1, o2, o3⟩
end

theorem walk {H : Type} {enc : TypeId × Value → H} {w : World} {base : Nat} {spare : Nat → Bool} {held : Bool} {ao : Option Addr} {len cap : Nat} {d : DataW H} {p : List MemPlace}
    (h : DataW.Trod enc Try.prog w base spare held 37 (.slice ao len cap) d p) :
    Calls Try.prog 4 #[.slice ao len cap] w fun e w' => e = .returned (.bool true) ∧ Below w.heap.size w w' := by
  refine Calls.mono (R := AwakePost w) ?_ (fun e w' ⟨h1, h2⟩ => ⟨h1, h2.below⟩)
  obtain ⟨fuel, hf⟩ := h
  rcases open_slice Try.underlying37 hf with ⟨hcs, _⟩ | ⟨a, l, c, m, n', D, Pl, hcs, _, hlc, hcm, hm, _, hel⟩
  · simp [Value.cells] at hcs
    obtain ⟨rfl, rfl, rfl⟩ := hcs
    exact safe_none _ _ w
  · simp [Value.cells] at hcs
    obtain ⟨rfl, rfl, rfl⟩ := hcs
    unfold maxLen at hcm
    by_cases hr : len ≤ 60
    · by_cases hl0 : len = 0
      · subst hl0; exact safe_none _ _ w
      · have hml : len ≤ m := by rw [hm]; split <;> omega
        have hel' : ∀ i, i < len → ∃ y : ActV, y.ok ∧ ∀ j u, y.cs[j]? = some u → w.cell? ((a.add (i * 9)).add j) = some u := fun i hi => by
          obtain ⟨cs', hc, ht⟩ := hel i (by omega)
          rw [show Try.prog.cellsOf 48 = 9 from by kernel_rfl] at hc
          obtain ⟨y, rfl, hy⟩ := open_act ht
          obtain ⟨_, _, hat⟩ := World.cells?_some hc
          exact ⟨y, hy, fun j u hu => (hat j (List.getElem?_eq_some_iff.1 hu).1).trans hu⟩
        have hks : ∃ ks : List ActV, ks.length = len ∧ (∀ y ∈ ks, y.ok) ∧ ∀ i (h : i < ks.length) j u, (ks[i]).cs[j]? = some u → w.cell? ((a.add (i * 9)).add j) = some u := by
          refine ⟨List.ofFn fun i : Fin len => Classical.choose (hel' i i.2), by simp, fun y hy => ?_, fun i hi j u hu => ?_⟩
          · obtain ⟨i, rfl⟩ := List.mem_ofFn.1 hy
            exact (Classical.choose_spec (hel' i i.2)).1
          · simp at hi
            have := (Classical.choose_spec (hel' i hi)).2
            simp at hu
            exact this j u hu
        obtain ⟨ks, rfl, hok, hks⟩ := hks
        obtain ⟨b, off, spot⟩ := a
        have h0 := hks 0 (by omega) 0 _ rfl
        have hspot : spot = none := by simpa [Addr.add] using World.cell?_spot h0
        subst hspot
        refine safe_any ks b off cap w (fun i hi j u hu => ?_) hok (fun _ => ?_) hr
        · have := hks i hi j u hu
          simpa [Addr.add_lit, Nat.add_assoc] using this
        · have := World.block_lt_of_cell? w _ h0
          simpa [Addr.add_lit] using this
    · exact safe_out _ _ _ w (by omega) (by omega)

/-! ### the row -/
set_option maxRecDepth 100000 in
theorem lifted (os : Os) (started : os.Started) (H : Type) (enc : TypeId × Value → H) :
    ReturnsInHanded {} Try.checked os 4 .any (Rows.namesSafeSpec.pre6 enc Try.prog Try.f4 Rows.namesSafeRow.domain false) (Rows.namesSafeSpec.post enc Try.prog Try.f4 false true false false) := by
  refine returnsInHanded_of_change (C := Try.checked) own started (by kernel_rfl) Try.func4
    (ChangeSpec.witness6 (enc := enc) (C := Try.checked) false ⟨#[], #[.slice none 0 0], []⟩ 8 (by kernel_rfl) (by kernel_rfl) (by kernel_rfl) (by kernel_rfl)) ?_
  intro W base args ds gs before hval0 hW hcnd _
  have hval : ∀ (j : Nat) t v, Try.f4.params[j]? = some t → args[j]? = some v → Value.okWide Try.prog W .any base t v := hval0
  have hW' := hW
  obtain ⟨p, q, hA0, hV, rfl, hfz, hnd⟩ := hW
  have hA : DataW.TrodAll enc Try.prog W 0 (fun _ => true) true Try.f4.params.toList args.toList ds p := hA0
  rw [Try.params4] at hA hval
  obtain ⟨v0, vs0, d0, ds0, p0, q0, hargs, rfl, rfl, h0, r0⟩ := trodAll_cons hA
  obtain ⟨rfl, rfl, rfl⟩ := trodAll_nil r0
  obtain rfl : args = #[v0] := by cases args; simp_all
  obtain ⟨rfl, rfl⟩ := trodVars_none hV
  obtain ⟨a0, len0, cap0, rfl⟩ := okWide_slice Try.underlying37 (hval 0 37 v0 rfl rfl)
  have k0 := h0
  have lt0 : ∀ x ∈ p0, x.block < W.heap.size := by obtain ⟨m, hm⟩ := k0; exact DataW.trod_lt m _ _ _ hm
  clear hA0 hval0
  refine (walk h0).mono fun e W' ⟨he, bel⟩ => ?_
  subst he
  exact ⟨_, rfl, _, _, _, [], _, [], hW', trodAll_mk1 (shut_bool Try.underlying4 _), (trodAll_cons_mk (Below.trod laidOut (by kernel_rfl) (of_decide_eq_true (by kernel_rfl)) k0 bel lt0) trodAll_mk0), rfl, bel.frame _, fun h => by cases h⟩

theorem over : Rows.namesSafeRow.holds Try.pinned (OpenSpec.ofChange Rows.namesSafeSpec) :=
  OpenClaim.holds_of_wide 4 Try.f4 rfl rfl rfl rfl rfl rfl rfl ⟨rfl, rfl, rfl, rfl, rfl⟩ rfl rfl rfl rfl rfl (by kernel_rfl) Try.func4 (by kernel_rfl)
    (of_decide_eq_true (by kernel_rfl)) (by unfold Func.isWrapper; first | (rw [if_pos (by decide +kernel)]; kernel_rfl) | (rw [if_neg (by decide +kernel)]; exact ⟨rfl, rfl⟩))
    (fun os started H enc _ => lifted os started H enc)

theorem proved : Rows.NamesSafeSaid := over
#print axioms proved
end Go.Proofs.Ytgmopnbejjfbjaa.namesSafe
