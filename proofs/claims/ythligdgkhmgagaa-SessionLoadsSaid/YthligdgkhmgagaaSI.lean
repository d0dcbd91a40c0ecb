/-
  The laws on package session: how the arguments read; few at a slice without elements. Conditions: none.
-/
import Derived.Test.YthligdgkhmgagaaSH
import Derived.OpenShut
import Derived.ShutString
import Derived.ChangeOld
import Derived.Deep.Slices
import Derived.Lib.SmallJoins
namespace Go.Proofs.Ythligdgkhmgagaa
open Go.ChangeShapes Go.WideShapes Go.ChangeAt Go.RowKit Go.Deep
set_option linter.unusedVariables false

theorem own : ownKnob Try.prog.godebug = none := by kernel_rfl
theorem laidOut : laidOutB Try.prog = true := by kernel_rfl
set_option maxRecDepth 100000 in
set_option maxHeartbeats 1000000 in
theorem few_none (w : World) (ao : Option Addr) (cap : Nat) (most : Nat) (hm : most ≤ 1000) : Calls Try.prog 9 #[.slice ao 0 cap, .int .i64 most] w fun r w' => r = .returned (.bool (fewB [] most)) ∧ w' = w := by
  go_enter Try.func9, Try.ntmps9
  go_wp2_with fail
  refine wp_loop_rounds 1 ?_
  rw [rounds_succ]
  go_wp2
  go_ret
  exact ⟨rfl, rfl⟩
section
variable {H : Type} {enc : TypeId × Value → H} {w : World} {base : Nat} {spare : Nat → Bool} {held : Bool}
theorem struct_field {P : Program} {t : TypeId} {fs : Array Field} {fuel : Nat} {cs : List Value} {x : DataW H × List MemPlace} (ht : P.underlying t = some (.struct fs)) (h : DataW.trod enc P w base spare held fuel t cs = some x)
    (i : Nat) {f : Field} (hi : fs[i]? = some f) {ty off n : Nat} (h1 : f.type = ty) (h2 : f.offset = off) (h3 : P.cellsOf ty = n) : ∃ m y, DataW.trod enc P w base spare held m ty ((cs.drop off).take n) = some y := by
  obtain ⟨xs, m, _, _, hl, hxl, hf⟩ := DataW.trod_struct ht h
  subst h1 h2 h3
  have hlt : i < xs.length := by rw [hxl]; exact (Array.getElem?_eq_some_iff.1 hi).1
  exact ⟨m, _, (hf i f hi).trans (List.getElem?_eq_getElem hlt)⟩
theorem struct_length {P : Program} {t : TypeId} {fs : Array Field} {fuel : Nat} {cs : List Value} {x : DataW H × List MemPlace} (ht : P.underlying t = some (.struct fs)) (h : DataW.trod enc P w base spare held fuel t cs = some x) {n : Nat} (h3 : P.cellsOf t = n) : cs.length = n := by
  obtain ⟨xs, m, _, _, hl, hxl, hf⟩ := DataW.trod_struct ht h
  rw [hl, h3]
theorem cellsInt : Try.prog.cellsOf 3 = 1 := by kernel_rfl
theorem cellsErr : Try.prog.cellsOf 28 = 1 := by kernel_rfl
theorem cellsStr : Try.prog.cellsOf 9 = 1 := by kernel_rfl
theorem cellsOp : Try.prog.cellsOf 30 = 5 := by kernel_rfl
/-- what an operation's value is known to be -/
structure OpOk (x : SOp) : Prop where
  key : x.s.size ≤ 9223372036854775807
  kin : InR x.k
  val : InR x.a
  old : InR x.b
  code : InR x.c
theorem open_op {fuel : Nat} {cs : List Value} {x : DataW H × List MemPlace} (h : DataW.trod enc Try.prog w base spare held fuel 30 cs = some x) : ∃ y : SOp, cs = y.cs ∧ OpOk y := by
  have hl := struct_length Try.underlying30 h cellsOp
  obtain ⟨_, _, f0⟩ := struct_field Try.underlying30 h 0 rfl rfl rfl cellsInt
  obtain ⟨_, _, f1⟩ := struct_field Try.underlying30 h 1 rfl rfl rfl cellsInt
  obtain ⟨_, _, f2⟩ := struct_field Try.underlying30 h 2 rfl rfl rfl cellsInt
  obtain ⟨_, _, f3⟩ := struct_field Try.underlying30 h 3 rfl rfl rfl cellsStr
  obtain ⟨_, _, f4⟩ := struct_field Try.underlying30 h 4 rfl rfl rfl cellsErr
  clear h
  obtain ⟨a0, h0, _, b0⟩ := DataW.trod_int Try.underlying3 f0
  obtain ⟨a1, h1, _, b1⟩ := DataW.trod_int Try.underlying3 f1
  obtain ⟨a2, h2, _, b2⟩ := DataW.trod_int Try.underlying3 f2
  obtain ⟨s, hs, _, b3⟩ := DataW.trod_string Try.underlying9 f3
  obtain ⟨a4, h4, _, b4⟩ := DataW.trod_int Try.underlying28 f4
  clear f0 f1 f2 f3 f4
  have r0 : InR a0 := by simp [Lit.wf, IntKind.min, IntKind.max, IntKind.signed, IntKind.bits] at b0; unfold InR; omega
  have r1 : InR a1 := by simp [Lit.wf, IntKind.min, IntKind.max, IntKind.signed, IntKind.bits] at b1; unfold InR; omega
  have r2 : InR a2 := by simp [Lit.wf, IntKind.min, IntKind.max, IntKind.signed, IntKind.bits] at b2; unfold InR; omega
  have r4 : InR a4 := by simp [Lit.wf, IntKind.min, IntKind.max, IntKind.signed, IntKind.bits] at b4; unfold InR; omega
  match cs, hl with
  | [c0, c1, c2, c3, c4], _ =>
    simp at h0 hs h1 h2 h4
    refine ⟨⟨a0, a1, a2, s, a4⟩, by rw [h0, hs, h1, h2, h4]; rfl, ?_, r0, r1, r2, r4⟩
    unfold maxLen at b3
    simp only
    omega
/-- a slice of operations -/
theorem open_ops {ao : Option Addr} {len cap : Nat} {d : DataW H} {p : List MemPlace} (h : DataW.Trod enc Try.prog w base spare held 22 (.slice ao len cap) d p) :
    ∃ l : List SOp, (∀ x ∈ l, OpOk x) ∧ len ≤ 9223372036854775807 ∧ l.length = len ∧ (len = 0 ∨ ∃ b off, ao = some ⟨b, off, none⟩ ∧ Ops w b off l ∧ b < w.heap.size) := by
  obtain ⟨fuel, hf⟩ := h
  rcases open_slice Try.underlying22 hf with ⟨hcs, _⟩ | ⟨a, l, c, m, n', D, Pl, hcs, _, hlc, hcm, hm, _, hel⟩
  · simp [Value.cells] at hcs
    obtain ⟨rfl, rfl, rfl⟩ := hcs
    exact ⟨[], by simp, by omega, rfl, .inl rfl⟩
  · simp [Value.cells] at hcs
    obtain ⟨rfl, rfl, rfl⟩ := hcs
    unfold maxLen at hcm
    have hml : len ≤ m := by rw [hm]; split <;> omega
    have hel' : ∀ i, i < len → ∃ y : SOp, OpOk y ∧ ∀ j u, y.cs[j]? = some u → w.cell? ((a.add (i * 5)).add j) = some u := fun i hi => by
      obtain ⟨cs', hc, ht⟩ := hel i (by omega)
      rw [cellsOp] at hc
      obtain ⟨y, rfl, hy⟩ := open_op ht
      obtain ⟨_, _, hat⟩ := World.cells?_some hc
      exact ⟨y, hy, fun j u hu => (hat j (List.getElem?_eq_some_iff.1 hu).1).trans hu⟩
    have hks : ∃ ks : List SOp, ks.length = len ∧ (∀ y ∈ ks, OpOk y) ∧ ∀ i (h : i < ks.length) j u, (ks[i].cs)[j]? = some u → w.cell? ((a.add (i * 5)).add j) = some u := by
      refine ⟨List.ofFn fun i : Fin len => Classical.choose (hel' i i.2), by simp, fun y hy => ?_, fun i hi j u hu => ?_⟩
      · obtain ⟨i, rfl⟩ := List.mem_ofFn.1 hy
        exact (Classical.choose_spec (hel' i i.2)).1
      · simp at hi
        have := (Classical.choose_spec (hel' i hi)).2
        simp at hu
        exact this j u hu
    obtain ⟨ks, rfl, hok, hks⟩ := hks
    refine ⟨ks, hok, by omega, rfl, ?_⟩
    by_cases h0 : ks.length = 0
    · exact .inl h0
    · obtain ⟨b, off, spot⟩ := a
      have h1 := hks 0 (by omega) 0 _ rfl
      have hspot : spot = none := by simpa [Addr.add] using World.cell?_spot h1
      subst hspot
      refine .inr ⟨b, off, rfl, fun i hi j u hu => ?_, ?_⟩
      · have := hks i hi j u hu
        simpa [Addr.add_lit, Nat.add_assoc] using this
      · have := World.block_lt_of_cell? w _ h1
        simpa [Addr.add_lit] using this
/-- the contract of few that the laws ask of such a slice -/
theorem ops_few {ao : Option Addr} {len cap : Nat} {l : List SOp} (hok : ∀ x ∈ l, OpOk x) (hlen : len ≤ 9223372036854775807) (hl : l.length = len) (h : len = 0 ∨ ∃ b off, ao = some ⟨b, off, none⟩ ∧ Ops w b off l ∧ b < w.heap.size) (most : Nat) (hm : most ≤ 1000) :
    ∀ W, Ext (fun _ => False) w W → Calls Try.prog 9 #[.slice ao len cap, .int .i64 most] W fun r w' => r = .returned (.bool (fewB l most)) ∧ w' = W := by
  rcases h with h | ⟨b, off, rfl, ho, hb⟩
  · subst h
    obtain rfl := List.eq_nil_of_length_eq_zero hl
    exact fun W _ => few_none W ao cap most hm
  · subst hl
    exact fun W hW => few_any W b off cap l most (ho.ext hW (fun _ => ⟨hb, id⟩)) hlen (fun x hx => (hok x hx).key) hm
theorem ops_cells {ao : Option Addr} {len : Nat} {l : List SOp} (hl : l.length = len) (h : len = 0 ∨ ∃ b off, ao = some ⟨b, off, none⟩ ∧ Ops w b off l ∧ b < w.heap.size) : 0 < l.length → ∃ b off, ao = some ⟨b, off, none⟩ ∧ Ops w b off l ∧ b < w.heap.size := by
  intro h0
  rcases h with h | h
  · omega
  · exact h
end
open Go.Joins in
set_option maxRecDepth 100000 in
theorem open_op_value {H : Type} {enc : TypeId × Value → H} {w : World} {base : Nat} {spare : Nat → Bool} {held : Bool} {r : Reach} {b0 : Nat} {v : Value} {d : DataW H} {p : List MemPlace} (hv : Value.okWide Try.prog w r b0 30 v) (h : DataW.Trod enc Try.prog w base spare held 30 v d p) :
    ∃ y : SOp, v = y.v ∧ OpOk y := by
  obtain ⟨cs, rfl, hsz⟩ := okWide_struct Try.underlying30 hv
  obtain ⟨fuel, hf⟩ := h
  obtain ⟨y, hy, hok⟩ := open_op hf
  refine ⟨y, ?_, hok⟩
  have : cs = (y.cs).toArray := by
    apply Array.ext'
    simpa [Value.cells] using hy
  rw [this]; rfl
end Go.Proofs.Ythligdgkhmgagaa
