/-
  StoreInverts: for every input the law returns true, and the input reads as it did. Conditions: none.
-/
import Derived.Test.YthipbmppmgkklaaQ8
import Derived.Test.YthipbmppmgkklaaTR
import Derived.Test.YthipbmppmgkklaaRows
namespace Go.Proofs.Ythipbmppmgkklaa
open Go.ChangeShapes Go.WideShapes Go.ChangeAt Go.RowKit Go.Deep
section
variable {H : Type} {enc : TypeId × Value → H} {w : World} {base : Nat} {spare : Nat → Bool} {held : Bool}
theorem cellsErr : Try.prog.cellsOf 29 = 1 := by kernel_rfl
theorem cellsBool : Try.prog.cellsOf 4 = 1 := by kernel_rfl
theorem cellsRes : Try.prog.cellsOf 31 = 3 := by kernel_rfl
def rsCs (y : Rs) : List Value := [.int .i64 y.c, .bool y.f, .int .i64 y.v]
theorem open_res {fuel : Nat} {cs : List Value} {x : DataW H × List MemPlace} (h : DataW.trod enc Try.prog w base spare held fuel 31 cs = some x) : ∃ y : Rs, cs = rsCs y ∧ InR y.c ∧ InR y.v := by
  have hl := struct_length Try.underlying31 h cellsRes
  obtain ⟨_, _, f0⟩ := struct_field Try.underlying31 h 0 rfl rfl rfl cellsErr
  obtain ⟨_, _, f1⟩ := struct_field Try.underlying31 h 1 rfl rfl rfl cellsBool
  obtain ⟨_, _, f2⟩ := struct_field Try.underlying31 h 2 rfl rfl rfl cellsInt64
  clear h
  obtain ⟨a0, h0, _, b0⟩ := DataW.trod_int Try.underlying29 f0
  obtain ⟨s, hs, _⟩ := DataW.trod_bool Try.underlying4 f1
  obtain ⟨a2, h2, _, b2⟩ := DataW.trod_int Try.underlying2 f2
  clear f0 f1 f2
  have r0 : InR a0 := by simp [Lit.wf, IntKind.min, IntKind.max, IntKind.signed, IntKind.bits] at b0; unfold InR; omega
  have r2 : InR a2 := by simp [Lit.wf, IntKind.min, IntKind.max, IntKind.signed, IntKind.bits] at b2; unfold InR; omega
  match cs, hl with
  | [c0, c1, c2], _ =>
    simp at h0 hs h2
    exact ⟨⟨a0, s, a2⟩, by rw [h0, hs, h2]; rfl, r0, r2⟩
end
open Go.Joins in
set_option maxRecDepth 100000 in
theorem open_res_value {H : Type} {enc : TypeId × Value → H} {w : World} {base : Nat} {spare : Nat → Bool} {held : Bool} {r : Reach} {b0 : Nat} {v : Value} {d : DataW H} {p : List MemPlace} (hv : Value.okWide Try.prog w r b0 31 v) (h : DataW.Trod enc Try.prog w base spare held 31 v d p) :
    ∃ y : Rs, v = y.val ∧ InR y.c ∧ InR y.v := by
  obtain ⟨cs, rfl, hsz⟩ := okWide_struct Try.underlying31 hv
  obtain ⟨fuel, hf⟩ := h
  obtain ⟨y, hy, hok⟩ := open_res hf
  refine ⟨y, ?_, hok⟩
  have : cs = (rsCs y).toArray := by
    apply Array.ext'
    simpa [Value.cells] using hy
  rw [this]; rfl
end Go.Proofs.Ythipbmppmgkklaa
namespace Go.Proofs.Ythipbmppmgkklaa.storeInverts
open Go.ChangeShapes Go.WideShapes Go.ChangeAt Go.RowKit Go.Deep
set_option linter.unusedVariables false
set_option maxRecDepth 100000 in
theorem lifted (os : Os) (started : os.Started) (H : Type) (enc : TypeId × Value → H) :
    ReturnsInHanded {} Try.checked os 8 .any (Rows.storeInvertsSpec.pre6 enc Try.prog Try.f8 Rows.storeInvertsRow.domain false) (Rows.storeInvertsSpec.post enc Try.prog Try.f8 false true false false) := by
  refine returnsInHanded_of_change (C := Try.checked) own started (by kernel_rfl) Try.func8
    (ChangeSpec.witness6 (enc := enc) (C := Try.checked) false ⟨#[], #[.agg #[.int .i64 0, .string .empty, .int .i64 0, .int .i64 0], .agg #[.int .i64 0, .bool false, .int .i64 0]], []⟩ 8 (by kernel_rfl) (by kernel_rfl) (by kernel_rfl) (by kernel_rfl)) ?_
  intro W base args ds gs before hval0 hW hcnd _
  have hval : ∀ (j : Nat) t v, Try.f8.params[j]? = some t → args[j]? = some v → Value.okWide Try.prog W .any base t v := hval0
  have hW' := hW
  obtain ⟨p, q, hA0, hV, rfl, hfz, hnd⟩ := hW
  have hA : DataW.TrodAll enc Try.prog W 0 (fun _ => true) true Try.f8.params.toList args.toList ds p := hA0
  rw [Try.params8] at hA hval
  obtain ⟨v0, vs0, d0, ds0, p0, q0, hargs, rfl, rfl, h0, r0⟩ := trodAll_cons hA
  obtain ⟨v1, vs1, d1, ds1, p1, q1, rfl, rfl, rfl, h1, r1⟩ := trodAll_cons r0
  obtain ⟨rfl, rfl, rfl⟩ := trodAll_nil r1
  obtain rfl : args = #[v0, v1] := by cases args; simp_all
  obtain ⟨rfl, rfl⟩ := trodVars_none hV
  obtain ⟨x, rfl, hx⟩ := open_op_value (hval 0 24 v0 rfl rfl) h0
  obtain ⟨y, rfl, hyc, hyv⟩ := open_res_value (hval 1 31 v1 rfl rfl) h1
  have k0 := h0
  have k1 := h1
  have lt0 : ∀ x ∈ p0, x.block < W.heap.size := by obtain ⟨m, hm⟩ := k0; exact DataW.trod_lt m _ _ _ hm
  have lt1 : ∀ x ∈ p1, x.block < W.heap.size := by obtain ⟨m, hm⟩ := k1; exact DataW.trod_lt m _ _ _ hm
  clear hA0 hval0
  refine (inverts_core W x.k x.key x.v x.o y.c y.f y.v hx.kin hx.val hx.old hyc hyv hx.key).mono fun e W' ⟨he, bel0⟩ => ?_
  have bel := bel0.below
  subst he
  exact ⟨_, rfl, _, _, _, [], _, [], hW', trodAll_mk1 (shut_bool Try.underlying4 _), (trodAll_cons_mk (Below.trod laidOut (by kernel_rfl) (of_decide_eq_true (by kernel_rfl)) k0 bel lt0) (trodAll_cons_mk (Below.trod laidOut (by kernel_rfl) (of_decide_eq_true (by kernel_rfl)) k1 bel lt1) trodAll_mk0)), rfl, bel.frame _, fun h => by cases h⟩

theorem over : Rows.storeInvertsRow.holds Try.pinned (OpenSpec.ofChange Rows.storeInvertsSpec) :=
  OpenClaim.holds_of_wide 8 Try.f8 rfl rfl rfl rfl rfl rfl rfl ⟨rfl, rfl, rfl, rfl, rfl⟩ rfl rfl rfl rfl rfl (by kernel_rfl) Try.func8 (by kernel_rfl)
    (of_decide_eq_true (by kernel_rfl)) (by unfold Func.isWrapper; first | (rw [if_pos (by decide +kernel)]; kernel_rfl) | (rw [if_neg (by decide +kernel)]; exact ⟨rfl, rfl⟩))
    (fun os started H enc _ => lifted os started H enc)

theorem proved : Rows.StoreInvertsSaid := over
#print axioms proved
end Go.Proofs.Ythipbmppmgkklaa.storeInverts
