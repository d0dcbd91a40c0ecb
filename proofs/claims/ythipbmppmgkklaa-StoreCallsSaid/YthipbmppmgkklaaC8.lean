/-
  StoreCalls: for every input the law returns true, and the input reads as it did. Conditions: none.
-/
import Derived.Test.YthipbmppmgkklaaC7
import Derived.Test.YthipbmppmgkklaaTR
import Derived.Test.YthipbmppmgkklaaRows
namespace Go.Proofs.Ythipbmppmgkklaa
open Go.ChangeShapes Go.WideShapes Go.ChangeAt Go.RowKit Go.Deep
set_option maxRecDepth 100000 in
theorem few_none40 (w : World) (ao : Option Addr) (cap : Nat) : Calls Try.prog 11 #[.slice ao 0 cap, .int .i64 40] w fun r w' => r = .returned (.bool (fewB [] 40)) ∧ w' = w := by
  go_enter Try.func11, Try.ntmps11
  go_wp2_with fail
  refine wp_loop_rounds 1 ?_
  rw [rounds_succ]
  go_wp2
  go_ret
  exact ⟨rfl, rfl⟩
theorem ops_few40 {w : World} {ao : Option Addr} {len cap : Nat} {l : List OpV} (hok : ∀ x ∈ l, OpOk x) (hlen : len ≤ 9223372036854775807) (hl : l.length = len) (h : len = 0 ∨ ∃ b off, ao = some ⟨b, off, none⟩ ∧ Ops w b off l ∧ b < w.heap.size) :
    ∀ W, Ext (fun _ => False) w W → Calls Try.prog 11 #[.slice ao len cap, .int .i64 40] W fun r w' => r = .returned (.bool (fewB l 40)) ∧ w' = W := by
  rcases h with h | ⟨b, off, rfl, ho, hb⟩
  · subst h
    obtain rfl := List.eq_nil_of_length_eq_zero hl
    exact fun W _ => few_none40 W ao cap
  · subst hl
    exact fun W hx => few_any W b off cap l 40 (ho.ext hx (fun _ => ⟨hb, id⟩)) hlen (fun x hx => (hok x hx).key) (by omega)
end Go.Proofs.Ythipbmppmgkklaa
namespace Go.Proofs.Ythipbmppmgkklaa.storeCalls
open Go.ChangeShapes Go.WideShapes Go.ChangeAt Go.RowKit Go.Deep
set_option linter.unusedVariables false
set_option maxRecDepth 100000 in
theorem lifted (os : Os) (started : os.Started) (H : Type) (enc : TypeId × Value → H) :
    ReturnsInHanded {} Try.checked os 6 .any (Rows.storeCallsSpec.pre6 enc Try.prog Try.f6 Rows.storeCallsRow.domain false) (Rows.storeCallsSpec.post enc Try.prog Try.f6 false true false false) := by
  refine returnsInHanded_of_change (C := Try.checked) own started (by kernel_rfl) Try.func6
    (ChangeSpec.witness6 (enc := enc) (C := Try.checked) false ⟨#[], #[.slice none 0 0], []⟩ 8 (by kernel_rfl) (by kernel_rfl) (by kernel_rfl) (by kernel_rfl)) ?_
  intro W base args ds gs before hval0 hW hcnd _
  have hval : ∀ (j : Nat) t v, Try.f6.params[j]? = some t → args[j]? = some v → Value.okWide Try.prog W .any base t v := hval0
  have hW' := hW
  obtain ⟨p, q, hA0, hV, rfl, hfz, hnd⟩ := hW
  have hA : DataW.TrodAll enc Try.prog W 0 (fun _ => true) true Try.f6.params.toList args.toList ds p := hA0
  rw [Try.params6] at hA hval
  obtain ⟨v0, vs0, d0, ds0, p0, q0, hargs, rfl, rfl, h0, r0⟩ := trodAll_cons hA
  obtain ⟨rfl, rfl, rfl⟩ := trodAll_nil r0
  obtain rfl : args = #[v0] := by cases args; simp_all
  obtain ⟨rfl, rfl⟩ := trodVars_none hV
  obtain ⟨a0, len0, cap0, rfl⟩ := okWide_slice Try.underlying22 (hval 0 22 v0 rfl rfl)
  have k0 := h0
  have lt0 : ∀ x ∈ p0, x.block < W.heap.size := by obtain ⟨m, hm⟩ := k0; exact DataW.trod_lt m _ _ _ hm
  obtain ⟨l, hok, hlen, hl, hsh⟩ := open_ops h0
  clear hA0 hval0
  refine (calls_core W a0 len0 cap0 l (ops_few40 hok hlen hl hsh) (fun z hz => ⟨(hok z hz).kin, (hok z hz).val, (hok z hz).old⟩) hl.symm (fun h => hsh.resolve_left (fun e => by omega))).mono fun e W' ⟨he, bel0⟩ => ?_
  have bel := bel0.below
  subst he
  exact ⟨_, rfl, _, _, _, [], _, [], hW', trodAll_mk1 (shut_bool Try.underlying4 _), (trodAll_cons_mk (Below.trod laidOut (by kernel_rfl) (of_decide_eq_true (by kernel_rfl)) k0 bel lt0) trodAll_mk0), rfl, bel.frame _, fun h => by cases h⟩

theorem over : Rows.storeCallsRow.holds Try.pinned (OpenSpec.ofChange Rows.storeCallsSpec) :=
  OpenClaim.holds_of_wide 6 Try.f6 rfl rfl rfl rfl rfl rfl rfl ⟨rfl, rfl, rfl, rfl, rfl⟩ rfl rfl rfl rfl rfl (by kernel_rfl) Try.func6 (by kernel_rfl)
    (of_decide_eq_true (by kernel_rfl)) (by unfold Func.isWrapper; first | (rw [if_pos (by decide +kernel)]; kernel_rfl) | (rw [if_neg (by decide +kernel)]; exact ⟨rfl, rfl⟩))
    (fun os started H enc _ => lifted os started H enc)

theorem proved : Rows.StoreCallsSaid := over
#print axioms proved
end Go.Proofs.Ythipbmppmgkklaa.storeCalls
