/-
  NamesSafe: the two short ways (no act; more than sixty acts). Conditions: none beyond each lemma's own.
-/
import Derived.Test.YtgmopnbejjfbjaaS6b
namespace Go.Proofs.Ytgmopnbejjfbjaa
open Go.RowKit Go.MapKept
open Go.ChangeMaps (setBlock)

set_option maxRecDepth 100000 in
set_option maxHeartbeats 1000000 in
theorem safe_out (ao : Option Addr) (len cap : Nat) (w : World) (hlen : len ≤ 9223372036854775807) (h : (60 : Int) < len) :
    Calls Try.prog 4 #[.slice ao len cap] w (AwakePost w) := by
  go_enter Try.func4, Try.ntmps4
  go_wp2_with (go_at_call 9; refine (awake_any _).mono ?_; rintro r wA ⟨rfl, hxA⟩)
  go_ret
  exact ⟨rfl, hxA⟩
set_option maxRecDepth 100000 in
set_option maxHeartbeats 4000000 in
theorem safe_none (ao : Option Addr) (cap : Nat) (w : World) :
    Calls Try.prog 4 #[.slice ao 0 cap] w (AwakePost w) := by
  have hmm := @run_makeMap Try.prog
  go_enter Try.func4, Try.ntmps4
  go_wp2_with (go_at_call 9; refine (awake_any _).mono ?_; rintro r wA ⟨rfl, hxA⟩)
  refine (new_any _).mono ?_
  rintro r wB ⟨rb, mb, rfl, hR0, hxB, hrb, hmb⟩
  go_wp2_with fail
  refine (clocknew_any _).mono ?_
  rintro r wC ⟨c0, rfl, hc0, hxC, hlc0⟩
  unfold ptr
  go_wp2_with fail
  refine (clocknew_any _).mono ?_
  rintro r wD ⟨c1, rfl, hc1, hxD, hlc1⟩
  unfold ptr
  go_wp2_with fail
  refine (clocknew_any _).mono ?_
  rintro r wE ⟨c2, rfl, hc2, hxE, hlc2⟩
  unfold ptr
  go_wp2_with fail
  refine (clocknew_any _).mono ?_
  rintro r wF ⟨c3, rfl, hc3, hxF, hlc3⟩
  unfold ptr
  go_wp2_with fail
  refine (newres_any _).mono ?_
  rintro r wG ⟨r0, m0, rfl, hr0, hxG, hlr0, hlm0⟩
  go_wp2_with fail
  refine (newres_any _).mono ?_
  rintro r wH ⟨r1, m1, rfl, hr1, hxH, hlr1, hlm1⟩
  go_wp2_with fail
  refine (newres_any _).mono ?_
  rintro r wI ⟨r2, m2, rfl, hr2, hxI, hlr2, hlm2⟩
  have hx := hxA.trans (hxB.trans (hxC.trans (hxD.trans (hxE.trans (hxF.trans (((Ext.refl (fun _ => False) wF).alloc (.cells #[ptr c0, ptr c1, ptr c2, ptr c3] 40)).trans (hxG.trans (hxH.trans hxI))))))))
  have Hx := Lib.hid hx
  clear hx hxA hR0 hxB hrb hmb hc0 hxC hlc0 hc1 hxD hlc1 hc2 hxE hlc2 hc3 hxF hlc3 hr0 hxG hlr0 hlm0 hr1 hxH hlr1 hlm1 hr2 hxI hlr2 hlm2
  go_wp2_with fail
  refine wp_loop_rounds 1 ?_
  rw [rounds_succ]
  go_wp2
  go_ret
  exact ⟨rfl, ((Hx.out.alloc _).alloc _).alloc _⟩
end Go.Proofs.Ytgmopnbejjfbjaa
