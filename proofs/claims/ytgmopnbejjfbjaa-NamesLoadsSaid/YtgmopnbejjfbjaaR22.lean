/-
  NamesCalls: the walk. Conditions: the arguments' cells are as given.
-/
import Derived.Test.YtgmopnbejjfbjaaR20
namespace Go.Proofs.Ytgmopnbejjfbjaa
open Go.RowKit Go.MapKept
open Go.ChangeMaps (setBlock)

theorem fewB_body {l : List NOp} {m : Nat} (h : fewB l m = true) : l.length ≤ m ∧ ∀ x ∈ l, x.n.size ≤ 1000 := by
  unfold fewB at h
  simp at h
  refine ⟨h.2, fun x hx => ?_⟩
  have := h.1 x hx
  unfold fewX at this
  simp at this
  omega
set_option maxRecDepth 100000 in
set_option maxHeartbeats 4000000 in
theorem calls_core (w : World) (ao : Option Addr) (n cap : Nat) (l : List NOp) (hok : ∀ x ∈ l, InR x.a)
    (hfew : ∀ W, Ext (fun _ => False) w W → Calls Try.prog 23 #[.slice ao n cap, .int .i64 30] W fun r w' => r = .returned (.bool (fewB l 30)) ∧ w' = W)
    (hn : n = l.length) (hcells : 0 < l.length → ∃ b off, ao = some ⟨b, off, none⟩ ∧ Ops w b off l ∧ b < w.heap.size) :
    Calls Try.prog 5 #[.slice ao n cap] w (AwakePost w) := by
  subst hn
  have Hfew := Lib.hid hfew
  have Hcells := Lib.hid hcells
  have Hok := Lib.hid hok
  clear hfew hcells hok
  go_enter Try.func5, Try.ntmps5
  go_wp2_with fail
  refine (awake_any _).mono ?_
  rintro r w1 ⟨rfl, hx1⟩
  go_wp2_with fail
  refine (Hfew.out _ hx1).mono ?_
  rintro r w' ⟨rfl, hw⟩; obtain rfl := hw.symm
  cases hf : fewB l 30 with
  | false =>
    have Hx1 := Lib.hid hx1
    clear hf hx1
    go_wp2
    go_ret
    exact ⟨rfl, Hx1.out⟩
  | true =>
    obtain ⟨hl, hb⟩ := fewB_body hf
    have hrun := run_any w1 ao l.length cap l Hok.out hb (by omega) rfl (fun h => by
      obtain ⟨b, off, h1, h2, h3⟩ := Hcells.out h
      exact ⟨b, off, h1, h2.ext hx1 (fun _ => ⟨h3, id⟩), Nat.lt_of_lt_of_le h3 hx1.size⟩)
    have Hrun := Lib.hid hrun
    have Hx1 := Lib.hid hx1
    clear hrun hx1 hf hb hl
    go_wp2_with fail
    refine Hrun.out.mono ?_
    rintro r w2 ⟨rb, mb, L, v, rfl, _, _, _, _, hx2, _⟩
    have Hx2 := Lib.hid (Hx1.out.trans hx2)
    clear hx2
    go_wp2
    go_ret
    exact ⟨rfl, Hx2.out⟩
end Go.Proofs.Ytgmopnbejjfbjaa
