/-
  SessionFences: the walk. Conditions: the arguments' cells are as given.
-/
import Derived.Test.YthligdgkhmgagaaUJ
namespace Go.Proofs.Ythligdgkhmgagaa
open Go.RowKit Go.MapKept
open Go.ChangeMaps (setBlock)

set_option maxRecDepth 100000 in
set_option maxHeartbeats 4000000 in
theorem fences_core (w : World) (ao : Option Addr) (n cap : Nat) (l : List SOp) (hok : ∀ x ∈ l, InR x.c)
    (hfew : ∀ W, Ext (fun _ => False) w W → Calls Try.prog 9 #[.slice ao n cap, .int .i64 30] W fun r w' => r = .returned (.bool (fewB l 30)) ∧ w' = W)
    (hn : n = l.length) (hcells : 0 < l.length → ∃ b off, ao = some ⟨b, off, none⟩ ∧ Ops w b off l ∧ b < w.heap.size) (g s c : Int) :
    Calls Try.prog 5 #[.slice ao n cap, .int .i64 g, .int .i64 s, .int .i64 c] w (AwakePost w) := by
  subst hn
  have Hfew := Lib.hid hfew
  have Hcells := Lib.hid hcells
  have Hok := Lib.hid hok
  clear hfew hcells hok
  go_enter Try.func5, Try.ntmps5
  go_wp2_with fail
  refine (awake_any _).mono ?_
  rintro r w1 ⟨rfl, hx1⟩
  have HW1 := Lib.hid hx1
  clear hx1
  go_wp2_with fail
  refine (Hfew.out _ HW1.out).mono ?_
  rintro r w' ⟨rfl, hw⟩; obtain rfl := hw.symm
  by_cases hall : fewB l 30 = true ∧ g ≤ 4611686018427387904 ∧ s ≤ 4611686018427387904
  · obtain ⟨hf, hg, hs⟩ := hall
    have hl30 : l.length ≤ 30 := by unfold fewB at hf; simp at hf; exact hf.2
    have hbody : ∀ x ∈ l, x.s.size ≤ 1000 := fun x hx => by
      unfold fewB at hf; simp at hf
      have := hf.1 x hx
      unfold fewX at this; simp at this; omega
    have Hbody := Lib.hid hbody
    clear hbody
    have q1 : decide (g > 4611686018427387904) = false := by simp; omega
    have q2 : decide (s > 4611686018427387904) = false := by simp; omega
    go_wp2_with fail
    refine (run_any w1 ao l.length cap l Hok.out Hbody.out (by omega) rfl (fun h => by
      obtain ⟨b, off, h1, h2, h3⟩ := Hcells.out h
      exact ⟨b, off, h1, h2.ext HW1.out (fun _ => ⟨h3, id⟩), Nat.lt_of_lt_of_le h3 HW1.out.size⟩)).mono ?_
    rintro r w3 ⟨tb, cb, sb, v, T, rfl, hs, hr, hinv, hx3, k1, k2, k3⟩
    have k0 := HW1.out.size
    obtain ⟨a1, m1, p1, a2, m2, p2, rfl⟩ := hr.shape
    obtain ⟨w4, hw4⟩ : ∃ w4, w4 = w3.alloc (.cells #[.slice a1 m1 p1, .int .i64 T.gen, .slice a2 m2 p2] 39) := ⟨_, rfl⟩
    have hx4 : Ext (fun _ => False) w3 w4 := by rw [hw4]; exact (Ext.refl _ w3).alloc _
    have HW3 := Lib.hid ((HW1.out.trans hx3).trans hx4)
    have Hs := Lib.hid (hs.keep hx4)
    clear hs hr hinv hx3 hf q1 q2 hx4
    go_wp2_with fail
    try rw [← hw4]
    clear hw4
    refine (generation_any w4 tb cb sb T Hs.out).mono ?_
    rintro r w' ⟨rfl, hw⟩; obtain rfl := hw.symm
    go_wp2_with fail
    refine (admin_any w4 tb cb sb T Hs.out g s).mono ?_
    rintro r w8 ⟨rfl, hx4⟩
    have Hx4 := Lib.hid hx4
    clear hx4
    go_wp2_with fail
    refine (note_any w8 tb cb sb T (Hs.out.keep Hx4.out) g s c).mono ?_
    rintro r w5 ⟨sb5, rfl, ht5, hx5, hs5⟩
    have HW5 := Lib.hid ((HW3.out.trans Hx4.out).own hx5 (fun k e => by
      have e' : k = tb ∨ k = sb := e
      omega))
    have hsb5 : w.heap.size ≤ sb5 := by
      have := Hx4.out.size
      have := HW3.out.size
      omega
    clear hx5 hs5
    cases hk : (adminM T g s).2 with
    | true =>
      obtain ⟨e1, e2⟩ := fence_known c hk
      rw [e1] at ht5
      have Ht5 := Lib.hid ht5
      have e3 : ((noteM T g s c).2 != 0) = true := by simpa using e2
      have e4 : ((noteM T g s c).2 == 0) = false := by simpa using e2
      clear e1 e2 ht5
      generalize (noteM T g s c).2 = code at *
      generalize (adminM T g s).1 = adm at *
      go_wp2_with fail
      refine (generation_any w5 tb cb sb5 T Ht5.out).mono ?_
      rintro r w' ⟨rfl, hw⟩; obtain rfl := hw.symm
      go_wp2_with fail
      go_ret
      exact ⟨rfl, HW5.out⟩
    | false =>
      have F := fence_new c hk
      have hcode : (noteM T g s c).2 = 0 := by rw [F.code]
      rw [hcode]
      generalize (noteM T g s c).1 = T' at *
      have Ht5 := Lib.hid ht5
      have HF := Lib.hid F
      have f1 := F.gen
      have f2 := F.ge
      have f3 := F.low
      have f4 := F.high
      generalize (adminM T g s).1 = adm at *
      clear ht5 F hcode
      go_wp2_with fail
      refine (admin_any w5 tb cb sb5 T' Ht5.out g s).mono ?_
      rw [HF.out.known]
      rintro r w6 ⟨rfl, hx6⟩
      have Hx6 := Lib.hid hx6
      clear hx6
      have e1 : IntKind.i64.wrap (g - 1) = g - 1 := by rw [IntWalk.i64_in _ (by omega)]
      go_wp2_with fail
      refine (admin_any w6 tb cb sb5 T' (Ht5.out.keep Hx6.out) (g - 1) s).mono ?_
      rw [HF.out.fenced]
      rintro r w7 ⟨rfl, hx7⟩
      have Hx7 := Lib.hid (Hx6.out.trans hx7)
      clear hx7 e1
      by_cases h1 : g = 1
      · rw [if_pos h1]
        subst h1
        have e2 : ((1 : Int) == 1) = true := rfl
        have hgen := generation_any w7 tb cb sb5 T' (Ht5.out.keep Hx7.out)
        rw [HF.out.gen] at hgen
        have hnote := fun (c2 : Int) => note_any w7 tb cb sb5 T' (Ht5.out.keep Hx7.out) 1 s c2
        simp only [HF.out.again] at hnote
        have Hgen := Lib.hid hgen
        have Hnote := Lib.hid hnote
        have e3 : ((1 : Int) ≥ T.gen) = True := by simp; omega
        clear hgen hnote
        go_wp2_with fail
        refine Hgen.out.mono ?_
        rintro r w' ⟨rfl, hw⟩; obtain rfl := hw.symm
        go_wp2_with fail
        refine (Hnote.out _).mono ?_
        rintro r w9 ⟨sb9, rfl, ht9, hx9, hs9⟩
        have HW9 := Lib.hid ((HW5.out.trans Hx7.out).own hx9 (fun k e => by
          have e' : k = tb ∨ k = sb5 := e
          omega))
        clear ht9 hx9 hs9
        go_wp2_with fail
        go_ret
        exact ⟨rfl, HW9.out⟩
      · have e2 : (g == 1) = false := by simpa using h1
        rw [if_neg h1]
        have hgen := generation_any w7 tb cb sb5 T' (Ht5.out.keep Hx7.out)
        rw [HF.out.gen] at hgen
        have hnote := fun (c2 : Int) => note_any w7 tb cb sb5 T' (Ht5.out.keep Hx7.out) g s c2
        simp only [HF.out.again] at hnote
        have Hgen := Lib.hid hgen
        have Hnote := Lib.hid hnote
        have e3 : (g ≥ T.gen) = True := by simp; omega
        clear hgen hnote
        go_wp2_with fail
        refine Hgen.out.mono ?_
        rintro r w' ⟨rfl, hw⟩; obtain rfl := hw.symm
        go_wp2_with fail
        refine (Hnote.out _).mono ?_
        rintro r w9 ⟨sb9, rfl, ht9, hx9, hs9⟩
        have HW9 := Lib.hid ((HW5.out.trans Hx7.out).own hx9 (fun k e => by
          have e' : k = tb ∨ k = sb5 := e
          omega))
        clear ht9 hx9 hs9
        go_wp2_with fail
        go_ret
        exact ⟨rfl, HW9.out⟩
  · cases hf : fewB l 30 with
    | false =>
      clear hall hf
      go_wp2_with fail
      go_ret
      exact ⟨rfl, HW1.out⟩
    | true =>
      by_cases hg : g ≤ 4611686018427387904
      · have hs : ¬ s ≤ 4611686018427387904 := fun h => hall ⟨hf, hg, h⟩
        have q1 : decide (g > 4611686018427387904) = false := by simp; omega
        have q2 : decide (s > 4611686018427387904) = true := by simp; omega
        clear hall hf
        go_wp2_with fail
        go_ret
        exact ⟨rfl, HW1.out⟩
      · have q1 : decide (g > 4611686018427387904) = true := by simp; omega
        clear hall hf
        go_wp2_with fail
        go_ret
        exact ⟨rfl, HW1.out⟩
end Go.Proofs.Ythligdgkhmgagaa
