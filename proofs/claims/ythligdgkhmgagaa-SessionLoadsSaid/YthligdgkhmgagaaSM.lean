/-
  The reference of package session: Get, Admin. Conditions: none beyond IsRef.
-/
import Derived.Test.YthligdgkhmgagaaSL
namespace Go.Proofs.Ythligdgkhmgagaa
open Go.RowKit Go.MapKept
open Go.ChangeMaps (setBlock)

theorem rin_yes {a : Int} {x : Bool} (h : inI a = x) (w : World) : Calls Try.prog 59 #[.int .i64 a] w fun r w' => r = .returned (.bool x) ∧ w' = w := by
  subst h; exact rin_any a w
set_option maxRecDepth 100000 in
set_option maxHeartbeats 2000000 in
theorem rget_out (w : World) (v0 v1 v2 : Value) (c n : Int) (h : inB c n = false) :
    Calls Try.prog 27 #[.agg #[v0, v1, v2], .int .i64 c, .int .i64 n] w (StayPost w (.tuple #[.string .empty, .int .i64 1])) := by
  by_cases h1 : inI c = false
  · have H1 := Lib.hid (fun W => rin_yes h1 W)
    clear h h1
    go_enter Try.func27, Try.ntmps27
    go_wp2_with fail
    refine (H1.out _).mono ?_
    rintro r w' ⟨rfl, hw⟩; obtain rfl := hw.symm
    go_wp2
    go_ret2
    exact ⟨rfl, (Ext.refl _ w).alloc _⟩
  · have h1' : inI c = true := by simpa using h1
    have h2 : inI n = false := by unfold inB at h; rw [h1'] at h; simpa using h
    have H1 := Lib.hid (fun W => rin_yes h1' W)
    have H2 := Lib.hid (fun W => rin_yes h2 W)
    clear h h1 h2 h1'
    go_enter Try.func27, Try.ntmps27
    go_wp2_with fail
    refine (H1.out _).mono ?_
    rintro r w' ⟨rfl, hw⟩; obtain rfl := hw.symm
    go_wp2_with fail
    refine (H2.out _).mono ?_
    rintro r w' ⟨rfl, hw⟩; obtain rfl := hw.symm
    go_wp2
    go_ret2
    exact ⟨rfl, (Ext.refl _ w).alloc _⟩
set_option maxRecDepth 100000 in
set_option maxHeartbeats 2000000 in
theorem rget_any (w : World) (v : Value) (T : Tbl) (hr : IsRef w v T) (hg : TGood T) (hl : T.cl.length ≤ 1000000) (c n : Int) :
    Calls Try.prog 27 #[v, .int .i64 c, .int .i64 n] w (StayPost w (.tuple #[.string (clientM T c n).1, .int .i64 (clientM T c n).2])) := by
  have hfind := fun (W : World) (hx : Ext (fun _ => False) w W) => find_any W v T (hr.keep hx) hg hl c
  obtain ⟨vc, vs, rfl, hc, hs⟩ := hr
  obtain ⟨ao, cap, rfl⟩ := ownsRow_shape hc
  have hSl : (sC T).length = T.cl.length := ksort_length _
  obtain ⟨N, hN⟩ : ∃ N, (sC T).length = N := ⟨_, rfl⟩
  rw [hN] at hfind ⊢
  rw [hN] at hc hSl
  have hNl : N ≤ 1000000 := by omega
  cases hin : inB c n with
  | false =>
    have hm : clientM T c n = (.empty, 1) := by unfold clientM; rw [if_pos hin]
    rw [hm]
    exact rget_out w _ _ _ c n hin
  | true =>
  have h1 : inI c = true := by unfold inB at hin; simp at hin; exact hin.1
  have h2 : inI n = true := by unfold inB at hin; simp at hin; exact hin.2
  have H1 := Lib.hid (fun W => rin_yes h1 W)
  have H2 := Lib.hid (fun W => rin_yes h2 W)
  have Hfind := Lib.hid hfind
  cases hO : iget T.cl c with
  | none =>
    rw [hO] at Hfind
    have hm : clientM T c n = (.empty, 6) := by unfold clientM; rw [if_neg (by simp [hin]), hO]
    rw [hm]
    clear hfind hc hs hSl hN hO hm hin h1 h2
    go_enter Try.func27, Try.ntmps27
    go_wp2_with fail
    refine (H1.out _).mono ?_
    rintro r w' ⟨rfl, hw⟩; obtain rfl := hw.symm
    go_wp2_with fail
    refine (H2.out _).mono ?_
    rintro r w' ⟨rfl, hw⟩; obtain rfl := hw.symm
    go_wp2_with fail
    refine (Hfind.out _ ((Ext.refl _ w).alloc _)).mono ?_
    rintro r w2 ⟨rfl, hx2⟩
    have Hx2 := Lib.hid (((Ext.refl (fun _ => False) w).alloc (.cells #[.slice ao N cap, .int .i64 T.gen, vs] 39)).trans hx2)
    clear hx2
    go_wp2
    go_ret2
    exact ⟨rfl, Hx2.out⟩
  | some x =>
    rw [hO] at Hfind
    obtain ⟨xn, xs⟩ := x
    obtain ⟨g, rfl, hlt, _, hat, hat2⟩ := IsRef.found hN.symm hc hg hO
    have hgl : g < w.heap.size := (World.ownsRow.lt hc g rfl).2
    have hm : clientM T c n = if xn < n then (.empty, 6) else if n < xn then (.empty, 9) else (xs, 0) := by unfold clientM; rw [if_neg (by simp [hin]), hO]
    rw [hm]
    generalize posC T c = P at *
    have Hat := Lib.hid (And.intro hat hat2)
    clear hfind hc hs hSl hN hO hm hat hat2 hin h1 h2
    rcases Int.lt_trichotomy xn n with h3 | h3 | h3
    · rw [if_pos h3]
      go_enter Try.func27, Try.ntmps27
      go_wp2_with fail
      refine (H1.out _).mono ?_
      rintro r w' ⟨rfl, hw⟩; obtain rfl := hw.symm
      go_wp2_with fail
      refine (H2.out _).mono ?_
      rintro r w' ⟨rfl, hw⟩; obtain rfl := hw.symm
      go_wp2_with fail
      refine (Hfind.out _ ((Ext.refl _ w).alloc _)).mono ?_
      rintro r w2 ⟨rfl, hx2⟩
      have hxw := ((Ext.refl (fun _ => False) w).alloc (.cells #[.slice (some ⟨g, 0, none⟩) N cap, .int .i64 T.gen, vs] 39)).trans hx2
      have hbx := (hx2.blk (by simp) id).trans (blk_alloc_at w (.cells #[.slice (some ⟨g, 0, none⟩) N cap, .int .i64 T.gen, vs] 39))
      obtain ⟨b0, _⟩ := box_cells hbx
      have hcell := (hxw.cell (p := ⟨g, P * 3 + 1, none⟩) hgl id).trans Hat.out.1
      have p1 : (P : Int) < (N : Int) := by omega
      have Hxw := Lib.hid hxw
      clear hx2 hxw hbx Hat
      go_wp2
      go_ret2
      exact ⟨rfl, Hxw.out⟩
    · rw [if_neg (by omega), if_neg (by omega)]
      have h4 : ¬ xn < n := by omega
      have h5 : ¬ n < xn := by omega
      clear h3
      go_enter Try.func27, Try.ntmps27
      go_wp2_with fail
      refine (H1.out _).mono ?_
      rintro r w' ⟨rfl, hw⟩; obtain rfl := hw.symm
      go_wp2_with fail
      refine (H2.out _).mono ?_
      rintro r w' ⟨rfl, hw⟩; obtain rfl := hw.symm
      go_wp2_with fail
      refine (Hfind.out _ ((Ext.refl _ w).alloc _)).mono ?_
      rintro r w2 ⟨rfl, hx2⟩
      have hxw := ((Ext.refl (fun _ => False) w).alloc (.cells #[.slice (some ⟨g, 0, none⟩) N cap, .int .i64 T.gen, vs] 39)).trans hx2
      have hbx := (hx2.blk (by simp) id).trans (blk_alloc_at w (.cells #[.slice (some ⟨g, 0, none⟩) N cap, .int .i64 T.gen, vs] 39))
      obtain ⟨b0, _⟩ := box_cells hbx
      have hcell := (hxw.cell (p := ⟨g, P * 3 + 1, none⟩) hgl id).trans Hat.out.1
      have hcell2 := (hxw.cell (p := ⟨g, P * 3 + 2, none⟩) hgl id).trans Hat.out.2
      have p1 : (P : Int) < (N : Int) := by omega
      have Hxw := Lib.hid hxw
      clear hx2 hxw hbx Hat
      go_wp2
      go_ret2
      exact ⟨rfl, Hxw.out⟩
    · rw [if_neg (by omega), if_pos h3]
      have h4 : ¬ xn < n := by omega
      go_enter Try.func27, Try.ntmps27
      go_wp2_with fail
      refine (H1.out _).mono ?_
      rintro r w' ⟨rfl, hw⟩; obtain rfl := hw.symm
      go_wp2_with fail
      refine (H2.out _).mono ?_
      rintro r w' ⟨rfl, hw⟩; obtain rfl := hw.symm
      go_wp2_with fail
      refine (Hfind.out _ ((Ext.refl _ w).alloc _)).mono ?_
      rintro r w2 ⟨rfl, hx2⟩
      have hxw := ((Ext.refl (fun _ => False) w).alloc (.cells #[.slice (some ⟨g, 0, none⟩) N cap, .int .i64 T.gen, vs] 39)).trans hx2
      have hbx := (hx2.blk (by simp) id).trans (blk_alloc_at w (.cells #[.slice (some ⟨g, 0, none⟩) N cap, .int .i64 T.gen, vs] 39))
      obtain ⟨b0, _⟩ := box_cells hbx
      have hcell := (hxw.cell (p := ⟨g, P * 3 + 1, none⟩) hgl id).trans Hat.out.1
      have p1 : (P : Int) < (N : Int) := by omega
      have Hxw := Lib.hid hxw
      clear hx2 hxw hbx Hat
      go_wp2
      go_ret2
      exact ⟨rfl, Hxw.out⟩
/-- what a table keeps, its steps too -/
structure TOk (T : Tbl) : Prop where
  good : TGood T
  snod : (T.st.map Prod.fst).Nodup
  skey : ∀ p ∈ T.st, 1 ≤ p.1 ∧ p.1 ≤ 4611686018427387904 ∧ InR p.2
  gen : 0 ≤ T.gen ∧ T.gen ≤ 4611686018427387904
theorem sS_get {T : Tbl} (h : TOk T) (k : Int) : kget (sS T) k = iget T.st k := by rw [iget_k]; exact kget_ksort h.snod k
theorem IsRef.atS {w : World} {T : Tbl} {g cap n : Nat} (h : w.ownsRow 0 104 2 (.slice (some ⟨g, 0, none⟩) n cap) n ((sS T).flatMap cellsS)) {i : Nat} {p : Int × Int} (hp : (sS T)[i]? = some p) :
    w.cell? ⟨g, i * 2, none⟩ = some (.int .i64 p.1) ∧ w.cell? ⟨g, i * 2 + 1, none⟩ = some (.int .i64 p.2) :=
  ⟨row_at cellsS_len h i hp 0 (by omega) rfl, row_at cellsS_len h i hp 1 (by omega) rfl⟩
set_option maxRecDepth 100000 in
set_option maxHeartbeats 2000000 in
theorem radmin_out (w : World) (v0 v1 v2 : Value) (c n : Int) (h : inB c n = false) :
    Calls Try.prog 29 #[.agg #[v0, v1, v2], .int .i64 c, .int .i64 n] w (StayPost w (.tuple #[.int .i64 1, .bool true])) := by
  by_cases h1 : inI c = false
  · have H1 := Lib.hid (fun W => rin_yes h1 W)
    clear h h1
    go_enter Try.func29, Try.ntmps29
    go_wp2_with fail
    refine (H1.out _).mono ?_
    rintro r w' ⟨rfl, hw⟩; obtain rfl := hw.symm
    go_wp2
    go_ret2
    exact ⟨rfl, (Ext.refl _ w).alloc _⟩
  · have h1' : inI c = true := by simpa using h1
    have h2 : inI n = false := by unfold inB at h; rw [h1'] at h; simpa using h
    have H1 := Lib.hid (fun W => rin_yes h1' W)
    have H2 := Lib.hid (fun W => rin_yes h2 W)
    clear h h1 h2 h1'
    go_enter Try.func29, Try.ntmps29
    go_wp2_with fail
    refine (H1.out _).mono ?_
    rintro r w' ⟨rfl, hw⟩; obtain rfl := hw.symm
    go_wp2_with fail
    refine (H2.out _).mono ?_
    rintro r w' ⟨rfl, hw⟩; obtain rfl := hw.symm
    go_wp2
    go_ret2
    exact ⟨rfl, (Ext.refl _ w).alloc _⟩
set_option maxRecDepth 100000 in
set_option maxHeartbeats 2000000 in
theorem radmin_any (w : World) (v : Value) (T : Tbl) (hr : IsRef w v T) (hg : TOk T) (hl : T.st.length ≤ 1000000) (g s : Int) :
    Calls Try.prog 29 #[v, .int .i64 g, .int .i64 s] w (StayPost w (.tuple #[.int .i64 (adminM T g s).1, .bool (adminM T g s).2])) := by
  obtain ⟨vc, vs, rfl, hc, hs⟩ := hr
  obtain ⟨ao, cap, rfl⟩ := ownsRow_shape hs
  have hSl : (sS T).length = T.st.length := ksort_length _
  obtain ⟨N, hN⟩ : ∃ N, (sS T).length = N := ⟨_, rfl⟩
  rw [hN] at hs hSl ⊢
  have hNl : N ≤ 1000000 := by omega
  cases hin : inB g s with
  | false =>
    have hm : adminM T g s = (1, true) := by unfold adminM; rw [if_pos hin]
    rw [hm]
    exact radmin_out w _ _ _ g s hin
  | true =>
  have h1 : inI g = true := by unfold inB at hin; simp at hin; exact hin.1
  have h2 : inI s = true := by unfold inB at hin; simp at hin; exact hin.2
  have H1 := Lib.hid (fun W => rin_yes h1 W)
  have H2 := Lib.hid (fun W => rin_yes h2 W)
  obtain ⟨G, hG⟩ : ∃ G, T.gen = G := ⟨_, rfl⟩
  rw [hG]
  rcases Int.lt_trichotomy g G with h3 | h3 | h3
  · have hm : adminM T g s = (12, true) := by unfold adminM; rw [if_neg (by simp [hin]), hG, if_pos h3]
    rw [hm]
    clear hc hs hSl hN hm hin h1 h2 hG
    go_enter Try.func29, Try.ntmps29
    go_wp2_with fail
    refine (H1.out _).mono ?_
    rintro r w' ⟨rfl, hw⟩; obtain rfl := hw.symm
    go_wp2_with fail
    refine (H2.out _).mono ?_
    rintro r w' ⟨rfl, hw⟩; obtain rfl := hw.symm
    go_wp2
    go_ret2
    exact ⟨rfl, (Ext.refl _ w).alloc _⟩
  · subst h3
    have hm : adminM T g s = ((iget T.st s).getD 0, (iget T.st s).isSome) := by unfold adminM; rw [if_neg (by simp [hin]), hG, if_neg (by omega), if_neg (by omega)]
    rw [hm]
    obtain ⟨S, hS⟩ : ∃ S, sS T = S := ⟨_, rfl⟩
    have hget : ∀ k, kget S k = iget T.st k := fun k => by rw [← hS]; exact sS_get hg k
    have hnod : (S.map Prod.fst).Nodup := by rw [← hS]; exact ksort_nodup hg.snod
    have hat : ∀ q, ao = some ⟨q, 0, none⟩ → ∀ i p, S[i]? = some p → w.cell? ⟨q, i * 2, none⟩ = some (.int .i64 p.1) ∧ w.cell? ⟨q, i * 2 + 1, none⟩ = some (.int .i64 p.2) := fun q e i p hp => by
      subst e; rw [← hS] at hp; exact IsRef.atS hs hp
    rw [hS] at hN
    rw [← hget]
    have Hs := Lib.hid hs
    have HN := Lib.hid hN
    have Hnod := Lib.hid hnod
    have Hat := Lib.hid hat
    clear hc hs hSl hN hm hin h1 h2 hG hget hnod hat hS
    go_enter Try.func29, Try.ntmps29
    go_wp2_with fail
    refine (H1.out _).mono ?_
    rintro r w' ⟨rfl, hw⟩; obtain rfl := hw.symm
    go_wp2_with fail
    refine (H2.out _).mono ?_
    rintro r w' ⟨rfl, hw⟩; obtain rfl := hw.symm
    go_wp2_with fail
    obtain ⟨w1, hw1⟩ : ∃ w1, w1 = w.alloc (.cells #[vc, .int .i64 g, .slice ao N cap] 39) := ⟨_, rfl⟩
    have hb1 : blk w1 w.heap.size = some (.cells #[vc, .int .i64 g, .slice ao N cap] 39 (0, 0)) := by rw [hw1]; exact blk_alloc_at _ _
    have hx1 : Ext (fun _ => False) w w1 := by rw [hw1]; exact (Ext.refl _ w).alloc _
    rw [← hw1]
    obtain ⟨_, b1, b2⟩ := box_cells hb1
    have Hx1 := Lib.hid hx1
    clear hb1 hx1 hw1
    go_loopg [8] N (fun q v8 wr => wr = w1 ∧ ∃ j : Nat, j ≤ N ∧ q = N - j ∧ v8 = .int .i64 j ∧ ∀ i p, i < j → S[i]? = some p → p.1 ≠ s)
    case atStart => exact ⟨rfl, 0, Nat.zero_le _, rfl, rfl, fun i p h => by omega⟩
    case round =>
      obtain ⟨rfl, j, hj, rfl, rfl, hlow⟩ := hrel
      have Hlow := Lib.hid hlow
      clear hlow
      by_cases hjN : j < N
      · obtain ⟨q, rfl, hg2⟩ := row_form Hs.out (by omega)
        obtain ⟨p, hp⟩ : ∃ p, S[j]? = some p := ⟨_, List.getElem?_eq_getElem (by rw [HN.out]; exact hjN)⟩
        obtain ⟨d0, d1⟩ := Hat.out q rfl j p hp
        have hcell := (Hx1.out.cell (p := ⟨q, j * 2, none⟩) hg2 id).trans d0
        have hcell2 := (Hx1.out.cell (p := ⟨q, j * 2 + 1, none⟩) hg2 id).trans d1
        obtain ⟨k, a⟩ := p
        have Hp := Lib.hid hp
        simp only at hcell hcell2
        clear hp d0 d1
        by_cases hk : k = s
        · subst hk
          have hres : kget S k = some a := kget_of_mem Hnod.out (List.mem_of_getElem? Hp.out)
          have Hres := Lib.hid hres
          clear hres
          go_wp2
          go_ret2
          refine ⟨?_, Hx1.out⟩
          rw [Hres.out]; rfl
        · go_wp2_with fail
          go_roundg (N - (j + 1))
          case measure => omega
          case rel =>
            refine ⟨rfl, j + 1, by omega, rfl, by go_num, fun i p hi hp => ?_⟩
            by_cases e : i = j
            · subst e; rw [Hp.out] at hp; cases hp; exact hk
            · exact Hlow.out i p (by omega) hp
      · have hres : kget S s = none := by
          cases h : kget S s with
          | none => rfl
          | some v =>
            obtain ⟨i, hi⟩ := List.getElem?_of_mem (kget_mem h)
            have hlt := (List.getElem?_eq_some_iff.1 hi).1
            rw [HN.out] at hlt
            exact absurd rfl (Hlow.out i _ (by omega) hi)
        have Hres := Lib.hid hres
        clear hres
        go_wp2
        go_ret2
        refine ⟨?_, Hx1.out⟩
        rw [Hres.out]; rfl
  · have hm : adminM T g s = (0, false) := by unfold adminM; rw [if_neg (by simp [hin]), hG, if_neg (by omega), if_pos h3]
    rw [hm]
    have h4 : ¬ g < G := by omega
    have h5 : (g == G) = false := by simp; omega
    clear hc hs hSl hN hm hin h1 h2 hG
    by_cases hN0 : 0 < N
    all_goals
      go_enter Try.func29, Try.ntmps29
      go_wp2_with fail
      refine (H1.out _).mono ?_
      rintro r w' ⟨rfl, hw⟩; obtain rfl := hw.symm
      go_wp2_with fail
      refine (H2.out _).mono ?_
      rintro r w' ⟨rfl, hw⟩; obtain rfl := hw.symm
      go_wp2_with fail
      refine wp_loop_rounds 1 ?_
      rw [rounds_succ]
      go_wp2
      go_ret2
      exact ⟨rfl, (Ext.refl _ w).alloc _⟩
end Go.Proofs.Ythligdgkhmgagaa
