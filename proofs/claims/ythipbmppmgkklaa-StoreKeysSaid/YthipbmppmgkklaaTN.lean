/-
  StoreKeys: the walk. Conditions: the arguments' cells are as given.
-/
import Derived.Test.YthipbmppmgkklaaTM
import Derived.Laws.AppendOwnNone
namespace Go.Proofs.Ythipbmppmgkklaa
open Go.RowKit Go.MapKept
open Go.ChangeMaps (setBlock)

set_option maxRecDepth 100000 in
set_option maxHeartbeats 8000000 in
theorem storekeys_core (w : World) (ao : Option Addr) (n cap : Nat) (l : List OpV) (x : OpV)
    (hfew : ∀ W, Ext (fun _ => False) w W → Calls Try.prog 11 #[.slice ao n cap, .int .i64 30] W fun r w' => r = .returned (.bool (fewB l 30)) ∧ w' = W)
    (hrun : ∀ W, Ext (fun _ => False) w W → l.length ≤ 30 → Calls Try.prog 12 #[.slice ao n cap] W (RunPost W l)) (hv : ∀ z ∈ l, InR z.v)
    (hx : x.key.size ≤ 9223372036854775807) (hxv : InR x.v) :
    Calls Try.prog 5 #[.slice ao n cap, x.val] w (AwakePost w) := by
  obtain ⟨xk, xkey, xv, xo⟩ := x
  have Hfew := Lib.hid hfew
  have Hrun := Lib.hid hrun
  have Hv := Lib.hid hv
  simp only at hx
  clear hfew hrun hv
  unfold OpV.val
  go_enter Try.func5, Try.ntmps5
  go_wp2_with fail
  refine (awake_any _).mono ?_
  rintro r w1 ⟨rfl, hx1⟩
  go_wp2_with fail
  have hxw : Ext (fun _ => False) w w1 := ((Ext.refl (fun _ => False) w).alloc _).trans hx1
  refine (Hfew.out _ hxw).mono ?_
  rintro r w' ⟨rfl, hw⟩; obtain rfl := hw.symm
  cases hf : fewB l 30 with
  | false =>
    have Hxw := Lib.hid hxw
    clear hf hxw hx1
    go_wp2
    go_ret
    exact ⟨rfl, Hxw.out⟩
  | true =>
    have Hf := Lib.hid hf
    have hp0 := (hx1.blk (by simp) id).trans (blk_alloc_at w (.cells #[.int .i64 xk, .string xkey, .int .i64 xv, .int .i64 xo] 24))
    have a1 := cell_of_cells hp0 1
    simp at a1
    have hs1 : w.heap.size + 1 ≤ w1.heap.size := by simpa using hx1.size
    have Hxw := Lib.hid hxw
    have Hp0 := Lib.hid hp0
    clear hf hxw hx1 hp0
    by_cases hk60 : (60 : Int) < xkey.size
    · go_wp2
      go_ret
      exact ⟨rfl, Hxw.out⟩
    · go_wp2_with fail
      obtain ⟨hl30, hk60'⟩ := fewB_true' Hf.out
      refine (Hrun.out _ Hxw.out hl30).mono ?_
      rintro r w3 ⟨sb, mb, rfl, hs3, hx3, hsb, hmb⟩
      have hp4 := (hx3.blk (blk_lt Hp0.out) id).trans Hp0.out
      have hxw3 := Hxw.out.trans hx3
      have hz3 := hxw3.size
      have Hs3 := Lib.hid hs3
      have Hx3 := Lib.hid hxw3
      have Hp4 := Lib.hid hp4
      clear hs3 hx3 hp4 hxw3 a1 Hxw Hp0
      go_wp2_with fail
      refine (Hrun.out _ Hx3.out hl30).mono ?_
      rintro r w4 ⟨tb, nb, rfl, ht4, hx4, htb, hnb⟩
      have hs4 := Hs3.out.ext hx4 id id
      have hp6 := (hx4.blk (blk_lt Hp4.out) id).trans Hp4.out
      have hxw4 := Hx3.out.trans hx4
      have hlt3 := Hs3.out.lt
      have hlt4 := ht4.lt
      have hz4 := hx4.size
      obtain ⟨M, hM⟩ : ∃ M, runM [] l = M := ⟨_, rfl⟩
      have hMl : M.length ≤ 30 := by have := runM_length [] l; rw [hM] at this; simp at this; omega
      have hG : Good M := by rw [← hM]; exact Good.nil.runM Hv.out
      obtain ⟨⟨M', rx⟩, hA⟩ : ∃ p, doM M ⟨xk, xkey, xv, xo⟩ = p := ⟨_, rfl⟩
      have hM'l : M'.length ≤ 31 := by have := doM_length M ⟨xk, xkey, xv, xo⟩; rw [hA] at this; simp only at this; omega
      have hG' : Good M' := by have := hG.doM (x := ⟨xk, xkey, xv, xo⟩) hxv; rw [hA] at this; exact this
      have hoth : ∀ k, k ≠ xkey → assoc M' k = assoc M k := fun k hk => by have := keys_other (m := M) (by omega) ⟨xk, xkey, xv, xo⟩ (k := k) hk; rw [hA] at this; exact this
      have hge := doM_length_ge (m := M) (by omega) ⟨xk, xkey, xv, xo⟩
      rw [hA] at hge
      simp only at hge
      have hlast := keys_last (m := M) (by omega) ⟨xk, xkey, xv, xo⟩
      rw [hA] at hlast
      simp only at hlast
      have ht4' : IsStore w4 tb nb M := by rw [← hM]; exact ht4
      have hs4' : IsStore w4 sb mb M := by rw [← hM]; exact hs4
      have d1 : nb ≠ sb ∧ nb ≠ mb ∧ nb ≠ w.heap.size := ⟨by omega, by omega, by omega⟩
      have d2 : w.heap.size ≤ nb ∧ w.heap.size < w4.heap.size := ⟨by omega, by omega⟩
      have q0 := cell_of_cells hp6 0
      have q1 := cell_of_cells hp6 1
      have q2 := cell_of_cells hp6 2
      have q3 := cell_of_cells hp6 3
      simp at q0 q1 q2 q3
      have Hs4 := Lib.hid hs4'
      have Ht4 := Lib.hid ht4'
      have Hx4 := Lib.hid hxw4
      have Hp6 := Lib.hid hp6
      have HG := Lib.hid hG
      have HG' := Lib.hid hG'
      have HA := Lib.hid hA
      have Hoth := Lib.hid hoth
      have Hlast := Lib.hid hlast
      clear hs4 hs4' ht4 ht4' hx4 hxw4 hp6 hM hA hG hG' hoth hlast Hp4 Hx3 Hs3 hk60' hsb hmb htb hnb
      go_wp2_with fail
      refine (do_any w4 tb nb M Ht4.out (by omega) ⟨xk, xkey, xv, xo⟩ hx).mono ?_
      rw [HA.out]
      rintro r w5 ⟨rfl, ht5, hx5⟩
      have hs5 := Hs4.out.ext hx5 d1.1.symm d1.2.1.symm
      have hp7 := (hx5.blk (blk_lt Hp6.out) d1.2.2.symm).trans Hp6.out
      have hxw5 := Hx4.out.own hx5 d2.1
      have hz5 := hx5.size
      obtain ⟨rc, rf, rv⟩ := rx
      clear q0 q1 q2 q3 Hs4 Ht4 Hx4 Hp6 HA hx5
      simp only [Rs.val]
      go_upto_region 7 with fail
      have hb6 := Box.new w5 ⟨rc, rf, rv⟩
      have hxa : Ext (fun _ => False) w5 (w5.alloc (.cells #[.int .i64 rc, .bool rf, .int .i64 rv] 31)) := (Ext.refl (fun _ => False) w5).alloc _
      have hs6 := hs5.ext hxa id id
      have ht6 := ht5.ext hxa id id
      have hp8 := (hxa.blk (blk_lt hp7) id).trans hp7
      have hxw6 := hxw5.trans hxa
      have hz6 : w5.heap.size < (w5.alloc (.cells #[.int .i64 rc, .bool rf, .int .i64 rv] 31)).heap.size := by simp
      clear hs5 ht5 hp7 hxw5 hxa
      obtain ⟨B7, hB7⟩ : ∃ B, w5.heap.size = B := ⟨_, rfl⟩
      rw [hB7] at hb6 hz6 hz5 ⊢
      clear hB7
      generalize w5.alloc (.cells #[.int .i64 rc, .bool rf, .int .i64 rv] 31) = w6 at *
      have Hb6 := Lib.hid hb6
      have Hs6 := Lib.hid hs6
      have Ht6 := Lib.hid ht6
      have Hp8 := Lib.hid hp8
      have Hx6 := Lib.hid hxw6
      clear hb6 hs6 ht6 hp8 hxw6
      go_wp2_with fail
      refine (keys_any w6 sb mb M Hs6.out HG.out.keysM (by omega)).mono ?_
      rintro r w7 ⟨v1, rfl, hr1, hn1, hx7⟩
      have HR1 := Lib.hid hr1
      have HN1 := Lib.hid hn1
      have HX7 := Lib.hid hx7
      clear hr1 hn1 hx7
      go_wp2_with fail
      refine (keys_any w7 tb nb M' (Ht6.out.ext HX7.out id id) HG'.out.keysM (by omega)).mono ?_
      rintro r w8 ⟨v2, rfl, hr2, hn2, hx8⟩
      obtain ⟨i0, hi, hz0, hz1, hz2⟩ := info_parts Try.infoStr
      have hr1' : w8.ownsRow w6.heap.size 9 1 v1 M.length ((keysM M).map Go.Proofs.encStr) := ownsRow_ext HR1.out hx8 (fun _ _ h => h)
      have hs8 := (Hs6.out.ext HX7.out id id).ext hx8 id id
      have ht8 := (Ht6.out.ext HX7.out id id).ext hx8 id id
      have hb8 := (Hb6.out.ext HX7.out id).ext hx8 id
      have hp10 := (hx8.blk (blk_lt ((HX7.out.blk (blk_lt Hp8.out) id).trans Hp8.out)) id).trans ((HX7.out.blk (blk_lt Hp8.out) id).trans Hp8.out)
      have hxw8 := (Hx6.out.trans HX7.out).trans hx8
      have hz8 : w6.heap.size ≤ w8.heap.size := Nat.le_trans HX7.out.size hx8.size
      have hlt6 := Hs6.out.lt
      have hlt6' := Ht6.out.lt
      have hb7 := blk_lt Hb6.out
      have hp6lt := blk_lt Hp8.out
      have hw6 := Hx6.out.size
      have Hr1 := Lib.hid hr1'
      have Hs8 := Lib.hid hs8
      have Ht8 := Lib.hid ht8
      have Hb8 := Lib.hid hb8
      have Hp10 := Lib.hid hp10
      have Hxw8 := Lib.hid hxw8
      clear hr1' hs8 ht8 hb8 hp10 hxw8 HR1 HN1 HX7 Hs6 Ht6 Hb6 Hp8 Hx6 hx8
      obtain ⟨ao1, cap1, rfl⟩ := ownsRow_shape Hr1.out
      obtain ⟨ao2, cap2, rfl⟩ := ownsRow_shape hr2
      by_cases hm0 : ¬ M'.length = 0
      · obtain ⟨g2, rfl⟩ : ∃ g, ao2 = some ⟨g, 0, none⟩ := by
          rcases hr2.2 with ⟨_, h⟩ | ⟨g, c, cur, h, _⟩
          · exact absurd h hm0
          · cases h; exact ⟨g, rfl⟩
        have Hr2 := Lib.hid hr2
        clear hr2 hn2
        go_wp2_with (at_builtin; refine wpList_append_lies _ rfl _ _ 41 rfl w6.heap.size 9 i0 _ 1 16 Try.underlying41 hi hz0 hz1 hz2 rfl (by decide) _ _ _ rfl Hr1.out ⟨g2, 0, none⟩ M'.length cap2 _ rfl (by simp [keysM_length]) (World.ownsRow.cells Hr2.out (g := g2) rfl) (strs_oneCell _) (by omega) (by simp only [maxLen]; omega) (by omega) hz8 w8.heap.size rfl ?_; intro g3 cap3 w9 hown3 hgrow3 hat3 hlt3)
        have hx9 : Ext (fun b => w6.heap.size ≤ b) w8 w9 := (Ext.refl _ w8).grown hgrow3 (fun k hk _ => (World.ownsRow.lt Hr1.out k hk).1)
        have Hs9 := Lib.hid (Hs8.out.ext hx9 (by omega) (by omega))
        have Ht9 := Lib.hid (Ht8.out.ext hx9 (by omega) (by omega))
        have Hb9 := Lib.hid (Hb8.out.ext hx9 (by omega))
        have Hp9 := Lib.hid ((hx9.blk (blk_lt Hp10.out) (by omega)).trans Hp10.out)
        have Hxw9 := Lib.hid (Hxw8.out.trans' hx9 (fun k hk e => by omega))
        rw [← List.map_append] at hown3
        have HR9 := Lib.hid (ownsRow_mono hown3 (Nat.zero_le _))
        have HN9 : Hid (M.length + M'.length = (keysM M ++ keysM M').length) := Lib.hid (by simp [keysM_length])
        clear hown3 hgrow3 hat3 hlt3 hx9 Hs8 Ht8 Hb8 Hp10 Hxw8 Hr1 Hr2
        obtain ⟨ao3, hao3⟩ : ∃ a : Option Addr, some ⟨g3, 0, none⟩ = a := ⟨_, rfl⟩
        obtain ⟨N, hN⟩ : ∃ N, M.length + M'.length = N := ⟨_, rfl⟩
        rw [hao3, hN] at HR9 ⊢
        rw [hN] at HN9
        have HN60 : N ≤ 70 := by omega
        have hN1 : N ≤ M.length + M'.length := by omega
        have hN2 : M.length + M'.length ≤ N := by omega
        clear hao3 hN hm0
        obtain ⟨LL, hLL⟩ : ∃ L, keysM M ++ keysM M' = L := ⟨_, rfl⟩
        rw [hLL] at HN9 HR9
        have q0 := cell_of_cells Hp9.out 0
        have q1 := cell_of_cells Hp9.out 1
        have q2 := cell_of_cells Hp9.out 2
        simp at q0 q1 q2
        obtain ⟨r0, r1, r2⟩ := Hb9.out.reads
        simp only at r0 r1 r2
        clear hLL hi hz0 hz1 hz2
        go_loopg [40] N (fun g v40 wr => wr = w9 ∧ ∃ j : Nat, j ≤ N ∧ g = N - j ∧ v40 = .int .i64 j)
        case atStart => exact ⟨rfl, 0, Nat.zero_le _, rfl, rfl⟩
        case round =>
          obtain ⟨rfl, j, hj, rfl, rfl⟩ := hrel
          by_cases hjl : j < N
          · obtain ⟨g, hg⟩ : ∃ g, ao3 = some ⟨g, 0, none⟩ := by
              rcases HR9.out.2 with ⟨_, h⟩ | ⟨g, c, cur, h, _⟩
              · omega
              · cases h; exact ⟨g, rfl⟩
            subst hg
            have hkl : j < LL.length := by rw [← HN9.out]; exact hjl
            obtain ⟨key, hkey⟩ : ∃ k, LL[j] = k := ⟨_, rfl⟩
            have hcell : wr.cell? ⟨g, j, none⟩ = some (.string ⟨key.toArray⟩) := by
              have := World.ownsRow.cells HR9.out (g := g) rfl j (Go.Proofs.encStr key) (by rw [List.getElem?_map, List.getElem?_eq_getElem hkl, hkey]; rfl)
              rwa [Addr.add_lit, Nat.zero_add] at this
            clear hkl hkey
            generalize (⟨key.toArray⟩ : ByteArray) = kb at hcell
            go_wp2_with fail
            refine (getkey_any wr sb mb M Hs9.out kb).mono ?_
            rintro r wx ⟨rfl, hw⟩; obtain rfl := hw.symm
            go_wp2_with fail
            refine (getkey_any wr tb nb M' Ht9.out kb).mono ?_
            rintro r wx ⟨rfl, hw⟩; obtain rfl := hw.symm
            by_cases hke : kb = xkey
            · have hq := bytes_eq hke
              clear hke
              go_wp2
              go_roundg (N - (j + 1))
              case measure => omega
              case rel => exact ⟨rfl, j + 1, by omega, rfl, by go_num⟩
            · have hq := bytes_ne hke
              have ho := Hoth.out kb hke
              rw [ho]
              clear ho hke
              go_wp2
              go_roundg (N - (j + 1))
              case measure => omega
              case rel => exact ⟨rfl, j + 1, by omega, rfl, by go_num⟩
          · clear hj
            go_wp2_with fail
            refine (getkey_any wr tb nb M' Ht9.out xkey).mono ?_
            rintro r wx ⟨rfl, hw⟩; obtain rfl := hw.symm
            obtain ⟨hA, hB⟩ := Hlast.out
            generalize (assoc M' xkey).getD 0 = V at hA hB ⊢
            generalize (assoc M' xkey).isSome = OK at hA hB ⊢
            by_cases hP : xk = 0 ∨ ¬ rc = 0 ∨ rf = false
            · obtain ⟨hsv, hrv⟩ := hA hP
              have Hsv := Lib.hid hsv
              have hk1 : (xk = 0) ∨ (¬ xk = 0 ∧ ¬ rc = 0) ∨ (¬ xk = 0 ∧ rc = 0 ∧ rf = false) := by
                by_cases z1 : xk = 0
                · exact .inl z1
                · by_cases z2 : rc = 0
                  · rcases hP with h | h | h
                    · exact absurd h z1
                    · exact absurd z2 h
                    · exact .inr (.inr ⟨z1, z2, h⟩)
                  · exact .inr (.inl ⟨z1, z2⟩)
              have hk2 : (¬ rc = 0) ∨ (rc = 0 ∧ rv = V) := by
                by_cases z2 : rc = 0
                · exact .inr ⟨z2, hrv.elim (fun h => absurd z2 h) id⟩
                · exact .inl z2
              clear hA hB hP hsv hrv Hlast
              rcases hk1 with z1 | ⟨z1, z2⟩ | ⟨z1, z2, z3⟩
              all_goals
                try subst z1
                try subst z3
                try subst z2
                go_upto_region 17 with fail
                clear q0 q1 q2
                go_wp2_with fail
                refine (save_any wr tb nb M' Ht9.out HG'.out.keys1000 HG'.out.val (by omega)).mono ?_
                rintro r wy ⟨rfl, hxy⟩
                rw [Hsv.out]
                have hs10 := Hs9.out.ext hxy id id
                have hb10 := Hb9.out.ext hxy id
                have hx10 := Hxw9.out.trans hxy
                have Hs10 := Lib.hid hs10
                have Hb10 := Lib.hid hb10
                have Hx10 := Lib.hid hx10
                clear hs10 hb10 hx10 hxy r0 r1 r2
                go_wp2_with fail
                refine (save_any wy sb mb M Hs10.out HG.out.keys1000 HG.out.val (by omega)).mono ?_
                rintro r wz ⟨rfl, hxz⟩
                obtain ⟨r0, r1, r2⟩ := (Hb10.out.ext hxz id).reads
                simp only at r0 r1 r2
                have Hx11 := Lib.hid (Hx10.out.trans hxz)
                generalize (⟨(saveM M).toArray⟩ : ByteArray) = SV
                clear hxz Hb10 Hs10 Hx10
                rcases hk2 with y1 | ⟨y1, y2⟩
                · first
                    | exact absurd rfl y1
                    | (go_wp2
                       all_goals go_ret
                       all_goals exact ⟨rfl, Hx11.out⟩)
                · first
                    | exact absurd y1 z2
                    | (subst y2
                       try subst y1
                       go_wp2
                       go_ret
                       exact ⟨rfl, Hx11.out⟩)
            · obtain ⟨hok, hvv, hxx⟩ := hB hP
              have z1 : ¬ xk = 0 := fun h => hP (.inl h)
              have z2 : rc = 0 := Decidable.byContradiction fun h => hP (.inr (.inl h))
              have z3 : rf = true := by cases rf; exact absurd rfl (fun h => hP (.inr (.inr h))); rfl
              clear hA hB hP Hlast
              subst hok hvv z2 z3
              by_cases z4 : xk = 3
              · clear hxx
                go_wp2
                go_ret
                exact ⟨rfl, Hxw9.out⟩
              · have hxx' : V = xv := hxx.elim (fun h => absurd h z4) id
                clear hxx
                subst hxx'
                go_wp2
                go_ret
                exact ⟨rfl, Hxw9.out⟩
      · have e1 : M' = [] := List.eq_nil_of_length_eq_zero (by omega)
        have e2 : M = [] := List.eq_nil_of_length_eq_zero (by omega)
        have e3 := hn2.2 e1
        rw [e3]
        have HN9 : Hid (M.length = (keysM M ++ keysM M').length) := Lib.hid (by rw [e1, e2]; simp [keysM])
        have HR9 : Hid (w8.ownsRow 0 9 1 (.slice ao1 M.length cap1) M.length ((keysM M ++ keysM M').map Go.Proofs.encStr)) := Lib.hid (by
          have := ownsRow_mono Hr1.out (Nat.zero_le w6.heap.size)
          rw [show keysM M ++ keysM M' = keysM M by rw [e1, e2]; simp [keysM]]
          exact this)
        clear e1 e2 e3 hn2 hr2
        go_wp2_with (at_builtin; refine wpList_append_own_none rfl _ _ 41 rfl w6.heap.size 9 i0 1 Try.underlying41 hi _ _ _ rfl Hr1.out rfl ?_)
        have Hs9 := Hs8
        have Ht9 := Ht8
        have Hb9 := Hb8
        have Hp9 := Hp10
        have Hxw9 := Hxw8
        clear Hs8 Ht8 Hb8 Hp10 Hxw8 Hr1
        generalize w8 = w9 at *
        generalize ao1 = ao3 at *
        generalize cap1 = cap3 at *
        obtain ⟨N, hN⟩ : ∃ N, M.length = N := ⟨_, rfl⟩
        rw [hN] at HR9 HN9 ⊢
        have HN60 : N ≤ 70 := by omega
        have hN1 : N ≤ M.length := by omega
        have hN2 : M.length ≤ N := by omega
        clear hN hm0
        obtain ⟨LL, hLL⟩ : ∃ L, keysM M ++ keysM M' = L := ⟨_, rfl⟩
        rw [hLL] at HN9 HR9
        have q0 := cell_of_cells Hp9.out 0
        have q1 := cell_of_cells Hp9.out 1
        have q2 := cell_of_cells Hp9.out 2
        simp at q0 q1 q2
        obtain ⟨r0, r1, r2⟩ := Hb9.out.reads
        simp only at r0 r1 r2
        clear hLL hi hz0 hz1 hz2
        go_loopg [40] N (fun g v40 wr => wr = w9 ∧ ∃ j : Nat, j ≤ N ∧ g = N - j ∧ v40 = .int .i64 j)
        case atStart => exact ⟨rfl, 0, Nat.zero_le _, rfl, rfl⟩
        case round =>
          obtain ⟨rfl, j, hj, rfl, rfl⟩ := hrel
          by_cases hjl : j < N
          · obtain ⟨g, hg⟩ : ∃ g, ao3 = some ⟨g, 0, none⟩ := by
              rcases HR9.out.2 with ⟨_, h⟩ | ⟨g, c, cur, h, _⟩
              · omega
              · cases h; exact ⟨g, rfl⟩
            subst hg
            have hkl : j < LL.length := by rw [← HN9.out]; exact hjl
            obtain ⟨key, hkey⟩ : ∃ k, LL[j] = k := ⟨_, rfl⟩
            have hcell : wr.cell? ⟨g, j, none⟩ = some (.string ⟨key.toArray⟩) := by
              have := World.ownsRow.cells HR9.out (g := g) rfl j (Go.Proofs.encStr key) (by rw [List.getElem?_map, List.getElem?_eq_getElem hkl, hkey]; rfl)
              rwa [Addr.add_lit, Nat.zero_add] at this
            clear hkl hkey
            generalize (⟨key.toArray⟩ : ByteArray) = kb at hcell
            go_wp2_with fail
            refine (getkey_any wr sb mb M Hs9.out kb).mono ?_
            rintro r wx ⟨rfl, hw⟩; obtain rfl := hw.symm
            go_wp2_with fail
            refine (getkey_any wr tb nb M' Ht9.out kb).mono ?_
            rintro r wx ⟨rfl, hw⟩; obtain rfl := hw.symm
            by_cases hke : kb = xkey
            · have hq := bytes_eq hke
              clear hke
              go_wp2
              go_roundg (N - (j + 1))
              case measure => omega
              case rel => exact ⟨rfl, j + 1, by omega, rfl, by go_num⟩
            · have hq := bytes_ne hke
              have ho := Hoth.out kb hke
              rw [ho]
              clear ho hke
              go_wp2
              go_roundg (N - (j + 1))
              case measure => omega
              case rel => exact ⟨rfl, j + 1, by omega, rfl, by go_num⟩
          · clear hj
            go_wp2_with fail
            refine (getkey_any wr tb nb M' Ht9.out xkey).mono ?_
            rintro r wx ⟨rfl, hw⟩; obtain rfl := hw.symm
            obtain ⟨hA, hB⟩ := Hlast.out
            generalize (assoc M' xkey).getD 0 = V at hA hB ⊢
            generalize (assoc M' xkey).isSome = OK at hA hB ⊢
            by_cases hP : xk = 0 ∨ ¬ rc = 0 ∨ rf = false
            · obtain ⟨hsv, hrv⟩ := hA hP
              have Hsv := Lib.hid hsv
              have hk1 : (xk = 0) ∨ (¬ xk = 0 ∧ ¬ rc = 0) ∨ (¬ xk = 0 ∧ rc = 0 ∧ rf = false) := by
                by_cases z1 : xk = 0
                · exact .inl z1
                · by_cases z2 : rc = 0
                  · rcases hP with h | h | h
                    · exact absurd h z1
                    · exact absurd z2 h
                    · exact .inr (.inr ⟨z1, z2, h⟩)
                  · exact .inr (.inl ⟨z1, z2⟩)
              have hk2 : (¬ rc = 0) ∨ (rc = 0 ∧ rv = V) := by
                by_cases z2 : rc = 0
                · exact .inr ⟨z2, hrv.elim (fun h => absurd z2 h) id⟩
                · exact .inl z2
              clear hA hB hP hsv hrv Hlast
              rcases hk1 with z1 | ⟨z1, z2⟩ | ⟨z1, z2, z3⟩
              all_goals
                try subst z1
                try subst z3
                try subst z2
                go_upto_region 17 with fail
                clear q0 q1 q2
                go_wp2_with fail
                refine (save_any wr tb nb M' Ht9.out HG'.out.keys1000 HG'.out.val (by omega)).mono ?_
                rintro r wy ⟨rfl, hxy⟩
                rw [Hsv.out]
                have hs10 := Hs9.out.ext hxy id id
                have hb10 := Hb9.out.ext hxy id
                have hx10 := Hxw9.out.trans hxy
                have Hs10 := Lib.hid hs10
                have Hb10 := Lib.hid hb10
                have Hx10 := Lib.hid hx10
                clear hs10 hb10 hx10 hxy r0 r1 r2
                go_wp2_with fail
                refine (save_any wy sb mb M Hs10.out HG.out.keys1000 HG.out.val (by omega)).mono ?_
                rintro r wz ⟨rfl, hxz⟩
                obtain ⟨r0, r1, r2⟩ := (Hb10.out.ext hxz id).reads
                simp only at r0 r1 r2
                have Hx11 := Lib.hid (Hx10.out.trans hxz)
                generalize (⟨(saveM M).toArray⟩ : ByteArray) = SV
                clear hxz Hb10 Hs10 Hx10
                rcases hk2 with y1 | ⟨y1, y2⟩
                · first
                    | exact absurd rfl y1
                    | (go_wp2
                       all_goals go_ret
                       all_goals exact ⟨rfl, Hx11.out⟩)
                · first
                    | exact absurd y1 z2
                    | (subst y2
                       try subst y1
                       go_wp2
                       go_ret
                       exact ⟨rfl, Hx11.out⟩)
            · obtain ⟨hok, hvv, hxx⟩ := hB hP
              have z1 : ¬ xk = 0 := fun h => hP (.inl h)
              have z2 : rc = 0 := Decidable.byContradiction fun h => hP (.inr (.inl h))
              have z3 : rf = true := by cases rf; exact absurd rfl (fun h => hP (.inr (.inr h))); rfl
              clear hA hB hP Hlast
              subst hok hvv z2 z3
              by_cases z4 : xk = 3
              · clear hxx
                go_wp2
                go_ret
                exact ⟨rfl, Hxw9.out⟩
              · have hxx' : V = xv := hxx.elim (fun h => absurd h z4) id
                clear hxx
                subst hxx'
                go_wp2
                go_ret
                exact ⟨rfl, Hxw9.out⟩
end Go.Proofs.Ythipbmppmgkklaa
