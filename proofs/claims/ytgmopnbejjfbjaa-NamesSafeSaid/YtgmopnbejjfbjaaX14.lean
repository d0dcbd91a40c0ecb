/-
  NamesResolves returns true and turns nothing that was there. Conditions: the arguments' cells are as given.
-/
import Derived.Test.YtgmopnbejjfbjaaX13
namespace Go.Proofs.Ytgmopnbejjfbjaa
open Go.RowKit Go.MapKept
open Go.ChangeMaps (setBlock)

theorem IsRows.shape {w : World} {base : Nat} {v : Value} {l : List KV} (h : IsRows w base v l) (hne : 1 ≤ l.length) : ∃ g cap, v = .slice (some ⟨g, 0, none⟩) l.length cap := by
  rcases h.2 with ⟨h5, h6⟩ | ⟨g', cap', cur, h5, _⟩
  · omega
  · exact ⟨g', cap', h5⟩
theorem IsRows.ext {w w' : World} {base : Nat} {v : Value} {l : List KV} {S : Nat → Prop} (h : IsRows w base v l) (hx : Ext S w w') (hn : ∀ g, v.ownBlock = some g → ¬ S g) : IsRows w' base v l := ownsRow_ext h hx hn
/-- what the loop keeps: the two hold the same -/
structure Both (w0 w : World) (srb smb g cap : Nat) (l : List KV) : Prop where
  rows : IsRows w 0 (.slice (some ⟨g, 0, none⟩) l.length cap) l
  res : IsRes w srb smb (kvs (tag l))
  ext : Ext (fun _ => False) w0 w
  new : w0.heap.size ≤ srb ∧ w0.heap.size ≤ smb
  dist : Distinct l
theorem Both.ext' {w0 w w' : World} {srb smb g cap : Nat} {l : List KV} (h : Both w0 w srb smb g cap l) (hx : Ext (fun _ => False) w w') : Both w0 w' srb smb g cap l :=
  ⟨h.rows.ext hx (fun _ _ h => h), h.res.ext hx id id, h.ext.trans hx, h.new, h.dist⟩
set_option maxRecDepth 100000 in
set_option maxHeartbeats 4000000 in
theorem law_any (ks : List KV) (b off cap : Nat) (w : World) (hc : ∀ i (h : i < ks.length) j u, (ks[i]).cs[j]? = some u → w.cell? ⟨b, off + (i * 5 + j), none⟩ = some u) (hb : 0 < ks.length → b < w.heap.size) (hl : ks.length ≤ 20)
    (n : ByteArray) (now : Int) (h1 : now ≤ 1152921504606846976) (h2 : -1152921504606846976 ≤ now) :
    Calls Try.prog 3 #[.slice (some ⟨b, off, none⟩) ks.length cap, .string n, .int .i64 now] w (AwakePost w) := by
  go_enter Try.func3, Try.ntmps3
  go_wp2_with (go_at_call 9; refine (awake_any _).mono ?_; rintro r wA ⟨rfl, hxA⟩)
  refine (newres_any _).mono ?_
  rintro r wB ⟨srb, smb, rfl, hS0, hxB, hb3, hb4⟩
  go_wp2_with fail
  have hS0' := (hS0.ext (S := fun _ => False) ((Ext.refl _ _).alloc (.cells #[] 92)) id id)
  have hrow0 : IsRows (wB.alloc (.cells #[] 92)) 0 (.slice (some ⟨wB.heap.size, 0, none⟩) 0 0) [] := World.ownsRow_made (base := 0) (w := wB) (e := 92) (size := 5) #[] 0 (Nat.zero_le _) (by simp [maxLen]) rfl
  have hsA := hxA.size
  have hBoth0 : Both w (wB.alloc (.cells #[] 92)) srb smb wB.heap.size 0 (kept (ks.take 0)) := ⟨hrow0, hS0', (hxA.trans hxB).alloc _, ⟨by omega, by omega⟩, by simp [kept, Distinct]⟩
  have HB0 := Lib.hid hBoth0
  clear hS0' hrow0 hBoth0 hS0 hxA hxB hb3 hb4 hsA
  have Hc := Lib.hid hc
  have Hb := Lib.hid hb
  clear hc hb
  go_loopw [8, 34] (fun v i wr => ∃ q : Nat, q ≤ ks.length ∧ i = .int .i64 q ∧ ∃ g c, v = .slice (some ⟨g, 0, none⟩) (kept (ks.take q)).length c ∧ Both w wr srb smb g c (kept (ks.take q))) (fun _ i _ => ks.length - (intOf i).toNat)
  case atStart => exact ⟨0, Nat.zero_le _, rfl, _, _, rfl, HB0.out⟩
  case round =>
    obtain ⟨q, hq, rfl, g, c, rfl, hB⟩ := hrel
    by_cases hlt : q < ks.length
    · have hkl := kept_length (ks.take q)
      have hkl2 : (ks.take q).length ≤ 20 := by simp; omega
      have hlk : (kept (ks.take q)).length ≤ 20 := by omega
      have hbw : b < wr.heap.size := Nat.lt_of_lt_of_le (Hb.out (by omega)) hB.ext.size
      have hcs : ∀ j u, (ks[q]).cs[j]? = some u → wr.cell? ⟨b, off + (q * 5 + j), none⟩ = some u := fun j u h =>
        (hB.ext.cell (p := ⟨b, off + (q * 5 + j), none⟩) (Hb.out (by omega)) id).trans (Hc.out q hlt j u h)
      have htk : ks.take (q + 1) = ks.take q ++ [ks[q]] := List.take_succ_eq_append_getElem hlt
      obtain ⟨⟨⟨yn, ye, ya, yt⟩, yk⟩, hy⟩ : ∃ y, ks[q] = y := ⟨_, rfl⟩
      rw [hy] at hcs htk
      have hks : kept (ks.take (q + 1)) = keepR (kept (ks.take q)) ⟨⟨yn, ye, ya, yt⟩, yk⟩ := by rw [htk, kept_snoc]
      have c0 := hcs 0 _ rfl
      have c1 := hcs 1 _ rfl
      have c2 := hcs 2 _ rfl
      have c3 := hcs 3 _ rfl
      have c4 := hcs 4 _ rfl
      simp only [Nat.add_zero, ← Nat.add_assoc] at c0 c1 c2 c3 c4
      have Hks := Lib.hid hks
      have HB := Lib.hid hB
      clear hcs htk hks hy hB hkl hkl2
      generalize hlst : kept (ks.take q) = lst at *
      have Hlst := Lib.hid hlst
      clear hlst
      by_cases t1 : (60 : Int) < yn.size
      · go_wp2
        go_ret
        exact ⟨rfl, HB.out.ext.trans (by repeat (first | exact Ext.refl _ _ | apply Ext.drew | apply Ext.alloc))⟩
      · by_cases t2 : 1152921504606846976 < yk
        · go_wp2
          go_ret
          exact ⟨rfl, HB.out.ext.trans (by repeat (first | exact Ext.refl _ _ | apply Ext.drew | apply Ext.alloc))⟩
        · by_cases t3 : yk < -1152921504606846976
          · go_wp2
            go_ret
            exact ⟨rfl, HB.out.ext.trans (by repeat (first | exact Ext.refl _ _ | apply Ext.drew | apply Ext.alloc))⟩
          · go_wp2_with fail
            have hB1 := HB.out.ext' (show Ext (fun _ => False) wr (wr.alloc (.cells #[.string yn, .int .i64 ye, .int .i64 ya, .int .i64 yt, .int .i64 yk] 30)) from (Ext.refl _ _).alloc _)
            have hrl := HB.out.res.lt
            refine (keep_any srb smb _ _ hB1.res ⟨⟨yn, ye, ya, yt⟩, yk⟩).mono ?_
            rintro r wC ⟨rfl, hS1, hxC⟩
            rw [keep_same _ hB1.dist] at hS1
            have hsC := hxC.size
            simp only [World.size_alloc] at hsC
            have hnb : wr.heap.size ≠ smb := by omega
            have d0 : wC.cell? ⟨wr.heap.size, 0, none⟩ = some (.string yn) := (hxC.cell (p := ⟨wr.heap.size, 0, none⟩) (by simp) hnb).trans (by simp)
            have d1 : wC.cell? ⟨wr.heap.size, 1, none⟩ = some (.int .i64 ye) := (hxC.cell (p := ⟨wr.heap.size, 1, none⟩) (by simp) hnb).trans (by simp)
            have d2 : wC.cell? ⟨wr.heap.size, 2, none⟩ = some (.int .i64 ya) := (hxC.cell (p := ⟨wr.heap.size, 2, none⟩) (by simp) hnb).trans (by simp)
            have d3 : wC.cell? ⟨wr.heap.size, 3, none⟩ = some (.int .i64 yt) := (hxC.cell (p := ⟨wr.heap.size, 3, none⟩) (by simp) hnb).trans (by simp)
            have d4 : wC.cell? ⟨wr.heap.size, 4, none⟩ = some (.int .i64 yk) := (hxC.cell (p := ⟨wr.heap.size, 4, none⟩) (by simp) hnb).trans (by simp)
            have hR1 : IsRows wC 0 (.slice (some ⟨g, 0, none⟩) lst.length c) lst := hB1.rows.ext hxC (fun g' hg' e => by
              subst e
              obtain ⟨cur, hcur⟩ := ownsRow_blk hB1.rows hg'
              obtain ⟨_, es, clk, hm, _⟩ := hB1.res
              rw [hcur] at hm; simp at hm)
            have HB1 := Lib.hid hB1
            have HS1 := Lib.hid hS1
            have HxC := Lib.hid hxC
            have HR1 := Lib.hid hR1
            clear hB1 hS1 hxC hR1 c0 c1 c2 c3 c4
            go_wp2_with fail
            refine (rkeep_any g c wC lst HR1.out (by omega) yn ye ya yt yk).mono ?_
            rintro r wD ⟨v1, rfl, hR2, hxD⟩
            have hl2 := keepR_length lst ⟨⟨yn, ye, ya, yt⟩, yk⟩
            obtain ⟨g1, cap1, rfl⟩ := hR2.shape hl2.2
            have hB2 : Both w wD srb smb g1 cap1 (keepR lst ⟨⟨yn, ye, ya, yt⟩, yk⟩) :=
              ⟨ownsRow_mono hR2 (Nat.zero_le _), HS1.out.ext hxD id id, (HB1.out.ext.trans' HxC.out (fun k hk e => absurd HB1.out.new.2 (by omega))).trans hxD, HB1.out.new, keepR_distinct _ HB1.out.dist⟩
            have k0 : wD.cell? ⟨wr.heap.size, 0, none⟩ = some (.string yn) := (hxD.cell (p := ⟨wr.heap.size, 0, none⟩) hsC id).trans d0
            have k4 : wD.cell? ⟨wr.heap.size, 4, none⟩ = some (.int .i64 yk) := (hxD.cell (p := ⟨wr.heap.size, 4, none⟩) hsC id).trans d4
            have hsD := hxD.size
            have HB2 := Lib.hid hB2
            clear hB2 hR2 hxD d0 d1 d2 d3 d4
            generalize hlst2 : keepR lst ⟨⟨yn, ye, ya, yt⟩, yk⟩ = lst2 at *
            have Hlst2 := Lib.hid hlst2
            clear hlst2
            go_wp2_with fail
            refine (resolve_any srb smb wD _ HB2.out.res n now).mono ?_
            rintro r wE ⟨hr, hxE⟩
            rw [resolve_same HB2.out.dist] at hr
            generalize hres : resolveR lst2 n now = res at *
            obtain ⟨⟨rn, re, ra, rt⟩, rb⟩ := res
            obtain rfl : r = .returned (.tuple #[.agg #[.string rn, .int .i64 re, .int .i64 ra, .int .i64 rt], .bool rb]) := hr
            have hB3 := HB2.out.ext' hxE
            have k0' : wE.cell? ⟨wr.heap.size, 0, none⟩ = some (.string yn) := (hxE.cell (p := ⟨wr.heap.size, 0, none⟩) (show wr.heap.size < wD.heap.size by omega) id).trans k0
            have k4' : wE.cell? ⟨wr.heap.size, 4, none⟩ = some (.int .i64 yk) := (hxE.cell (p := ⟨wr.heap.size, 4, none⟩) (show wr.heap.size < wD.heap.size by omega) id).trans k4
            have hsE := hxE.size
            have HB3 := Lib.hid hB3
            have Hres := Lib.hid hres
            clear hB3 hxE hres k0 k4
            go_wp2_with fail
            have hB4 := HB3.out.ext' (show Ext (fun _ => False) wE (wE.alloc (.cells #[.string rn, .int .i64 re, .int .i64 ra, .int .i64 rt] 28)) from (Ext.refl _ _).alloc _)
            refine (rresolve_any g1 cap1 _ lst2 hB4.rows (by omega) n now).mono ?_
            rintro r wF ⟨hr, hxF⟩
            rw [Hres.out] at hr
            obtain rfl : r = .returned (.tuple #[.agg #[.string rn, .int .i64 re, .int .i64 ra, .int .i64 rt], .bool rb]) := hr
            have e0 : wF.cell? ⟨wE.heap.size, 0, none⟩ = some (.string rn) := (hxF.cell (p := ⟨wE.heap.size, 0, none⟩) (by simp) id).trans (by simp)
            have e1 : wF.cell? ⟨wE.heap.size, 1, none⟩ = some (.int .i64 re) := (hxF.cell (p := ⟨wE.heap.size, 1, none⟩) (by simp) id).trans (by simp)
            have e2 : wF.cell? ⟨wE.heap.size, 2, none⟩ = some (.int .i64 ra) := (hxF.cell (p := ⟨wE.heap.size, 2, none⟩) (by simp) id).trans (by simp)
            have e3 : wF.cell? ⟨wE.heap.size, 3, none⟩ = some (.int .i64 rt) := (hxF.cell (p := ⟨wE.heap.size, 3, none⟩) (by simp) id).trans (by simp)
            have hsF := hxF.size
            simp only [World.size_alloc] at hsF
            have hsF1 : wE.heap.size < wF.heap.size := hsF
            have k0'' : wF.cell? ⟨wr.heap.size, 0, none⟩ = some (.string yn) := (hxF.cell (p := ⟨wr.heap.size, 0, none⟩) (show wr.heap.size < (wE.alloc _).heap.size by simp; omega) id).trans (by simp [World.cell?_alloc_past, show wr.heap.size < wE.heap.size by omega, k0'])
            have k4'' : wF.cell? ⟨wr.heap.size, 4, none⟩ = some (.int .i64 yk) := (hxF.cell (p := ⟨wr.heap.size, 4, none⟩) (show wr.heap.size < (wE.alloc _).heap.size by simp; omega) id).trans (by simp [World.cell?_alloc_past, show wr.heap.size < wE.heap.size by omega, k4'])
            have hB5 := hB4.ext' hxF
            have HB5 := Lib.hid hB5
            have hw1 : wr.heap.size < wF.heap.size := by omega
            clear hB4 hB5 hxF k0' k4'
            go_wp2_with fail
            have hB6 := HB5.out.ext' (show Ext (fun _ => False) wF (wF.alloc (.cells #[.string rn, .int .i64 re, .int .i64 ra, .int .i64 rt] 28)) from (Ext.refl _ _).alloc _)
            refine (resolve_any srb smb _ _ hB6.res yn yk).mono ?_
            rintro r wG ⟨hr, hxG⟩
            rw [resolve_same hB6.dist] at hr
            generalize hres2 : resolveR lst2 yn yk = res2 at *
            obtain ⟨⟨sn, se, sa, st⟩, sb⟩ := res2
            obtain rfl : r = .returned (.tuple #[.agg #[.string sn, .int .i64 se, .int .i64 sa, .int .i64 st], .bool sb]) := hr
            have m0 : wG.cell? ⟨wr.heap.size, 0, none⟩ = some (.string yn) := (hxG.cell (p := ⟨wr.heap.size, 0, none⟩) (show wr.heap.size < (wF.alloc _).heap.size by simp; omega) id).trans (by simp [World.cell?_alloc_past, hw1, k0''])
            have m4 : wG.cell? ⟨wr.heap.size, 4, none⟩ = some (.int .i64 yk) := (hxG.cell (p := ⟨wr.heap.size, 4, none⟩) (show wr.heap.size < (wF.alloc _).heap.size by simp; omega) id).trans (by simp [World.cell?_alloc_past, hw1, k4''])
            have hB7 := hB6.ext' hxG
            have hsG := hxG.size
            simp only [World.size_alloc] at hsG
            have hw2 : wr.heap.size < wG.heap.size := by omega
            have HB7 := Lib.hid hB7
            have Hres2 := Lib.hid hres2
            clear hB6 hB7 hxG hres2 k0'' k4'' e0 e1 e2 e3
            go_wp2_with fail
            have hB8 := HB7.out.ext' (show Ext (fun _ => False) wG (wG.alloc (.cells #[.string sn, .int .i64 se, .int .i64 sa, .int .i64 st] 28)) from (Ext.refl _ _).alloc _)
            refine (rresolve_any g1 cap1 _ lst2 hB8.rows (by omega) yn yk).mono ?_
            rintro r wH ⟨hr, hxH⟩
            rw [Hres2.out] at hr
            obtain rfl : r = .returned (.tuple #[.agg #[.string sn, .int .i64 se, .int .i64 sa, .int .i64 st], .bool sb]) := hr
            have e0 : wH.cell? ⟨wG.heap.size, 0, none⟩ = some (.string sn) := (hxH.cell (p := ⟨wG.heap.size, 0, none⟩) (by simp) id).trans (by simp)
            have e1 : wH.cell? ⟨wG.heap.size, 1, none⟩ = some (.int .i64 se) := (hxH.cell (p := ⟨wG.heap.size, 1, none⟩) (by simp) id).trans (by simp)
            have e2 : wH.cell? ⟨wG.heap.size, 2, none⟩ = some (.int .i64 sa) := (hxH.cell (p := ⟨wG.heap.size, 2, none⟩) (by simp) id).trans (by simp)
            have e3 : wH.cell? ⟨wG.heap.size, 3, none⟩ = some (.int .i64 st) := (hxH.cell (p := ⟨wG.heap.size, 3, none⟩) (by simp) id).trans (by simp)
            have hsH := hxH.size
            simp only [World.size_alloc] at hsH
            have hsH1 : wG.heap.size < wH.heap.size := hsH
            have hB9 := hB8.ext' hxH
            have HB9 := Lib.hid hB9
            clear hB8 hB9 hxH m0 m4
            go_wp2
            go_roundw
            case rel =>
              refine ⟨q + 1, by omega, by go_num, g1, cap1, ?_, ?_⟩
              · rw [Hks.out]
              · rw [Hks.out]
                exact HB9.out.ext' (by repeat (first | exact Ext.refl _ _ | apply Ext.drew | apply Ext.alloc))
            case measure => simp [intOf]; omega
    · have Hx := Lib.hid hB.ext
      clear hB
      go_wp2
      go_ret
      exact ⟨rfl, Hx.out⟩

set_option maxRecDepth 100000 in
set_option maxHeartbeats 1000000 in
/-- too many, or readings too large: nothing is examined -/
theorem law_out (ao : Option Addr) (len cap : Nat) (w : World) (n : ByteArray) (now : Int) (hlen : len ≤ 9223372036854775807) (h : 20 < len ∨ 1152921504606846976 < now ∨ now < -1152921504606846976) :
    Calls Try.prog 3 #[.slice ao len cap, .string n, .int .i64 now] w (AwakePost w) := by
  by_cases h1 : (20 : Int) < len
  · clear h
    go_enter Try.func3, Try.ntmps3
    go_wp2_with (go_at_call 9; refine (awake_any _).mono ?_; rintro r wA ⟨rfl, hxA⟩)
    go_ret
    exact ⟨rfl, hxA⟩
  · by_cases h2 : 1152921504606846976 < now
    · clear h
      go_enter Try.func3, Try.ntmps3
      go_wp2_with (go_at_call 9; refine (awake_any _).mono ?_; rintro r wA ⟨rfl, hxA⟩)
      go_ret
      exact ⟨rfl, hxA⟩
    · have h3 : now < -1152921504606846976 := by omega
      clear h
      go_enter Try.func3, Try.ntmps3
      go_wp2_with (go_at_call 9; refine (awake_any _).mono ?_; rintro r wA ⟨rfl, hxA⟩)
      go_ret
      exact ⟨rfl, hxA⟩
set_option maxRecDepth 100000 in
set_option maxHeartbeats 1000000 in
/-- no entry at all -/
theorem law_none (ao : Option Addr) (cap : Nat) (w : World) (n : ByteArray) (now : Int) (h1 : now ≤ 1152921504606846976) (h2 : -1152921504606846976 ≤ now) :
    Calls Try.prog 3 #[.slice ao 0 cap, .string n, .int .i64 now] w (AwakePost w) := by
  go_enter Try.func3, Try.ntmps3
  go_wp2_with (go_at_call 9; refine (awake_any _).mono ?_; rintro r wA ⟨rfl, hxA⟩)
  refine (newres_any _).mono ?_
  rintro r wB ⟨srb, smb, rfl, hS0, hxB, hb3, hb4⟩
  go_wp2_with fail
  refine wp_loop_rounds 1 ?_
  rw [rounds_succ]
  go_wp2
  go_ret
  exact ⟨rfl, (hxA.trans hxB).alloc _⟩
end Go.Proofs.Ytgmopnbejjfbjaa
