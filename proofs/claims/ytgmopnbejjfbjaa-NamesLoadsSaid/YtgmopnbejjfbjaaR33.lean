/-
  Package names: Load. Conditions: the registry's cell; the text is small.
-/
import Derived.Test.YtgmopnbejjfbjaaR32
namespace Go.Proofs.Ytgmopnbejjfbjaa
open Go.RowKit Go.MapKept
open Go.ChangeMaps (setBlock)

theorem getNum_len {l t : List UInt8} {n : Nat} (h : getNum l = some (n, t)) : t.length ≤ l.length := by
  cases l with
  | nil => cases h
  | cons k r =>
    rw [getNum_cons] at h
    split at h
    · cases h
    · cases h; simp; omega
theorem textM_len (s : RS) : (textM s).1.length ≤ s.l.length := by
  unfold textM textR
  split
  · cases hg : getNum s.l with
    | none => simp
    | some x =>
      obtain ⟨n, r⟩ := x
      have := getNum_len hg
      by_cases hn : n ≤ r.length
      · simp only [if_pos hn, List.length_take]; omega
      · simp only [if_neg hn]; simp
  · simp
theorem IsRd.small {w : World} {p : Nat} {s : RS} (h : IsRd w p s) : s.l.length ≤ 9223372036854775807 := by
  obtain ⟨v, _, ao, c, _, h1, h2, _⟩ := h
  exact Nat.le_trans h1 h2
theorem rowsP_succ (k : Nat) (last : ByteArray) (acc : List (ByteArray × List Ep)) (s : RS) : rowsP (k + 1) last acc s =
    if isNameB (ofL (textM s).1) = true ∧ leS (ofL (textM s).1) last = false ∧ 1 ≤ (countM 1024 (textM s).2).1 then
      match epsP (countM 1024 (textM s).2).1 [] (countM 1024 (textM s).2).2 with
      | some (l, s') => rowsP k (ofL (textM s).1) (acc ++ [(ofL (textM s).1, l)]) s'
      | none => none
    else none := by rw [rowsP]; rfl
theorem finP_ok {K : List (ByteArray × List Ep)} {s : RS} (h : endM s = 0) : finP (some (K, s)) = some K := by simp [finP, h]
theorem finP_no {K : List (ByteArray × List Ep)} {s : RS} (h : ¬ endM s = 0) : finP (some (K, s)) = none := by simp [finP, h]
theorem countM_most (most : Nat) (s : RS) : (countM most s).1 ≤ most := by
  unfold countM
  split
  · split
    · rename_i n t _
      by_cases h : (most : Int) < 0 ∨ (most : Int) < n
      · rw [if_pos h]; omega
      · rw [if_neg h]; simp only; omega
    · simp
  · simp
set_option maxRecDepth 100000 in
set_option maxHeartbeats 4000000 in
theorem load_any (w : World) (rb : Nat) (v0 : Value) (hrb : blk w rb = some (.cells #[v0] 96 (0, 0))) (b : ByteArray) (hs : b.size ≤ 1000000) :
    Calls Try.prog 28 #[.pointer (some ⟨rb, 0, none⟩), .string b] w (LoadPost w rb b) := by
  obtain ⟨cap, w1, hcv, hb1, hx1⟩ := run_string_bytesAt w b hs
  have hll : b.data.toList.length = b.size := Array.length_toList
  have hnew := newreader_any w1 _ _ _ _ hb1 (by rw [hll]; exact hs)
  have hlp : loadP b = finP (rowsP (countM b.size ⟨b.data.toList, 0⟩).1 { data := #[] } [] (countM b.size ⟨b.data.toList, 0⟩).2) := rfl
  have hle := countM_le b.size ⟨b.data.toList, 0⟩ (by omega)
  have hcnt := fun (W : World) (p : Nat) (h : IsRd W p ⟨b.data.toList, 0⟩) => count_any W p b.size _ h (by omega)
  obtain ⟨⟨N, s0⟩, hN⟩ : ∃ m, countM b.size ⟨b.data.toList, 0⟩ = m := ⟨_, rfl⟩
  rw [hN] at hlp hle
  simp only [hN] at hcnt
  simp only at hlp hle
  have hleft := fun (W : World) (p : Nat) (h : IsRd W p ⟨b.data.toList, 0⟩) => left_any W p _ h
  simp only [hll] at hleft
  have hmm := @run_makeMap Try.prog
  have Hcnt := Lib.hid hcnt
  have Hleft := Lib.hid hleft
  have Hnew := Lib.hid hnew
  have Hlp := Lib.hid hlp
  have Hx1 := Lib.hid hx1
  have Hrb := Lib.hid hrb
  clear hcnt hleft hnew hlp hx1 hrb hN hb1 hll
  go_enter Try.func28, Try.ntmps28
  go_wp2_with fail
  refine Hnew.out.mono ?_
  rintro r w2 ⟨p, rfl, hrd2, hx2, hp2⟩
  have Hrd2 := Lib.hid hrd2
  have Hx2 := Lib.hid (Hx1.out.trans hx2)
  have hpw : w.heap.size ≤ p := Nat.le_trans Hx1.out.size hp2
  clear hrd2 hx2 hcv hp2 Hx1 Hnew
  go_upto_region 3 with fail
  obtain ⟨w3, hw3⟩ : ∃ w3, w3 = w2.alloc (.map #[] 0) := ⟨_, rfl⟩
  have hb3 : blk w3 w2.heap.size = some (.map #[] 0) := by rw [hw3]; exact blk_alloc_at _ _
  have hx3 : Ext (fun _ => False) w2 w3 := by rw [hw3]; exact (Ext.refl _ w2).alloc _
  rw [← hw3]
  have hI3 : LdSt w w3 p w2.heap.size [] ⟨b.data.toList, 0⟩ := ⟨Hx2.out.trans hx3, Hrd2.out.keep hx3, ⟨⟨#[], 0, hb3, rfl, stamped_empty 0⟩, (fun _ h => (by cases h)), List.Pairwise.nil⟩, hpw, Hx2.out.size, fun _ h => (by cases h)⟩
  generalize w2.heap.size = mb at *
  have HI3 := Lib.hid hI3
  clear hI3 hw3 hb3 hx3 hmm Hrd2 Hx2 hpw
  go_wp2_with fail
  refine (Hleft.out w3 p HI3.out.rd).mono ?_
  rintro r w' ⟨rfl, hw⟩; obtain rfl := hw.symm; clear hw
  go_wp2_with fail
  refine (Hcnt.out w3 p HI3.out.rd).mono ?_
  rintro r w4 ⟨rfl, hrd4, hx4⟩
  have HI4 := Lib.hid (HI3.out.read hx4 hrd4)
  clear hrd4 hx4 HI3 Hcnt Hleft
  simp only at HI4 ⊢
  go_wp2_with fail
  go_loopg [7, 20] N (fun q v7 v20 wr => ∃ (j : Nat) (last : ByteArray) (acc : List (ByteArray × List Ep)) (L : List (ByteArray × Slot)) (s : RS), j ≤ N ∧ q = N - j ∧ v7 = .string last ∧ v20 = .int .i64 j ∧ LdSt w wr p mb L s ∧ regM L = acc ∧ UpTo acc last ∧ loadP b = finP (rowsP (N - j) last acc s))
  case atStart => exact ⟨0, _, [], [], s0, Nat.zero_le _, rfl, rfl, rfl, HI4.out, rfl, (fun _ h => (by cases h)), Hlp.out⟩
  case round =>
    obtain ⟨j, last, acc, L, s, hj, rfl, rfl, rfl, hI, hL, hup, hlp⟩ := hrel
    clear HI4 Hlp
    by_cases hjN : j < N
    · have hstep : N - j = (N - (j + 1)) + 1 := by omega
      have hlp0 := hlp
      rw [hstep, rowsP_succ] at hlp
      have htx := text_any wr p s hI.rd
      have htl := textM_len s
      have hsm := hI.rd.small
      have hcn := fun (W : World) (h : IsRd W p (textM s).2) => count_any W p 1024 _ h (by omega)
      have hc1 := countM_most 1024 (textM s).2
      obtain ⟨⟨tl, s1⟩, ht⟩ : ∃ m, textM s = m := ⟨_, rfl⟩
      rw [ht] at htx htl hlp hc1
      simp only [ht] at hcn
      simp only at htl hlp hc1
      obtain ⟨⟨c, s2⟩, hcm⟩ : ∃ m, countM 1024 s1 = m := ⟨_, rfl⟩
      have hcm' : countM ((1024 : Nat) : Int) s1 = (c, s2) := hcm
      rw [hcm'] at hc1
      rw [hcm] at hlp
      simp only [hcm] at hcn
      simp only at hlp hc1
      have htz : (ofL tl).size ≤ 9223372036854775807 := by
        show tl.toArray.size ≤ _
        simp; omega
      have htx' : Calls Try.prog 48 #[.pointer (some ⟨p, 0, none⟩)] wr fun r w' => r = .returned (.string (ofL tl)) ∧ IsRd w' p s1 ∧ Ext (fun b => b = p) wr w' := htx
      generalize ofL tl = t at *
      have Htx := Lib.hid htx'
      have Hcn := Lib.hid hcn
      have HI := Lib.hid hI
      have HL := Lib.hid hL
      have Hup := Lib.hid hup
      have Hlp := Lib.hid hlp
      clear htx htx' hcn hI hL hup hlp hlp0 hstep htl hsm ht hcm hcm'
      go_wp2_with fail
      refine Htx.out.mono ?_
      rintro r w5 ⟨rfl, hrd5, hx5⟩
      have HI5 := Lib.hid (HI.out.read hx5 hrd5)
      clear hrd5 hx5 HI Htx
      go_wp2_with fail
      refine (Hcn.out w5 HI5.out.rd).mono ?_
      rintro r w6 ⟨rfl, hrd6, hx6⟩
      have HI6 := Lib.hid (HI5.out.read hx6 hrd6)
      clear hrd6 hx6 HI5 Hcn
      simp only at HI6 ⊢
      have l1 := less_leS t last
      have hno : ¬ (isNameB t = true ∧ leS t last = false ∧ 1 ≤ c) → LoadPost w rb b (.returned (.int .i64 11)) w6 := fun hn => by
        have h1 := Hlp.out
        rw [if_neg hn] at h1
        exact load_none h1 HI6.out.ext
      have Hno := Lib.hid hno
      clear hno
      cases hname : isNameB t with
      | false =>
        rw [hname] at Hno
        go_wp2_with (first | (go_at_call 35; refine (isName_any _ _ htz).mono ?_; rintro r w' ⟨rfl, hw⟩; obtain rfl := hw.symm; rw [hname]))
        go_ret
        exact Hno.out (fun h => (by cases h.1))
      | true =>
        cases hcmp : leS t last with
        | true =>
          rw [hcmp] at Hno
          by_cases heq : t = last
          · subst heq
            rw [hcmp] at l1
            go_wp2_with (first | (go_at_call 35; refine (isName_any _ _ htz).mono ?_; rintro r w' ⟨rfl, hw⟩; obtain rfl := hw.symm; rw [hname]))
            go_ret
            exact Hno.out (fun h => (by cases h.2.1))
          · have h2 : leS last t = false := by
              cases h : leS last t with
              | false => rfl
              | true => exact absurd (linS.anti _ _ hcmp h) heq
            rw [h2] at l1
            clear h2 heq
            go_wp2_with (first | (go_at_call 35; refine (isName_any _ _ htz).mono ?_; rintro r w' ⟨rfl, hw⟩; obtain rfl := hw.symm; rw [hname]))
            go_ret
            exact Hno.out (fun h => (by cases h.2.1))
        | false =>
          have h2 : leS last t = true := by
            have := linS.total t last
            rw [hcmp] at this; simpa using this
          rw [h2] at l1
          have l3 := bytes_ne (a := t) (b := last) (fun e => by subst e; rw [hcmp] at h2; cases h2)
          clear h2
          by_cases hc0 : (c : Int) < 1
          · rw [hcmp] at Hno
            go_wp2_with (first | (go_at_call 35; refine (isName_any _ _ htz).mono ?_; rintro r w' ⟨rfl, hw⟩; obtain rfl := hw.symm; rw [hname]))
            go_ret
            exact Hno.out (fun h => (by have := h.2.2; omega))
          · have hlp := Hlp.out
            rw [if_pos ⟨hname, hcmp, by omega⟩] at hlp
            have Hlp2 := Lib.hid hlp
            clear hlp Hlp Hno
            go_wp2_with (first | (go_at_call 35; refine (isName_any _ _ htz).mono ?_; rintro r w' ⟨rfl, hw⟩; obtain rfl := hw.symm; rw [hname]))
            obtain ⟨i0, hi, hz0, hz1, hz2⟩ := info_parts Try.info100
            go_loopg [39] c (fun q v39 wx => ∃ (k : Nat) (l : List Ep) (L : List (ByteArray × Slot)) (s : RS), k ≤ c ∧ q = c - k ∧ v39 = .int .i64 k ∧ LdSt w wx p mb L s ∧ regM L = accM acc t l ∧ l.length = k ∧ epsP c [] s2 = epsP (c - k) l s)
            case atStart => exact ⟨0, [], L, s2, Nat.zero_le _, rfl, rfl, HI6.out, by rw [HL.out]; simp [accM], rfl, rfl⟩
            case round =>
              obtain ⟨k, l, L', s', hk, rfl, rfl, hI, hL', hlk, hep⟩ := hrel
              clear HI6
              have hnone := Hup.out.none hcmp
              by_cases hkc : k < c
              · have hst : c - k = (c - (k + 1)) + 1 := by omega
                rw [hst] at hep
                have hrd := readep_any wr p s' hI.rd
                cases he : epP s' with
                | none =>
                  have hl : loadP b = none := by rw [Hlp2.out, hep, epsP_none he]; rfl
                  unfold EpPost at hrd
                  simp only [he] at hrd
                  have Hrd := Lib.hid hrd
                  have HI := Lib.hid hI
                  have Hl := Lib.hid hl
                  clear hrd hI hl hep hL' hlk hnone he Hlp2
                  go_wp2_with fail
                  refine Hrd.out.mono ?_
                  rintro r w7 ⟨hx7, ⟨ea, et, eg⟩, rfl, s3, hr7⟩
                  have Hfin := Lib.hid (load_none (rb := rb) Hl.out ((HI.out.read hx7 hr7).ext.alloc (.cells #[.int .i64 ea, .int .i64 et, .int .i64 eg] 100)))
                  clear hx7 hr7 HI Hl
                  go_wp2
                  go_ret
                  exact Hfin.out
                | some es =>
                  obtain ⟨⟨ea, et, eg⟩, s3⟩ := es
                  rw [epsP_some he] at hep
                  unfold EpPost at hrd
                  simp only [he] at hrd
                  have Hrd := Lib.hid hrd
                  have HI := Lib.hid hI
                  have Hep := Lib.hid hep
                  have HL2 := Lib.hid hL'
                  have Hlk := Lib.hid hlk
                  have Hnone := Lib.hid hnone
                  clear hrd hI hep hL' hlk hnone he
                  go_wp2_with fail
                  refine Hrd.out.mono ?_
                  rintro r w7 ⟨hx7, rfl, hr7⟩
                  have HI7 := Lib.hid (HI.out.read hx7 hr7)
                  clear hx7 hr7 HI Hrd
                  go_upto_region 15 with fail
                  obtain ⟨w8, hw8⟩ : ∃ w8, w8 = w7.alloc (.cells #[.int .i64 ea, .int .i64 et, .int .i64 eg] 100) := ⟨_, rfl⟩
                  have hb8 : blk w8 w7.heap.size = some (.cells #[.int .i64 ea, .int .i64 et, .int .i64 eg] 100 (0, 0)) := by rw [hw8]; exact blk_alloc_at _ _
                  have hx8 : Ext (fun _ => False) w7 w8 := by rw [hw8]; exact (Ext.refl _ w7).alloc _
                  rw [← hw8]
                  have hI8 := HI7.out.keep hx8
                  obtain ⟨x0, x1, x2⟩ := box_cells hb8
                  generalize w7.heap.size = X at *
                  obtain ⟨⟨es, clock, hm, hl, hst⟩, _⟩ := id hI8.map
                  have hlook := reg_lookup (clock := clock) hl t w8 hm
                  have hown := hI8.map.owns t
                  have hsl : slotL L' t = l := by rw [slotL_eq, HL2.out]; exact accM_slot Hnone.out l
                  obtain ⟨ao, cp, hv⟩ := ownsRow_shape hown
                  have hmbne := hI8.map.ne t
                  rw [hsl, Hlk.out] at hv
                  rw [hv] at hlook hmbne
                  rw [hv, hsl, Hlk.out] at hown
                  obtain ⟨f, hf⟩ := run_update_fun (P := Try.prog) (b := mb) (clock := clock) Try.underlying94 Try.underlying9 ⟨hl, hst⟩ t
                  have Hf := Lib.hid hf
                  have Hown8 := Lib.hid hown
                  have HI8 := Lib.hid hI8
                  have Hv := Lib.hid hv
                  have Hm := Lib.hid hm
                  have Hne := Lib.hid hmbne
                  have hX8 := blk_lt hb8
                  clear hw8 hb8 hx8 HI7 hl hst hown hsl hv hf hI8 hmbne
                  go_wp2_with (first
                    | (at_builtin; refine wpList_append_any rfl (.tmp 52) (.tmp 54) 103 rfl 0 100 i0 _ 3 24 Try.underlying103 hi hz0 hz1 hz2 rfl (by decide) _ _ _ rfl (Hown8.out.alloc _) _ 1 1 (fun e => (by cases e)) (Ep.cs ⟨ea, et, eg⟩) rfl rfl (.inr ⟨_, rfl, cells_new (Ep.cs ⟨ea, et, eg⟩) _ rfl⟩) (by simp [Ep.cs, Value.oneCell']) (by simp only [maxLen]; omega) (by omega) (Nat.zero_le _) ?_; intro v9 w9 hown9 hgrow9 hat9))
                  have hx9 : Ext (fun b => (slotV L' t).ownBlock = some b) w8 w9 := by
                    rw [Hv.out]
                    exact ((Ext.refl (fun b => (Value.slice ao k cp).ownBlock = some b) w8).alloc _).grown hgrow9 (fun r hr _ => hr)
                  obtain ⟨a9, c9, rfl⟩ := ownsRow_shape hown9
                  obtain ⟨g9, rfl, hg9⟩ := row_form hown9 (by omega)
                  have hown9' : w9.ownsRow 0 100 3 (.slice (some ⟨g9, 0, none⟩) (k + 1) c9) (l ++ [(⟨ea, et, eg⟩ : Ep)]).length (eps (l ++ [⟨ea, et, eg⟩])) := by
                    rw [eps_append, List.length_append, Hlk.out]; simpa [eps] using hown9
                  have hloc : (slotV L' t).ownBlock = some g9 ∨ w8.heap.size ≤ g9 := by
                    rw [Hv.out]
                    rcases hat9 with h | h
                    · exact .inl h.symm
                    · have : g9 = (w8.alloc (.cells #[.int .i64 ea, .int .i64 et, .int .i64 eg] 100)).heap.size := Option.some.inj h
                      have h2 : (w8.alloc (.cells #[.int .i64 ea, .int .i64 et, .int .i64 eg] 100)).heap.size = w8.heap.size + 1 := by simp
                      exact .inr (by omega)
                  have hm9 : blk w9 mb = some (.map es clock) := (hx9.blk (blk_lt Hm.out) (by rw [Hv.out]; exact Hne.out)).trans Hm.out
                  have hfu := Hf.out (.slice (some ⟨g9, 0, none⟩) (k + 1) c9)
                  have hup := hfu.2 w9 hm9
                  have HI9 := Lib.hid (HI8.out.put hx9 hown9' rfl hloc hfu.1)
                  have hL9 := regM_aput L' t ⟨.slice (some ⟨g9, 0, none⟩) (k + 1) c9, l ++ [⟨ea, et, eg⟩]⟩
                  rw [HL2.out] at hL9
                  have HL9 := Lib.hid (hL9.trans (accM_put Hnone.out l ⟨ea, et, eg⟩))
                  clear hx9 hown9 hown9' hgrow9 hat9 hloc hm9 hfu hL9 x0 x1 x2 hm hlook Hf Hown8 HI8 Hv Hm Hne hX8
                  rw [hup]
                  go_wp2
                  go_roundg (c - (k + 1))
                  case measure => omega
                  case rel => exact ⟨k + 1, _, _, s3, by omega, rfl, by go_num, HI9.out, HL9.out, by rw [List.length_append, Hlk.out]; rfl, Hep.out⟩
              · have hkc' : c - k = 0 := by omega
                rw [hkc'] at hep
                have hl1 : l ≠ [] := fun e => by subst e; simp at hlk; omega
                rw [accM_full hl1] at hL'
                have hlp := Hlp2.out
                rw [hep] at hlp
                have Hlp3 : Hid (loadP b = finP (rowsP (N - (j + 1)) t (acc ++ [(t, l)]) s')) := Lib.hid hlp
                have HI := Lib.hid hI
                have Hup2 := Lib.hid (Hup.out.snoc hcmp l)
                have HL2 := Lib.hid hL'
                clear hlp Hlp2 hI hep hL' hnone Hup
                go_wp2
                go_roundg (N - (j + 1))
                case measure => omega
                case rel => exact ⟨j + 1, t, _, L', s', by omega, rfl, rfl, by go_num, HI.out, HL2.out, Hup2.out, Hlp3.out⟩
    · have hj' : N - j = 0 := by omega
      rw [hj'] at hlp
      have hend := end_any wr p s hI.rd
      have HI := Lib.hid hI
      have Hend := Lib.hid hend
      have hr := (hI.ext.blk (blk_lt Hrb.out) id).trans Hrb.out
      have q0 : wr.frozen? ⟨rb, 0, none⟩ = false := free_of_cells hr 0
      have q1 := blk_lt hr
      have q2 : wr.cell? ⟨rb, 0, none⟩ = some v0 := by simpa using cell_of_cells hr 0
      by_cases he : endM s = 0
      · have hl : loadP b = some (regM L) := by rw [hlp, hL]; exact finP_ok he
        have Hfin := Lib.hid (load_some hI hl Hrb.out)
        rw [he] at Hend
        clear hI hend hr hl hlp hL hup he
        go_wp2_with fail
        refine Hend.out.mono ?_
        rintro r w' ⟨rfl, hw⟩; obtain rfl := hw.symm; clear hw
        go_wp2
        go_ret
        exact Hfin.out
      · have hl : loadP b = none := by rw [hlp]; exact finP_no he
        have Hfin := Lib.hid (load_none (rb := rb) hl hI.ext)
        have he' : (endM s == 0) = false := by simpa using he
        generalize endM s = e at *
        clear hI hend hr hl hlp hL hup
        go_wp2_with fail
        refine Hend.out.mono ?_
        rintro r w' ⟨rfl, hw⟩; obtain rfl := hw.symm; clear hw
        go_wp2
        go_ret
        exact Hfin.out
end Go.Proofs.Ytgmopnbejjfbjaa
