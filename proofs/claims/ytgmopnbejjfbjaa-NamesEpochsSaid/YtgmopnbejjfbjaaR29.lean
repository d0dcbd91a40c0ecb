/-
  NamesEpochs: the walk. Conditions: the arguments' cells are as given.
-/
import Derived.Test.YtgmopnbejjfbjaaR28
namespace Go.Proofs.Ytgmopnbejjfbjaa
open Go.RowKit Go.MapKept
open Go.ChangeMaps (setBlock)

set_option maxRecDepth 100000 in
set_option maxHeartbeats 4000000 in
theorem epochs_core (w : World) (ao : Option Addr) (n cap : Nat) (l : List NOp) (nm : ByteArray) (a t now : Int) (hok : ∀ x ∈ l, InR x.a) (hns : nm.size ≤ 9223372036854775807)
    (hfew : ∀ W, Ext (fun _ => False) w W → Calls Try.prog 23 #[.slice ao n cap, .int .i64 20] W fun r w' => r = .returned (.bool (fewB l 20)) ∧ w' = W)
    (hn : n = l.length) (hcells : 0 < l.length → ∃ b off, ao = some ⟨b, off, none⟩ ∧ Ops w b off l ∧ b < w.heap.size) :
    Calls Try.prog 6 #[.slice ao n cap, .string nm, .int .i64 a, .int .i64 t, .int .i64 now] w (AwakePost w) := by
  subst hn
  have Hfew := Lib.hid hfew
  have Hcells := Lib.hid hcells
  have Hok := Lib.hid hok
  clear hfew hcells hok
  have hmm := @run_makeMap Try.prog
  go_enter Try.func6, Try.ntmps6
  go_wp2_with fail
  refine (awake_any _).mono ?_
  rintro r w1 ⟨rfl, hx1⟩
  go_wp2_with fail
  refine (Hfew.out _ hx1).mono ?_
  rintro r w' ⟨rfl, hw⟩; obtain rfl := hw.symm
  cases hf : fewB l 20 with
  | false =>
    have Hx1 := Lib.hid hx1
    clear hf hx1
    go_wp2
    go_ret
    exact ⟨rfl, Hx1.out⟩
  | true =>
    obtain ⟨hl, hb⟩ := fewB_body hf
    have hrun := run_any w1 ao l.length cap l Hok.out hb (by omega) rfl (fun h => by
      obtain ⟨b, off, h1, h2, h3⟩ := Hcells.out h
      exact ⟨b, off, h1, h2.ext hx1 (fun _ => ⟨h3, id⟩), Nat.lt_of_lt_of_le h3 hx1.size⟩)
    have Hrun := Lib.hid hrun
    have Hx1 := Lib.hid hx1
    clear hrun hx1 hf hb
    by_cases c1 : (40 : Int) < nm.size
    · go_wp2
      go_ret
      exact ⟨rfl, Hx1.out⟩
    by_cases c2 : 4611686018427387904 < a
    · go_wp2
      go_ret
      exact ⟨rfl, Hx1.out⟩
    go_wp2_with fail
    refine Hrun.out.mono ?_
    rintro r w2 hr2
    obtain ⟨rb, mb, v, rfl, hR2, _, hinv⟩ := runM_inv hr2
    generalize runM l = M at *
    have Hinv := Lib.hid hinv
    have HR2 := Lib.hid hR2
    clear hinv hR2 hr2 Hrun
    go_upto_region 9 with fail
    obtain ⟨w3, hw3⟩ : ∃ w3, w3 = w2.alloc (.map #[] 0) := ⟨_, rfl⟩
    have hb3 : blk w3 w2.heap.size = some (.map #[] 0) := by rw [hw3]; exact blk_alloc_at _ _
    have hx3 : Ext (fun _ => False) w2 w3 := by rw [hw3]; exact (Ext.refl _ w2).alloc _
    rw [← hw3]
    have HR3 := Lib.hid (HR2.out.keep hx3)
    have hmb : ¬ w2.heap.size = mb := by have := HR2.out.lt; omega
    have hbm0 : w1.heap.size ≤ w2.heap.size := HR2.out.ext.size
    generalize w2.heap.size = bm at *
    have Hb3 := Lib.hid hb3
    clear hw3 hb3 hx3 hmm HR2
    go_wp2_with fail
    refine (names_at w1 w3 rb mb M HR3.out (by have := Hinv.out.len; omega)).mono ?_
    rintro r w4 ⟨vn, rfl, hvn, hx4, _⟩
    have hS := namesM_nodup Hinv.out.nodup
    have hSm : ∀ x ∈ namesM M, (assoc M x).isSome = true := fun x hx => namesM_mem.1 hx
    obtain ⟨N, hN⟩ : ∃ N, (namesM M).length = N := ⟨_, rfl⟩
    have hN20 : N ≤ 20 := by rw [← hN, namesM_length]; have := Hinv.out.len; omega
    rw [hN] at hvn
    obtain ⟨an, cn, rfl⟩ := ownsRow_shape hvn
    have HR4 := Lib.hid (HR3.out.keep hx4)
    have Hb4 := Lib.hid ((hx4.blk (blk_lt Hb3.out) id).trans Hb3.out)
    have Hvn := Lib.hid hvn
    have HS := Lib.hid hS
    have HSm := Lib.hid hSm
    have HN := Lib.hid hN
    clear hvn hx4 hS hSm hN HR3 Hb3
    go_wp2_with fail
    go_loopg [51] N (fun q v51 wr => ∃ (j : Nat) (M' : List (ByteArray × List Ep)) (es : Array MapEntry) (clock : Nat), j ≤ N ∧ q = N - j ∧ v51 = .int .i64 j ∧ RegAt w1 wr rb mb M' ∧ Alike M M' ∧ Inv M' l.length ∧ blk wr bm = some (.map es clock) ∧ StrMapS es clock (entM (entsOf M ((namesM M).take j))) ∧ wr.ownsRow 0 9 1 (.slice an N cn) N ((namesM M).map Value.string))
    case atStart => exact ⟨0, M, #[], 0, Nat.zero_le _, rfl, rfl, HR4.out, Alike.refl M, Hinv.out, Hb4.out, ⟨rfl, stamped_empty 0⟩, Hvn.out⟩
    case round =>
      obtain ⟨j, M', es, clock, hj, rfl, rfl, hR, hal, hinv', hbm, hst, hvn⟩ := hrel
      clear HR4 Hb4 Hvn
      by_cases hjN : j < N
      · obtain ⟨gn, rfl, _⟩ := row_form hvn (by omega)
        obtain ⟨x, hx⟩ : ∃ x, (namesM M)[j]? = some x := ⟨_, List.getElem?_eq_getElem (by rw [HN.out]; exact hjN)⟩
        have hxm := List.mem_of_getElem? hx
        obtain ⟨e, he, hen, he1, hlk, hi2, hal2⟩ := lookup_there hinv' (n := x) (by rw [hal.some]; exact HSm.out x hxm)
        have hlook := lookup_at w1 wr rb mb M' hR (hinv'.small (by omega)) x 0
        rw [hlk] at hlook
        have d0 : wr.cell? ⟨gn, j, none⟩ = some (.string x) := by
          have := World.ownsRow.cells hvn (g := gn) rfl j (.string x) (by rw [List.getElem?_map, hx]; rfl)
          rwa [Addr.add_lit, Nat.zero_add] at this
        obtain ⟨es', clock', hup, hst'⟩ := run_update_st (P := Try.prog) (b := bm) (clock := clock) Try.underlying68 Try.underlying9 hst.1 hst.2 x e.v
        have hB : aput (entsOf M ((namesM M).take j)) x e = entsOf M ((namesM M).take (j + 1)) := by
          have hnot : x ∉ (namesM M).take j := fun hm => by
            have h1 := HS.out
            rw [← List.take_append_drop j (namesM M)] at h1
            have h2 : x ∈ (namesM M).drop j := by
              rw [List.mem_iff_getElem?]; exact ⟨0, by rw [List.getElem?_drop]; exact hx⟩
            exact (List.nodup_append.1 h1).2.2 x hm x h2 rfl
          rw [aput_new (assoc_entsOf_out M hnot), List.take_add_one, hx]
          simp only [entsOf, Option.toList_some, List.map_append, List.map_cons, List.map_nil]
          rw [← hal.ent, he]; rfl
        rw [aput_entM, hB] at hst'
        obtain ⟨en, ee, ea, et⟩ := e
        simp only at hen he1
        subst hen
        simp only [Ent.v] at hup hlook
        have Hup := Lib.hid hup
        have Hst' := Lib.hid hst'
        have Hlook := Lib.hid hlook
        have Hi2 := Lib.hid hi2
        have Hal2 := Lib.hid (hal.trans hal2)
        have Hbm := Lib.hid hbm
        have Hvn := Lib.hid hvn
        have j0 : (0 : Int) ≤ (j : Int) := by omega
        have j1 : (j : Int) < (N : Int) := by omega
        clear hR hal hinv' hbm hst hvn hx hxm he hlk hi2 hal2 hlook hup hst' hB
        go_wp2_with fail
        refine Hlook.out.mono ?_
        rintro r w5 ⟨rfl, hR5, S, hx5, ha5⟩
        have hbm5 := ha5.map hx5 Hbm.out hmb
        have hvn5 := ha5.row hx5 Hvn.out (by decide) (by decide)
        go_upto_region 13 with fail
        obtain ⟨w6, hw6⟩ : ∃ w6, w6 = w5.alloc (.cells #[.string en, .int .i64 ee, .int .i64 ea, .int .i64 et] 28) := ⟨_, rfl⟩
        have hb6 : blk w6 w5.heap.size = some (.cells #[.string en, .int .i64 ee, .int .i64 ea, .int .i64 et] 28 (0, 0)) := by rw [hw6]; exact blk_alloc_at _ _
        have hx6 : Ext (fun _ => False) w5 w6 := by rw [hw6]; exact (Ext.refl _ w5).alloc _
        rw [← hw6]
        have HR6 := Lib.hid (hR5.keep hx6)
        have hbm6 := (hx6.blk (blk_lt hbm5) id).trans hbm5
        have Hvn6 := Lib.hid (ownsRow_keep hvn5 hx6)
        obtain ⟨x0, x1, x2, x3⟩ := box4 hb6
        have hup := Hup.out w6 hbm6
        have Hbm6 := Lib.hid hbm6
        generalize w5.heap.size = X at *
        clear hw6 hb6 hx6 hx5 ha5 hR5 hbm5 hvn5 hbm6
        go_wp2
        have hx7 : Ext (fun b => b = bm) w6 (setBlock w6 bm (.map es' clock')) := (Ext.refl _ w6).setBlock _ _ (fun _ => rfl)
        have hR7 := HR6.out.off hx7 (fun L hL => (aside_reg hL).maps _ _ _ Hbm6.out hmb) hbm0
        have hvn7 := ownsRow_ext Hvn6.out hx7 (fun g hg e => by
          subst e
          obtain ⟨cur, hc⟩ := row_type Hvn6.out hg
          rw [Hbm6.out] at hc; cases hc)
        have HR7 := Lib.hid hR7
        have Hvn7 := Lib.hid hvn7
        have Hbm7 := Lib.hid (blk_setBlock_same Hbm6.out (.map es' clock'))
        clear hx7 hR7 hvn7 hup
        go_roundg (N - (j + 1))
        case measure => omega
        case rel => exact ⟨j + 1, _, es', clock', by omega, rfl, by go_num, HR7.out, Hal2.out, Hi2.out, Hbm7.out, Hst'.out, Hvn7.out⟩
      · rw [List.take_of_length_le (by rw [HN.out]; omega)] at hst
        have hle := ents_epoch_le hinv' nm
        have hpub := publish_at w1 wr rb mb M' hR nm a t now hns
        rcases publish_there hinv' (by omega) nm a t now with ⟨c, hp, hc⟩ | ⟨M2, hp, hi2, he2, hne2, hs2, hl2⟩
        · rw [hp] at hpub
          have Hpub := Lib.hid hpub
          clear hp hpub hle hst hR hal hinv' hbm hvn
          go_wp2_with fail
          refine Hpub.out.mono ?_
          rintro r w5 ⟨rfl, hR5, _⟩
          have Hfin := Lib.hid (Hx1.out.trans hR5.ext)
          clear hR5
          rcases hc with rfl | rfl
          · go_wp2
            go_ret
            exact ⟨rfl, Hfin.out⟩
          · go_wp2
            go_ret
            exact ⟨rfl, Hfin.out⟩
        · rw [hp] at hpub
          have hE := ent_epoch Hinv.out nm
          rw [← hal.ent nm] at hE
          have hlk := entry_lookup (bm := bm) (clock := clock) hst.1 nm
          obtain ⟨⟨n0, ee0, a0, t0⟩, h0⟩ : ∃ e0, (assoc (entsOf M (namesM M)) nm).getD ⟨{ data := #[] }, 0, 0, 0⟩ = e0 := ⟨_, rfl⟩
          rw [h0] at hlk hE
          simp only at hE
          rw [← hE] at hpub he2 hle
          clear hE h0 hp
          have hafter := ents_after Hinv.out nm _ he2 (fun m hm => (hne2 m hm).trans (hal.ent m))
          rw [hal.some, hal.length] at hl2
          have hlen2 := ents_length nm ⟨nm, ee0 + 1, a, t⟩ hl2
          obtain ⟨es2, clock2, hup, hst2⟩ := run_update_st (P := Try.prog) (b := bm) (clock := clock) Try.underlying68 Try.underlying9 hst.1 hst.2 nm (⟨nm, ee0 + 1, a, t⟩ : Ent).v
          rw [aput_entM] at hst2
          simp only [Ent.v] at hup hlk
          generalize aput (entsOf M (namesM M)) nm ⟨nm, ee0 + 1, a, t⟩ = B2 at *
          have hfd : ∀ W : World, (Instr.field 28 (.agg #[.string n0, .int .i64 ee0, .int .i64 a0, .int .i64 t0]) 1).run Try.prog W = .ok (.int .i64 ee0) W := fun W => by kernel_rfl
          obtain ⟨hle0, hle1⟩ := hle
          have hle2 : ee0 ≤ 20 := by omega
          have Hpub := Lib.hid hpub
          have Hlk := Lib.hid hlk
          have Hup := Lib.hid hup
          have Hst2 := Lib.hid hst2
          have Hafter := Lib.hid hafter
          have Hlen2 := Lib.hid hlen2
          have Hi2 := Lib.hid hi2
          have Hbm := Lib.hid hbm
          clear hpub hlk hup hst2 hafter hlen2 hi2 hbm hst hR hal hinv' hvn he2 hne2 hs2 hl2 hle1
          go_wp2_with fail
          refine Hpub.out.mono ?_
          rintro r w5 ⟨rfl, hR5, S, hx5, ha5⟩
          have hbm5 := ha5.map hx5 Hbm.out hmb
          have hup := Hup.out w5 hbm5
          have hlk := Hlk.out w5 hbm5
          have HR5 := Lib.hid hR5
          have Hbm5 := Lib.hid hbm5
          clear hx5 ha5 hR5 hbm5
          go_upto_region 23 with fail
          have hx6 : Ext (fun b => b = bm) w5 (setBlock w5 bm (.map es2 clock2)) := (Ext.refl _ w5).setBlock _ _ (fun _ => rfl)
          have HR6 := Lib.hid (HR5.out.off hx6 (fun L hL => (aside_reg hL).maps _ _ _ Hbm5.out hmb) hbm0)
          have Hbm6 := Lib.hid (blk_setBlock_same Hbm5.out (.map es2 clock2))
          clear hx6 hup hlk
          generalize setBlock w5 bm (.map es2 clock2) = w6 at *
          go_wp2_with (first | (at_range; refine wpList_range_str rfl _ _ rfl Try.underlying68 Hbm6.out rfl ?_; intro hI))
          try go_frame
          have HR7 := Lib.hid (HR6.out.keep ((Ext.refl _ w6).alloc (.mapIter (some bm) clock2 #[] clock2)))
          have HI := Lib.hid hI
          have hr0 : w1.heap.size ≤ w6.heap.size := HR6.out.ext.size
          clear hI
          generalize w6.alloc (.mapIter (some bm) clock2 #[] clock2) = w7 at *
          generalize w6.heap.size = ri at *
          go_loopg [] B2.length (fun q wr => ∃ (M3 : List (ByteArray × List Ep)) (lft : List (ByteArray × Value)) (seen : Array Nat), q = lft.length ∧ RegAt w1 wr rb mb M3 ∧ Alike M2 M3 ∧ Inv M3 (l.length + 1) ∧ LeftIs es2 seen lft ∧ Iter wr ri bm es2 clock2 seen ∧ ∀ p ∈ lft, ∃ e, entOf M2 p.1 = some e ∧ p.2 = e.v)
          case atStart =>
            refine ⟨M2, entM B2, #[], by simp [entM], HR7.out, Alike.refl M2, Hi2.out, leftIs_start Hst2.out.1, HI.out, fun p hp => ?_⟩
            obtain ⟨q, hq, rfl⟩ := List.mem_map.1 hp
            exact ⟨q.2, Hafter.out q hq, rfl⟩
          case round =>
            obtain ⟨M3, lft, seen, rfl, hR, hal, hi3, hleft, hI, hents⟩ := hrel
            have HR := Lib.hid hR
            have Hal := Lib.hid hal
            have Hi3 := Lib.hid hi3
            have Hleft := Lib.hid hleft
            have Hit := Lib.hid hI
            have Hents := Lib.hid hents
            clear hR hal hi3 hleft hI hents HR7 HI
            go_wp2_with (first | (at_next; refine wpList_next_str rfl _ rfl Hst2.out.2 Hleft.out Hit.out rfl ?_ ?_))
            · intro hl0
              subst hl0
              go_wp2_with fail
              refine (names_at w1 wr rb mb M3 HR.out (by have := Hi3.out.len; omega)).mono ?_
              rintro r w8 ⟨v8, rfl, hv8, hx8, _⟩
              obtain ⟨a8, c8, rfl⟩ := ownsRow_shape hv8
              have hb8 := (hx8.blk (blk_lt Hit.out.2) id).trans Hit.out.2
              have e1 : (namesM M3).length = B2.length := by rw [namesM_length, Hal.out.length, Hlen2.out]
              have e2 : ∀ ty, (Builtin.len_ #[68] ty #[.map (some bm)]).run Try.prog w8 = .ok (.int .i64 B2.length) w8 := fun ty => by
                have := len_emap Hst2.out.1 ty w8 hb8
                rw [this]; simp [entM]
              have Hfin := Lib.hid (Hx1.out.trans (HR.out.keep hx8).ext)
              rw [e1]
              clear hv8 hx8 hb8 e1
              go_wp2
              go_ret
              exact ⟨rfl, Hfin.out⟩
            · intro k v' l' seen' w8 hp8 hl8 hI8 hx8 hen8
              obtain ⟨e, he, hve⟩ := Hents.out (k, v') (hp8.mem_iff.2 (by simp))
              simp only at he hve
              subst hve
              obtain ⟨e3, he3, hn3, _, hlk3, hi4, hal4⟩ := lookup_there Hi3.out (n := k) (by rw [Hal.out.some]; exact entOf_some he)
              rw [Hal.out.ent, he] at he3
              cases he3
              have hR8 := HR.out.off hx8 (fun L hL => (aside_reg hL).iters _ _ _ _ _ Hit.out.1) hr0
              have hlook := fun (W : World) (h : RegAt w1 W rb mb M3) => lookup_at w1 W rb mb M3 h (Hi3.out.small (by omega)) k 0
              rw [hlk3] at hlook
              have hpl := hp8.length_eq
              simp only [List.length_cons] at hpl
              have hents' : ∀ p ∈ l', ∃ e, entOf M2 p.1 = some e ∧ p.2 = e.v := fun p hp => Hents.out p (hp8.mem_iff.2 (List.mem_cons_of_mem _ hp))
              obtain ⟨en, ee, ea, et⟩ := e
              simp only [Ent.v] at hen8 hlook
              have HR8 := Lib.hid hR8
              have Hlook := Lib.hid hlook
              have Hpl := Lib.hid hpl
              have Hents' := Lib.hid hents'
              have Hi4 := Lib.hid hi4
              have Hal4 := Lib.hid (Hal.out.trans hal4)
              have HI8 := Lib.hid hI8
              have Hl8 := Lib.hid hl8
              clear hR8 hlook hpl hents' hi4 hal4 hI8 hl8 hlk3 he hp8 hx8 HR Hal Hi3 Hleft Hit Hents
              go_upto_region 26 with fail
              obtain ⟨w9, hw9⟩ : ∃ w9, w9 = w8.alloc (.cells #[.string en, .int .i64 ee, .int .i64 ea, .int .i64 et] 28) := ⟨_, rfl⟩
              have hb9 : blk w9 w8.heap.size = some (.cells #[.string en, .int .i64 ee, .int .i64 ea, .int .i64 et] 28 (0, 0)) := by rw [hw9]; exact blk_alloc_at _ _
              have hx9 : Ext (fun _ => False) w8 w9 := by rw [hw9]; exact (Ext.refl _ w8).alloc _
              rw [← hw9]
              have HR9 := Lib.hid (HR8.out.keep hx9)
              have HI9 := Lib.hid (HI8.out.keep hx9)
              have Hb9 := Lib.hid hb9
              generalize w8.heap.size = X at *
              clear hw9 hb9 hx9 hen8
              go_wp2_with fail
              refine (Hlook.out w9 HR9.out).mono ?_
              rintro r wA ⟨rfl, hRA, S', hxA, haA⟩
              have hbA := haA.blk hxA Hb9.out (by decide) (by decide)
              have HIA := Lib.hid (HI9.out.aside haA hxA hmb)
              have HRA := Lib.hid hRA
              obtain ⟨x0, x1, x2, x3⟩ := box4 hbA
              have hltX := blk_lt hbA
              clear hRA hxA haA hbA
              go_wp2
              go_roundg l'.length
              case measure => have := Hpl.out; omega
              case rel => exact ⟨_, l', seen', rfl, HRA.out.keep ((Ext.refl _ wA).alloc _), Hal4.out, Hi4.out, Hl8.out, HIA.out.keep ((Ext.refl _ wA).alloc _), Hents'.out⟩
end Go.Proofs.Ytgmopnbejjfbjaa
