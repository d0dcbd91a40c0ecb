/-
  NamesCuts: the walk. Conditions: the arguments' cells are as given.
-/
import Derived.Test.YtgmopnbejjfbjaaR22
import Derived.Test.YtgmopnbejjfbjaaR24
namespace Go.Proofs.Ytgmopnbejjfbjaa
open Go.RowKit Go.MapKept
open Go.ChangeMaps (setBlock)

theorem runM_inv {w w' : World} {l : List NOp} {r : Ending} (h : RunPost w l r w') : ∃ rb mb v, r = .returned (.tuple #[.pointer (some ⟨rb, 0, none⟩), v, .bool true]) ∧ RegAt w w' rb mb (runM l) ∧ IsRef45 w' v (runM l) ∧ Inv (runM l) l.length := by
  obtain ⟨rb, mb, L, v, rfl, h1, h2, h3, h4, h5, h6⟩ := h
  exact ⟨rb, mb, v, rfl, ⟨L, h1, h2, h5, h6⟩, h3, h4⟩
set_option maxRecDepth 100000 in
set_option maxHeartbeats 4000000 in
theorem cuts_core (w : World) (ao : Option Addr) (n cap : Nat) (l : List NOp) (nm : ByteArray) (now later : Int) (hok : ∀ x ∈ l, InR x.a) (hns : nm.size ≤ 9223372036854775807)
    (hfew : ∀ W, Ext (fun _ => False) w W → Calls Try.prog 23 #[.slice ao n cap, .int .i64 20] W fun r w' => r = .returned (.bool (fewB l 20)) ∧ w' = W)
    (hn : n = l.length) (hcells : 0 < l.length → ∃ b off, ao = some ⟨b, off, none⟩ ∧ Ops w b off l ∧ b < w.heap.size) :
    Calls Try.prog 7 #[.slice ao n cap, .string nm, .int .i64 now, .int .i64 later] w (AwakePost w) := by
  subst hn
  have Hfew := Lib.hid hfew
  have Hcells := Lib.hid hcells
  have Hok := Lib.hid hok
  clear hfew hcells hok
  go_enter Try.func7, Try.ntmps7
  go_wp2_with fail
  refine (awake_any _).mono ?_
  rintro r w1 ⟨rfl, hx1⟩
  go_wp2_with fail
  refine (Hfew.out _ hx1).mono ?_
  rintro r w' ⟨rfl, hw⟩; obtain rfl := hw.symm
  cases hf : fewB l 20 with
  | false =>
    have Hx1 := Lib.hid hx1
    clear hf hx1
    go_wp2
    go_ret
    exact ⟨rfl, Hx1.out⟩
  | true =>
    obtain ⟨hl, hb⟩ := fewB_body hf
    have hrun := run_any w1 ao l.length cap l Hok.out hb (by omega) rfl (fun h => by
      obtain ⟨b, off, h1, h2, h3⟩ := Hcells.out h
      exact ⟨b, off, h1, h2.ext hx1 (fun _ => ⟨h3, id⟩), Nat.lt_of_lt_of_le h3 hx1.size⟩)
    have Hrun := Lib.hid hrun
    have Hx1 := Lib.hid hx1
    clear hrun hx1 hf hb
    by_cases c1 : now < 0
    · go_wp2
      go_ret
      exact ⟨rfl, Hx1.out⟩
    by_cases c2 : 1099511627776 < now
    · go_wp2
      go_ret
      exact ⟨rfl, Hx1.out⟩
    by_cases c3 : 2199023255552 < later
    · go_wp2
      go_ret
      exact ⟨rfl, Hx1.out⟩
    by_cases c4 : later < 0
    · go_wp2
      go_ret
      exact ⟨rfl, Hx1.out⟩
    go_wp2_with fail
    refine Hrun.out.mono ?_
    rintro r w2 hr2
    obtain ⟨rb, mb, v, rfl, hR2, hv2, hinv⟩ := runM_inv hr2
    generalize runM l = M at *
    have hread : readB now = true := by unfold readB; simp; omega
    have hlaw := cuts_law hinv (by omega) nm now hread
    have hsm := hinv.small (by omega)
    have hlook := lookup_at w1 w2 rb mb M hR2 hsm nm now
    have hrlook := fun (W : World) (hr : IsRef45 W v M) => rlookup_any W v M hr hsm.nodup (by have := hsm.len; omega) nm now (by have := hsm.lens nm; omega)
    rcases hlaw with ⟨e1, e2⟩ | ⟨K, x, M1, M2, E, k1, k2, hxok, e1, i1, e2, e3, e4, e5, i2, e6, e7, e8⟩
    · have hcut := fun (W : World) (h : RegAt w1 W rb mb M) => maycut_at w1 W rb mb M h hsm nm 1 later (by omega)
      rw [e2] at hcut
      rw [e1] at hlook
      have Hlook := Lib.hid hlook
      have Hcut := Lib.hid hcut
      clear hlook hcut hrlook hR2 hv2 hsm e1 e2 hinv hr2 hread Hrun
      go_wp2_with fail
      refine Hlook.out.mono ?_
      rintro r w3 ⟨rfl, hR3, S, hx3, ha3⟩
      have HR3 := Lib.hid hR3
      clear hR3 hx3 ha3
      simp only [Ent.v, Ent.zero]
      go_wp2_with fail
      refine (Hcut.out _ (HR3.out.keep ((Ext.refl _ w3).alloc _))).mono ?_
      rintro r w4 ⟨rfl, hx4⟩
      have Hfin := Lib.hid (Hx1.out.trans ((HR3.out.keep ((Ext.refl _ w3).alloc _)).keep hx4).ext)
      clear hx4
      go_wp2
      go_ret
      exact ⟨rfl, Hfin.out⟩
    · obtain ⟨xa, xt, xg⟩ := x
      simp only at e1 e8
      have hm0 : 0 ≤ marginI xt ∧ marginI xt ≤ 100000 := by simp only [okEp] at hxok; unfold marginI; omega
      have hxt : 1 ≤ xt ∧ xt ≤ 65536 := by simp only [okEp] at hxok; omega
      have hs1 := i1.small (by omega)
      have hs2 := i2.small (by omega)
      have hcut1 := fun (W : World) (h : RegAt w1 W rb mb M1) => maycut_at w1 W rb mb M1 h hs1 nm K 2199023255552 (by omega)
      have hcut2 := fun (W : World) (h : RegAt w1 W rb mb M1) => maycut_at w1 W rb mb M1 h hs1 nm ((K : Int) + 1) 2199023255552 (by omega)
      have hcut3 := fun (W : World) (h : RegAt w1 W rb mb M1) => maycut_at w1 W rb mb M1 h hs1 nm 0 2199023255552 (by omega)
      rw [e2] at hcut1
      rw [e3] at hcut2
      rw [e4] at hcut3
      have hpub := fun (W : World) (h : RegAt w1 W rb mb M1) => publish_at w1 W rb mb M1 h nm 9 1 now hns
      rw [e5] at hpub
      have hcut4 := fun (W : World) (h : RegAt w1 W rb mb M2) => maycut_at w1 W rb mb M2 h hs2 nm K (now + marginI xt - 1) (by omega)
      have hcut5 := fun (W : World) (h : RegAt w1 W rb mb M2) => maycut_at w1 W rb mb M2 h hs2 nm ((K : Int) + 1) 2199023255552 (by omega)
      have hcut6 := fun (W : World) (h : RegAt w1 W rb mb M2) => maycut_at w1 W rb mb M2 h hs2 nm K later (by omega)
      have hcut7 := fun (W : World) (h : RegAt w1 W rb mb M2) => maycut_at w1 W rb mb M2 h hs2 nm K (later + 1) (by omega)
      rw [e6, show decide (E ≤ now + marginI xt - 1) = false by simp; omega] at hcut4
      rw [e7] at hcut5
      rw [e6] at hcut6 hcut7
      rw [e1] at hlook hrlook
      have Hcut1 := Lib.hid hcut1
      have Hcut2 := Lib.hid hcut2
      have Hcut3 := Lib.hid hcut3
      have Hcut4 := Lib.hid hcut4
      have Hcut5 := Lib.hid hcut5
      have Hcut6 := Lib.hid hcut6
      have Hcut7 := Lib.hid hcut7
      have Hpub := Lib.hid hpub
      have Hlook := Lib.hid hlook
      have Hrlook := Lib.hid hrlook
      have Hv2 := Lib.hid hv2
      have Hxt := Lib.hid hxt
      obtain ⟨m0, m1⟩ := hm0
      have hmg : ∀ W : World, Calls Try.prog 27 #[.int .i64 xt] W fun e w' => e = .returned (.int .i64 (marginI xt)) ∧ w' = W := fun W => margin_any xt W (by have := Hxt.out; omega) (by have := Hxt.out; omega)
      have Hmg := Lib.hid hmg
      have He8 := Lib.hid e8
      clear hcut1 hcut2 hcut3 hcut4 hcut5 hcut6 hcut7 hpub hlook hrlook hR2 hv2 hsm hs1 hs2 e1 e2 e3 e4 e5 e6 e7 e8 i1 i2 hinv hr2 hread Hrun hxok hxt hmg
      generalize marginI xt = mg at *
      have hK : (K : Int) ≤ 20 := by omega
      go_wp2_with fail
      refine Hlook.out.mono ?_
      rintro r w3 ⟨rfl, hR3, S, hx3, ha3⟩
      have hv3 := ha3.ref hx3 Hv2.out
      simp only [Ent.v]
      go_upto_region 9 with fail
      obtain ⟨w4, hw4⟩ : ∃ w4, w4 = w3.alloc (.cells #[.string nm, .int .i64 K, .int .i64 xa, .int .i64 xt] 28) := ⟨_, rfl⟩
      have hb4 : blk w4 w3.heap.size = some (.cells #[.string nm, .int .i64 K, .int .i64 xa, .int .i64 xt] 28 (0, 0)) := by rw [hw4]; exact blk_alloc_at _ _
      have hx4 : Ext (fun _ => False) w3 w4 := by rw [hw4]; exact (Ext.refl _ w3).alloc _
      rw [← hw4]
      have HR4 := Lib.hid (hR3.keep hx4)
      have Hv4 := Lib.hid (hv3.keep hx4)
      have Hb4 := Lib.hid hb4
      generalize w3.heap.size = B at *
      obtain ⟨x0, x1, x2, x3⟩ := box4 hb4
      clear hw4 hb4 hx4 hx3 ha3 hR3 hv3
      go_wp2_with fail
      refine (Hcut1.out w4 HR4.out).mono ?_
      rintro r w5 ⟨rfl, hx5⟩
      have HR5 := Lib.hid (HR4.out.keep hx5)
      have Hv5 := Lib.hid (Hv4.out.keep hx5)
      have hb5 := (hx5.blk (blk_lt Hb4.out) id).trans Hb4.out
      have Hb5 := Lib.hid hb5
      obtain ⟨x0, x1, x2, x3⟩ := box4 hb5
      clear hb5 hx5
      go_wp2_with fail
      refine (Hcut2.out w5 HR5.out).mono ?_
      rintro r w6 ⟨rfl, hx6⟩
      have HR6 := Lib.hid (HR5.out.keep hx6)
      have Hv6 := Lib.hid (Hv5.out.keep hx6)
      have hb6 := (hx6.blk (blk_lt Hb5.out) id).trans Hb5.out
      have Hb6 := Lib.hid hb6
      obtain ⟨x0, x1, x2, x3⟩ := box4 hb6
      clear hb6 hx6
      go_wp2_with fail
      refine (Hcut3.out w6 HR6.out).mono ?_
      rintro r w7 ⟨rfl, hx7⟩
      have HR7 := Lib.hid (HR6.out.keep hx7)
      have Hv7 := Lib.hid (Hv6.out.keep hx7)
      have hb7 := (hx7.blk (blk_lt Hb6.out) id).trans Hb6.out
      have Hb7 := Lib.hid hb7
      obtain ⟨x0, x1, x2, x3⟩ := box4 hb7
      clear hb7 hx7
      go_wp2_with fail
      refine (Hrlook.out w7 Hv7.out).mono ?_
      rintro r w8 ⟨v8, rfl, _, hx8⟩
      have hR8 := HR7.out.keep hx8
      have hb8 := (hx8.blk (blk_lt Hb7.out) id).trans Hb7.out
      simp only [Ent.v]
      obtain ⟨x0, x1, x2, x3⟩ := box4 hb8
      go_upto_region 14 with fail
      obtain ⟨w9, hw9⟩ : ∃ w9, w9 = w8.alloc (.cells #[.string nm, .int .i64 K, .int .i64 xa, .int .i64 xt] 28) := ⟨_, rfl⟩
      have hc9 : blk w9 w8.heap.size = some (.cells #[.string nm, .int .i64 K, .int .i64 xa, .int .i64 xt] 28 (0, 0)) := by rw [hw9]; exact blk_alloc_at _ _
      have hx9 : Ext (fun _ => False) w8 w9 := by rw [hw9]; exact (Ext.refl _ w8).alloc _
      rw [← hw9]
      have hb9 := (hx9.blk (blk_lt hb8) id).trans hb8
      have HR9 := Lib.hid (hR8.keep hx9)
      have Hb9 := Lib.hid hb9
      have Hc9 := Lib.hid hc9
      obtain ⟨x0, x1, x2, x3⟩ := box4 hb9
      generalize w8.heap.size = C at *
      clear hx8 hR8 hb8 hw9 hc9 hx9 hb9
      go_wp2_with fail
      refine (Hpub.out w9 HR9.out).mono ?_
      rintro r wA ⟨rfl, hRA, S', hxA, haA⟩
      have hbA := haA.blk hxA Hb9.out (by decide) (by decide)
      have hcA := haA.blk hxA Hc9.out (by decide) (by decide)
      have HRA := Lib.hid hRA
      have HbA := Lib.hid hbA
      have HcA := Lib.hid hcA
      obtain ⟨x0, x1, x2, x3⟩ := box4 hbA
      obtain ⟨y0, y1, y2, y3⟩ := box4 hcA
      clear hRA hxA haA hbA hcA
      go_wp2_with (first | (go_at_call 27; refine (Hmg.out _).mono ?_; rintro r w' ⟨rfl, hw⟩; obtain rfl := hw.symm))
      refine (Hcut4.out wA HRA.out).mono ?_
      rintro r wB ⟨rfl, hxB⟩
      have HRB := Lib.hid (HRA.out.keep hxB)
      have hbB := (hxB.blk (blk_lt HbA.out) id).trans HbA.out
      have HbB := Lib.hid hbB
      obtain ⟨x0, x1, x2, x3⟩ := box4 hbB
      clear hxB hbB y0 y1 y2 y3
      go_wp2_with fail
      refine (Hcut5.out wB HRB.out).mono ?_
      rintro r wC ⟨rfl, hxC⟩
      have HRC := Lib.hid (HRB.out.keep hxC)
      have hbC := (hxC.blk (blk_lt HbB.out) id).trans HbB.out
      have HbC := Lib.hid hbC
      obtain ⟨x0, x1, x2, x3⟩ := box4 hbC
      clear hxC hbC
      go_wp2_with fail
      refine (Hcut6.out wC HRC.out).mono ?_
      rintro r wD ⟨rfl, hxD⟩
      have HRD := Lib.hid (HRC.out.keep hxD)
      have hbD := (hxD.blk (blk_lt HbC.out) id).trans HbC.out
      have HbD := Lib.hid hbD
      obtain ⟨x0, x1, x2, x3⟩ := box4 hbD
      clear hxD hbD
      by_cases hE : E ≤ later
      · have d1 : decide (E ≤ later) = true := by simpa using hE
        have d2 : decide (E ≤ later + 1) = true := by simp; omega
        have d3 : now + mg ≤ later := by have := He8.out; omega
        rw [d2] at Hcut7
        rw [d1]
        clear hE d1 d2
        go_wp2_with fail
        refine (Hcut7.out wD HRD.out).mono ?_
        rintro r wE ⟨rfl, hxE⟩
        have Hfin := Lib.hid (Hx1.out.trans (HRD.out.keep hxE).ext)
        clear hxE
        go_wp2
        go_ret
        exact ⟨rfl, Hfin.out⟩
      · have d1 : decide (E ≤ later) = false := by simpa using hE
        rw [d1]
        clear hE d1
        have Hfin := Lib.hid (Hx1.out.trans HRD.out.ext)
        go_wp2
        go_ret
        exact ⟨rfl, Hfin.out⟩
end Go.Proofs.Ytgmopnbejjfbjaa
