/-
  Package duality: Check. Conditions: the arguments read as programs, outcomes; the numbers are small.
-/
import Derived.Test.YtbgienfcmdgaaaaGreatZ11
set_option linter.unusedVariables false
namespace Go.Proofs.YtbgienfcmdgaaaaGreat
open Go.RowKit Go.MapKept
open Go.ChangeMaps (setBlock)

def chkB (p : ProgV) (o : OutV) : Bool := if o.kind = 0 then chk1 p o else if o.kind = 1 then chk2 p o else chk3 p o
def checkE (p : ProgV) (o : OutV) : Int := if validB p && decide (0 ≤ o.kind) && decide (o.kind ≤ 2) then (if chkB p o then 0 else 13) else 1
def ErrPost (w : World) (e : Int) (r : Ending) (w' : World) : Prop := r = .returned (.int .i64 e) ∧ Ext (fun _ => False) w w'
set_option maxRecDepth 100000 in
set_option maxHeartbeats 4000000 in
theorem Check_any (w : World) (pv ov : Value) (p : ProgV) (o : OutV) (L T : Nat) (hp : IsPrg w pv p) (ho : IsOut w ov o L) (hs : Small p T L) :
    Calls Tryz.prog 19 #[pv, ov] w (ErrPost w (checkE p o)) := by
  have h1 := hs.room.one
  obtain ⟨r1, r2, r3, r4, r5, r6, r7, r8, r9⟩ := hs.room.all
  have HP := Lib.hid (And.intro hp (And.intro ho hs))
  obtain ⟨vv, rv, rfl, hv, hr⟩ := hp
  obtain ⟨vo, vc, rfl, -, hvn, -⟩ := hv.shape
  obtain ⟨ro, rc, rfl, -, hrn, -⟩ := hr.shape
  obtain ⟨neg, a1, m1, c1, a2, m2, c2, ptv, muv, rav, rfl, hval, hpt, hmu, hra, hk⟩ := ho
  obtain ⟨po, pc, rfl, -, hpn, -⟩ := hpt.shape
  obtain ⟨mo, mc, rfl, -, hmn, -⟩ := hmu.shape
  obtain ⟨zo, zc, rfl, -, hzn, -⟩ := hra.shape
  have HG := Lib.hid (fun W (hW : Ext (fun _ => False) w W) => rsign_any W _ o.val L (hval.keep hW) (by omega))
  have HV := Lib.hid (fun W (hW : Ext (fun _ => False) w W) => Valid_any W _ p (HP.out.1.keep hW))
  clear hv hr hpt hmu hra hval hs r1 r2 r3 r4 r5 r6 r7 r8 r9 h1
  generalize hpl : o.pt.length = pn at *
  generalize hml : o.mu.length = mn at *
  generalize hzl : o.ray.length = zn at *
  clear hpl hml hzl
  obtain ⟨kd, hkd⟩ : ∃ kd, o.kind = kd := ⟨_, rfl⟩
  have HK := Lib.hid hkd
  rw [hkd] at hk HP ⊢
  clear hkd
  obtain ⟨n, hn'⟩ : ∃ n, p.vars.length = n := ⟨_, rfl⟩
  have HN := Lib.hid hn'
  rw [hn'] at HP HV ⊢ hvn
  obtain ⟨m, hm'⟩ : ∃ m, p.rows.length = m := ⟨_, rfl⟩
  have HM := Lib.hid hm'
  rw [hm'] at HP HV ⊢ hrn
  clear hn' hm'
  go_enter Tryz.func19, Tryz.ntmps19
  have b0 : blk ((w.alloc (.cells #[.slice vo n vc, .slice ro m rc] 25)).alloc (.cells #[.int .i64 kd, .bool neg, .slice a1 m1 c1, .slice a2 m2 c2, .slice po pn pc, .slice mo mn mc, .slice zo zn zc] 34)) w.heap.size = some (.cells #[.slice vo n vc, .slice ro m rc] 25 (0, 0)) := (blk_alloc_past _ _ _ (by simp)).trans (blk_alloc_at _ _)
  have b1 := blk_alloc_at (w.alloc (.cells #[.slice vo n vc, .slice ro m rc] 25)) (.cells #[.int .i64 kd, .bool neg, .slice a1 m1 c1, .slice a2 m2 c2, .slice po pn pc, .slice mo mn mc, .slice zo zn zc] 34)
  rw [World.size_alloc] at b1
  have hx1 := ((Ext.refl (fun _ => False) w).alloc (.cells #[.slice vo n vc, .slice ro m rc] 25)).alloc (.cells #[.int .i64 kd, .bool neg, .slice a1 m1 c1, .slice a2 m2 c2, .slice po pn pc, .slice mo mn mc, .slice zo zn zc] 34)
  have HB := Lib.hid (And.intro b0 (And.intro b1 hx1))
  clear b0 b1 hx1
  go_upto_region 1 with fail
  generalize hw1 : (w.alloc (.cells #[.slice vo n vc, .slice ro m rc] 25)).alloc (.cells #[.int .i64 kd, .bool neg, .slice a1 m1 c1, .slice a2 m2 c2, .slice po pn pc, .slice mo mn mc, .slice zo zn zc] 34) = w1 at *
  clear hw1
  obtain ⟨pb, hpb⟩ : ∃ pb, w.heap.size = pb := ⟨_, rfl⟩
  rw [hpb] at HB ⊢
  clear hpb
  have z0 := cellq HB.out.1 0 rfl
  have z1 := cellq HB.out.1 1 rfl
  go_cut [5, 6] (fun v5 v6 wx => ∃ nb mb, v5 = .pointer (some ⟨nb, 0, none⟩) ∧ v6 = .pointer (some ⟨mb, 0, none⟩) ∧ blk wx nb = some (.cells #[.int .i64 (n : Int)] 3 (0, 0)) ∧ blk wx mb = some (.cells #[.int .i64 (m : Int)] 3 (0, 0)) ∧ Ext (fun _ => False) w1 wx)
  case first =>
    have hS : S2 pb pb 0 1 (.slice vo n vc) (.slice ro m rc) w1 := ⟨z0, z1⟩
    have hplt := blk_lt HB.out.1
    clear z0 z1
    refine wp_region_held_drew (S := (S2 pb pb 0 1 (.slice vo n vc) (.slice ro m rc))) (by kernel_rfl) (hS.drew) (fun hHeld => ?_)
    have hxd := (Ext.refl (fun _ => False) w1).drew
    generalize w1.drew = wd at *
    refine held_take 0 (v := ?_) rfl (by kernel_rfl) (by kernel_rfl) (by kernel_rfl) (fun _ _ _ h => h) (by rfl) ?_ (by assumption) ?_
    rotate_left
    · ((intro w hSw; (try dsimp only at hSw); go_simp) <;> with_reducible rfl)
    (try simp only [Act.put, List.setIfInBounds_toArray, List.set_cons_zero, List.set_cons_succ])
    refine held_take 1 (v := ?_) rfl (by kernel_rfl) (by kernel_rfl) (by kernel_rfl) (fun _ _ _ h => h) (by rfl) ?_ (by assumption) ?_
    rotate_left
    · ((intro w hSw; (try dsimp only at hSw); go_simp) <;> with_reducible rfl)
    (try simp only [Act.put, List.setIfInBounds_toArray, List.set_cons_zero, List.set_cons_succ])
    refine held_take 2 (v := ?_) rfl (by kernel_rfl) (by kernel_rfl) (by kernel_rfl) (fun _ _ _ h => h) (by rfl) ?_ (by assumption) ?_
    rotate_left
    · ((intro w hSw; (try dsimp only at hSw); go_simp) <;> with_reducible rfl)
    (try simp only [Act.put, List.setIfInBounds_toArray, List.set_cons_zero, List.set_cons_succ])
    refine held_take 3 (v := ?_) rfl (by kernel_rfl) (by kernel_rfl) (by kernel_rfl) (fun _ _ _ h => h) (by rfl) ?_ (by assumption) ?_
    rotate_left
    · ((intro w hSw; (try dsimp only at hSw); go_simp) <;> with_reducible rfl)
    (try simp only [Act.put, List.setIfInBounds_toArray, List.set_cons_zero, List.set_cons_succ])
    refine held_take 4 (v := ?_) rfl (by kernel_rfl) (by kernel_rfl) (by kernel_rfl) (fun _ _ _ h => h) (by rfl) ?_ (by assumption) ?_
    rotate_left
    · ((intro w hSw; (try dsimp only at hSw); go_simp) <;> with_reducible rfl)
    (try simp only [Act.put, List.setIfInBounds_toArray, List.set_cons_zero, List.set_cons_succ])
    refine held_take 5 (v := ?_) rfl (by kernel_rfl) (by kernel_rfl) (by kernel_rfl) (fun _ _ _ h => h) (by rfl) ?_ (by assumption) ?_
    rotate_left
    · ((intro w hSw; (try dsimp only at hSw); go_simp) <;> with_reducible rfl)
    (try simp only [Act.put, List.setIfInBounds_toArray, List.set_cons_zero, List.set_cons_succ])
    refine held_two 6 7 rfl rfl (by kernel_rfl) (fun K hK => ?_) (fun K hK => ?_)
    · go_simp
      obtain ⟨nb, hnb⟩ : ∃ nb, wd.heap.size = nb := ⟨_, rfl⟩
      have hbnb1 := blk_alloc_at wd (.cells #[.int .i64 0] 3)
      have hX1 := hxd.alloc (.cells #[.int .i64 0] 3)
      have hwnb : w1.heap.size ≤ nb := by have := hxd.size; omega
      have hpnb : ¬ pb = nb := by omega
      rw [hnb] at hbnb1 ⊢
      clear hnb
      generalize wd.alloc (.cells #[.int .i64 0] 3) = wa1 at *
      refine hK.out _ _ (hS.keep hX1) (fun hHeld => ?_)
      clear hK K
      (try simp only [Act.put, List.setIfInBounds_toArray, List.set_cons_zero, List.set_cons_succ])
      refine held_step 7 rfl (by kernel_rfl) (fun K hK => ?_)
      go_simp
      obtain ⟨mb, hmb⟩ : ∃ mb, wa1.heap.size = mb := ⟨_, rfl⟩
      have hbmb2 := blk_alloc_at wa1 (.cells #[.int .i64 0] 3)
      have hX2 := hX1.alloc (.cells #[.int .i64 0] 3)
      have hwmb : w1.heap.size ≤ mb := by have := hX1.size; omega
      have hpmb : ¬ pb = mb := by omega
      have hne : nb < mb := by have := blk_lt hbnb1; omega
      have hbnb2 := blk_keep hbnb1 ((Ext.refl (fun _ => False) wa1).alloc (.cells #[.int .i64 0] 3))
      rw [hmb] at hbmb2 ⊢
      clear hmb
      generalize wa1.alloc (.cells #[.int .i64 0] 3) = wa2 at *
      refine hK.out _ _ (hS.keep hX2) (fun hHeld => ?_)
      clear hK K
      (try simp only [Act.put, List.setIfInBounds_toArray, List.set_cons_zero, List.set_cons_succ])
      refine held_step 8 rfl (by kernel_rfl) (fun K hK => ?_)
      have fc8 := cellq hbnb2 0 rfl
      have ff8 := free_of_cells hbnb2 0
      go_simp
      have hbnb3 := blk_setCell_same hbnb2 0 (.int .i64 (n : Int))
      have hbmb3 := (blk_setCell_other wa2 ⟨nb, 0, none⟩ (.int .i64 (n : Int)) mb (by show mb ≠ nb; omega)).trans hbmb2
      have hX3 : Ext (fun _ => False) w1 (wa2.setCell ⟨nb, 0, none⟩ (.int .i64 (n : Int))) := hX2.setCell _ (fun h => absurd h (by show ¬ nb < w1.heap.size; omega))
      have hK3 : S2 pb pb 0 1 (.slice vo n vc) (.slice ro m rc) (wa2.setCell ⟨nb, 0, none⟩ (.int .i64 (n : Int))) := S2.set (hS.keep hX2) ⟨nb, 0, none⟩ _ hpnb hpnb
      generalize wa2.setCell ⟨nb, 0, none⟩ (.int .i64 (n : Int)) = wa3 at *
      refine hK.out _ _ (hK3) (fun hHeld => ?_)
      clear hK K
      (try simp only [Act.put, List.setIfInBounds_toArray, List.set_cons_zero, List.set_cons_succ])
      clear fc8 ff8
      refine held_step 9 rfl (by kernel_rfl) (fun K hK => ?_)
      have fc9 := cellq hbmb3 0 rfl
      have ff9 := free_of_cells hbmb3 0
      go_simp
      have hbmb4 := blk_setCell_same hbmb3 0 (.int .i64 (m : Int))
      have hbnb4 := (blk_setCell_other wa3 ⟨mb, 0, none⟩ (.int .i64 (m : Int)) nb (by show nb ≠ mb; omega)).trans hbnb3
      have hX4 : Ext (fun _ => False) w1 (wa3.setCell ⟨mb, 0, none⟩ (.int .i64 (m : Int))) := hX3.setCell _ (fun h => absurd h (by show ¬ mb < w1.heap.size; omega))
      have hK4 : S2 pb pb 0 1 (.slice vo n vc) (.slice ro m rc) (wa3.setCell ⟨mb, 0, none⟩ (.int .i64 (m : Int))) := S2.set hK3 ⟨mb, 0, none⟩ _ hpmb hpmb
      generalize wa3.setCell ⟨mb, 0, none⟩ (.int .i64 (m : Int)) = wa4 at *
      refine hK.out _ _ (hK4) (fun hHeld => ?_)
      clear hK K
      (try simp only [Act.put, List.setIfInBounds_toArray, List.set_cons_zero, List.set_cons_succ])
      clear fc9 ff9
      refine wpAnyH_done (by kernel_rfl) ?_ _
      clear hS hHeld
      go_wp2
      go_meet
      exact ⟨nb, mb, rfl, rfl, hbnb4, hbmb4, hX4⟩
    · go_simp
      obtain ⟨mb, hmb⟩ : ∃ mb, wd.heap.size = mb := ⟨_, rfl⟩
      have hbmb1 := blk_alloc_at wd (.cells #[.int .i64 0] 3)
      have hX1 := hxd.alloc (.cells #[.int .i64 0] 3)
      have hwmb : w1.heap.size ≤ mb := by have := hxd.size; omega
      have hpmb : ¬ pb = mb := by omega
      rw [hmb] at hbmb1 ⊢
      clear hmb
      generalize wd.alloc (.cells #[.int .i64 0] 3) = wa1 at *
      refine hK.out _ _ (hS.keep hX1) (fun hHeld => ?_)
      clear hK K
      (try simp only [Act.put, List.setIfInBounds_toArray, List.set_cons_zero, List.set_cons_succ])
      refine held_step 6 rfl (by kernel_rfl) (fun K hK => ?_)
      go_simp
      obtain ⟨nb, hnb⟩ : ∃ nb, wa1.heap.size = nb := ⟨_, rfl⟩
      have hbnb2 := blk_alloc_at wa1 (.cells #[.int .i64 0] 3)
      have hX2 := hX1.alloc (.cells #[.int .i64 0] 3)
      have hwnb : w1.heap.size ≤ nb := by have := hX1.size; omega
      have hpnb : ¬ pb = nb := by omega
      have hne : mb < nb := by have := blk_lt hbmb1; omega
      have hbmb2 := blk_keep hbmb1 ((Ext.refl (fun _ => False) wa1).alloc (.cells #[.int .i64 0] 3))
      rw [hnb] at hbnb2 ⊢
      clear hnb
      generalize wa1.alloc (.cells #[.int .i64 0] 3) = wa2 at *
      refine hK.out _ _ (hS.keep hX2) (fun hHeld => ?_)
      clear hK K
      (try simp only [Act.put, List.setIfInBounds_toArray, List.set_cons_zero, List.set_cons_succ])
      refine held_step 8 rfl (by kernel_rfl) (fun K hK => ?_)
      have fc8 := cellq hbnb2 0 rfl
      have ff8 := free_of_cells hbnb2 0
      go_simp
      have hbnb3 := blk_setCell_same hbnb2 0 (.int .i64 (n : Int))
      have hbmb3 := (blk_setCell_other wa2 ⟨nb, 0, none⟩ (.int .i64 (n : Int)) mb (by show mb ≠ nb; omega)).trans hbmb2
      have hX3 : Ext (fun _ => False) w1 (wa2.setCell ⟨nb, 0, none⟩ (.int .i64 (n : Int))) := hX2.setCell _ (fun h => absurd h (by show ¬ nb < w1.heap.size; omega))
      have hK3 : S2 pb pb 0 1 (.slice vo n vc) (.slice ro m rc) (wa2.setCell ⟨nb, 0, none⟩ (.int .i64 (n : Int))) := S2.set (hS.keep hX2) ⟨nb, 0, none⟩ _ hpnb hpnb
      generalize wa2.setCell ⟨nb, 0, none⟩ (.int .i64 (n : Int)) = wa3 at *
      refine hK.out _ _ (hK3) (fun hHeld => ?_)
      clear hK K
      (try simp only [Act.put, List.setIfInBounds_toArray, List.set_cons_zero, List.set_cons_succ])
      clear fc8 ff8
      refine held_step 9 rfl (by kernel_rfl) (fun K hK => ?_)
      have fc9 := cellq hbmb3 0 rfl
      have ff9 := free_of_cells hbmb3 0
      go_simp
      have hbmb4 := blk_setCell_same hbmb3 0 (.int .i64 (m : Int))
      have hbnb4 := (blk_setCell_other wa3 ⟨mb, 0, none⟩ (.int .i64 (m : Int)) nb (by show nb ≠ mb; omega)).trans hbnb3
      have hX4 : Ext (fun _ => False) w1 (wa3.setCell ⟨mb, 0, none⟩ (.int .i64 (m : Int))) := hX3.setCell _ (fun h => absurd h (by show ¬ mb < w1.heap.size; omega))
      have hK4 : S2 pb pb 0 1 (.slice vo n vc) (.slice ro m rc) (wa3.setCell ⟨mb, 0, none⟩ (.int .i64 (m : Int))) := S2.set hK3 ⟨mb, 0, none⟩ _ hpmb hpmb
      generalize wa3.setCell ⟨mb, 0, none⟩ (.int .i64 (m : Int)) = wa4 at *
      refine hK.out _ _ (hK4) (fun hHeld => ?_)
      clear hK K
      (try simp only [Act.put, List.setIfInBounds_toArray, List.set_cons_zero, List.set_cons_succ])
      clear fc9 ff9
      refine wpAnyH_done (by kernel_rfl) ?_ _
      clear hS hHeld
      go_wp2
      go_meet
      exact ⟨nb, mb, rfl, rfl, hbnb4, hbmb4, hX4⟩
  case rest =>
    clear z0 z1
    obtain ⟨nb, mb, rfl, rfl, hnb, hmb, hx2⟩ := hcut
    have HB2 := Lib.hid (And.intro (blk_keep HB.out.1 hx2) (And.intro (blk_keep HB.out.2.1 hx2) (And.intro hnb (And.intro hmb (HB.out.2.2.trans hx2)))))
    clear hnb hmb hx2 HB
    have y1 := cellq HB2.out.2.1 1 rfl
    have y2 := cellq HB2.out.2.1 2 rfl
    have y3 := cellq HB2.out.2.1 3 rfl
    go_wp2_with fail
    refine (HG.out wc HB2.out.2.2.2.2).mono ?_
    rintro r3 w3 ⟨rfl, hx3⟩
    have hb3 := blk_alloc_at w3 (.cells #[.bool (!decide (o.val = 0))] 4)
    have hxa := hx3.alloc (.cells #[.bool (!decide (o.val = 0))] 4)
    have HCt : Hid (∀ tb, w3.heap.size = tb → ∀ W, Ext (fun _ => False) (w3.alloc (.cells #[.bool (!decide (o.val = 0))] 4)) W → Caught W (pb + 1) pb nb mb tb p o L (.slice vo n vc) (.slice ro m rc) .nilFunc (.agg #[.int .i64 kd, .bool neg, .slice a1 m1 c1, .slice a2 m2 c2, .slice po pn pc, .slice mo mn mc, .slice zo zn zc])) := Lib.hid (fun tb htb W hW => by
      have hx := hxa.trans hW
      refine ⟨HP.out.1.keep (HB2.out.2.2.2.2.trans hx), HP.out.2.1.keep (HB2.out.2.2.2.2.trans hx), blk_keep HB2.out.1 hx, ⟨_, rfl, blk_keep HB2.out.2.1 hx⟩, ?_, ?_, by rw [← htb]; exact blk_keep hb3 hW⟩
      · rw [HN.out]; exact blk_keep HB2.out.2.2.1 hx
      · rw [HM.out]; exact blk_keep HB2.out.2.2.2.1 hx)
    have hsz := sign_zero o.val
    have HX3 := Lib.hid (HB2.out.2.2.2.2.trans hxa)
    have x0 := cell_keep (cellq HB2.out.2.1 0 rfl) hxa
    have q0 := cell_keep (cellq HB2.out.1 0 rfl) hxa
    have q1 := cell_keep (cellq HB2.out.1 1 rfl) hxa
    have hsg : (o.val.num.sign != 0) = !decide (o.val = 0) := by
      by_cases h : o.val = 0
      · rw [h]; rfl
      · have h2 : ¬ o.val.num.sign = 0 := fun e => h (hsz.1 e)
        rw [decide_eq_false h]; simpa using h2
    clear y1 y2 y3 hx3 hb3 hxa hsz
    go_upto_region 3 with fail
    obtain ⟨tb, htb⟩ : ∃ tb, w3.heap.size = tb := ⟨_, rfl⟩
    have HC := Lib.hid (HCt.out tb htb)
    have hw3 : w3.heap.size + 1 = (w3.alloc (.cells #[.bool (!decide (o.val = 0))] 4)).heap.size := by simp
    rw [htb] at hw3 ⊢
    clear HCt htb
    generalize w3.alloc (.cells #[.bool (!decide (o.val = 0))] 4) = w4 at *
    clear hsg hw3
    have hmm := @run_makeMap Tryz.prog
    obtain ⟨f1, hf1⟩ : ∃ f, (Value.func (.func 52) #[] #[.pointer (some ⟨pb + 1, 0, none⟩), .pointer (some ⟨nb, 0, none⟩), .pointer (some ⟨mb, 0, none⟩), .pointer (some ⟨pb, 0, none⟩)]) = f := ⟨_, rfl⟩
    obtain ⟨f2, hf2⟩ : ∃ f, (Value.func (.func 55) #[] #[.pointer (some ⟨tb, 0, none⟩), .pointer (some ⟨pb + 1, 0, none⟩), .pointer (some ⟨mb, 0, none⟩), .pointer (some ⟨pb, 0, none⟩)]) = f := ⟨_, rfl⟩
    obtain ⟨f3, hf3⟩ : ∃ f, (Value.func (.func 56) #[] #[.pointer (some ⟨tb, 0, none⟩), .pointer (some ⟨pb + 1, 0, none⟩), .pointer (some ⟨nb, 0, none⟩), .pointer (some ⟨pb, 0, none⟩)]) = f := ⟨_, rfl⟩
    obtain ⟨es1, cl1, hu1, hm1, hs1⟩ := run_update_int (P := Tryz.prog) (b := w4.heap.size) Tryz.underlying84 Tryz.underlying3 (show IntMap #[] [] from rfl) (stamped_empty 0) 0 f1
    obtain ⟨es2, cl2, hu2, hm2, hs2⟩ := run_update_int (P := Tryz.prog) (b := w4.heap.size) Tryz.underlying84 Tryz.underlying3 hm1 hs1 1 f2
    obtain ⟨es3, cl3, hu3, hm3, hs3⟩ := run_update_int (P := Tryz.prog) (b := w4.heap.size) Tryz.underlying84 Tryz.underlying3 hm2 hs2 2 f3
    have hb1 := blk_setBlock_same (blk_alloc_at w4 (.map #[] 0)) (.map es1 cl1)
    have hb2 := blk_setBlock_same hb1 (.map es2 cl2)
    have hb3 := blk_setBlock_same hb2 (.map es3 cl3)
    have hxm : Ext (fun _ => False) w4 (setBlock (setBlock (setBlock (w4.alloc (.map #[] 0)) w4.heap.size (.map es1 cl1)) w4.heap.size (.map es2 cl2)) w4.heap.size (.map es3 cl3)) :=
      ((((Ext.refl _ w4).alloc _).setBlock _ _ (fun h => absurd h (Nat.lt_irrefl _))).setBlock _ _ (fun h => absurd h (Nat.lt_irrefl _))).setBlock _ _ (fun h => absurd h (Nat.lt_irrefl _))
    have HU := Lib.hid (And.intro hu1 (And.intro hu2 hu3))
    have HBs := Lib.hid (And.intro hb1 (And.intro hb2 hb3))
    have HM3 := Lib.hid hm3
    have HXm := Lib.hid hxm
    clear hu1 hu2 hu3 hm1 hm2 hm3 hs1 hs2 hs3 hb1 hb2 hb3 hxm
    go_upto_region 4 with fail
    rw [HU.out.1 _ (blk_alloc_at w4 (.map #[] 0))]
    go_upto_region 4 with fail
    rw [HU.out.2.1 _ HBs.out.1]
    go_upto_region 4 with fail
    rw [HU.out.2.2 _ HBs.out.2.1]
    go_upto_region 4 with fail
    have HB5 := Lib.hid HBs.out.2.2
    generalize setBlock (setBlock (setBlock (w4.alloc (.map #[] 0)) w4.heap.size (.map es1 cl1)) w4.heap.size (.map es2 cl2)) w4.heap.size (.map es3 cl3) = w5 at *
    have hlk := fun s => run_lookup_int (P := Tryz.prog) Tryz.underlying84 Tryz.underlying3 HB5.out HM3.out (z := .nilFunc) (Tryz.zeroValue35 w5) s false
    generalize w4.heap.size = mk at *
    replace x0 := cell_keep x0 HXm.out
    replace q0 := cell_keep q0 HXm.out
    replace q1 := cell_keep q1 HXm.out
    have HX5 := Lib.hid (HX3.out.trans HXm.out)
    have HC5 := Lib.hid (fun W (hW : Ext (fun _ => False) w5 W) => HC.out W (HXm.out.trans hW))
    have HQ := Lib.hid (show checkE p o = if validB p && decide (0 ≤ kd) && decide (kd ≤ 2) then (if (if kd = 0 then chk1 p o else if kd = 1 then chk2 p o else chk3 p o) then 0 else 13) else 1 from (by unfold checkE chkB; rw [HK.out]))
    have HSm := Lib.hid HP.out.2.2
    clear HU HBs HM3 HXm HC HX3 HB5 hmm HP HB2 HG
    have hlv : (Instr.lookup 84 (.map (some mk)) (.int .i64 kd) false).run Tryz.prog w5 = .ok (if kd = 0 then f1 else if kd = 1 then f2 else if kd = 2 then f3 else .nilFunc) w5 := by
      rw [hlk kd]
      show Result.ok ((iget [(0, f1), (1, f2), (2, f3)] kd).getD .nilFunc) w5 = _
      congr 1
      unfold iget iget iget iget
      by_cases k0 : kd = 0
      · rw [if_pos k0, if_pos k0.symm]; rfl
      · rw [if_neg k0, if_neg (Ne.symm k0)]
        by_cases k1 : kd = 1
        · rw [if_pos k1, if_pos k1.symm]; rfl
        · rw [if_neg k1, if_neg (Ne.symm k1)]
          by_cases k2 : kd = 2
          · rw [if_pos k2, if_pos k2.symm]; rfl
          · rw [if_neg k2, if_neg (Ne.symm k2)]; rfl
    clear hlk
    have HVa := Lib.hid (HV.out w5 HX5.out)
    clear HV
    have hnil : ∀ W : World, (binOp BinOp.eql 35 .nilFunc .nilFunc).run Tryz.prog W = .ok (.bool true) W := fun _ => by kernel_rfl
    have hnn : ∀ (g : Nat) (caps : Array Value) (W : World), (binOp BinOp.eql 35 (.func (.func g) #[] caps) .nilFunc).run Tryz.prog W = .ok (.bool false) W := fun _ _ _ => by kernel_rfl
    have eg1 := enters_of Tryz.func52 (by kernel_rfl) rfl
    have eg2 := enters_of Tryz.func55 (by kernel_rfl) rfl
    have eg3 := enters_of Tryz.func56 (by kernel_rfl) rfl
    by_cases k0 : kd = 0
    · subst k0
      rw [if_pos rfl] at hlv
      subst hf1
      go_wp2_with fail
      refine HVa.out.mono ?_
      rintro r6 w6 ⟨rfl, hx6⟩
      have HX6 := Lib.hid hx6
      clear hx6 hlv x0 q0 q1
      cases hvb : validB p with
      | false =>
        rw [hvb] at HQ
        clear hvb
        go_wp2
        go_ret
        exact ⟨ret_int (by rw [HQ.out]; rfl), HX5.out.trans HX6.out⟩
      | true =>
        rw [hvb] at HQ
        clear hvb
        have H1 := Lib.hid (check1_any w6 _ _ _ _ _ p o L T _ _ _ _ (HC5.out w6 HX6.out) HSm.out)
        go_wp2_with fail
        refine H1.out.mono ?_
        rintro r7 w7 ⟨rfl, hx7⟩
        have HX7 := Lib.hid (HX6.out.trans hx7)
        clear hx7
        cases hc : chk1 p o with
        | true =>
          rw [hc] at HQ
          clear hc
          go_wp2
          go_ret
          exact ⟨ret_int (by rw [HQ.out]; rfl), HX5.out.trans HX7.out⟩
        | false =>
          rw [hc] at HQ
          clear hc
          go_wp2
          go_ret
          exact ⟨ret_int (by rw [HQ.out]; rfl), HX5.out.trans HX7.out⟩
    · by_cases k1 : kd = 1
      · subst k1
        rw [if_neg (by decide), if_pos rfl] at hlv
        subst hf2
        go_wp2_with fail
        refine HVa.out.mono ?_
        rintro r6 w6 ⟨rfl, hx6⟩
        have HX6 := Lib.hid hx6
        clear hx6 hlv x0 q0 q1
        cases hvb : validB p with
        | false =>
          rw [hvb] at HQ
          clear hvb
          go_wp2
          go_ret
          exact ⟨ret_int (by rw [HQ.out]; rfl), HX5.out.trans HX6.out⟩
        | true =>
          rw [hvb] at HQ
          clear hvb
          have H1 := Lib.hid (check2_any w6 _ _ _ _ _ p o L T _ _ _ _ (HC5.out w6 HX6.out) HSm.out)
          go_wp2_with fail
          refine H1.out.mono ?_
          rintro r7 w7 ⟨rfl, hx7⟩
          have HX7 := Lib.hid (HX6.out.trans hx7)
          clear hx7
          cases hc : chk2 p o with
          | true =>
            rw [hc] at HQ
            clear hc
            go_wp2
            go_ret
            exact ⟨ret_int (by rw [HQ.out]; rfl), HX5.out.trans HX7.out⟩
          | false =>
            rw [hc] at HQ
            clear hc
            go_wp2
            go_ret
            exact ⟨ret_int (by rw [HQ.out]; rfl), HX5.out.trans HX7.out⟩
      · by_cases k2 : kd = 2
        · subst k2
          rw [if_neg (by decide), if_neg (by decide), if_pos rfl] at hlv
          subst hf3
          go_wp2_with fail
          refine HVa.out.mono ?_
          rintro r6 w6 ⟨rfl, hx6⟩
          have HX6 := Lib.hid hx6
          clear hx6 hlv x0 q0 q1
          cases hvb : validB p with
          | false =>
            rw [hvb] at HQ
            clear hvb
            go_wp2
            go_ret
            exact ⟨ret_int (by rw [HQ.out]; rfl), HX5.out.trans HX6.out⟩
          | true =>
            rw [hvb] at HQ
            clear hvb
            have H1 := Lib.hid (check3_any w6 _ _ _ _ _ p o L T _ _ _ _ (HC5.out w6 HX6.out) HSm.out)
            go_wp2_with fail
            refine H1.out.mono ?_
            rintro r7 w7 ⟨rfl, hx7⟩
            have HX7 := Lib.hid (HX6.out.trans hx7)
            clear hx7
            cases hc : chk3 p o with
            | true =>
              rw [hc] at HQ
              clear hc
              go_wp2
              go_ret
              exact ⟨ret_int (by rw [HQ.out]; rfl), HX5.out.trans HX7.out⟩
            | false =>
              rw [hc] at HQ
              clear hc
              go_wp2
              go_ret
              exact ⟨ret_int (by rw [HQ.out]; rfl), HX5.out.trans HX7.out⟩
        · rw [if_neg k0, if_neg k1, if_neg k2] at hlv
          have HF : Hid (checkE p o = 1) := Lib.hid (by
            rw [HQ.out]
            have hb : (decide (0 ≤ kd) && decide (kd ≤ 2)) = false := by
              by_cases h : 0 ≤ kd
              · rw [decide_eq_false (p := (kd ≤ 2)) (by omega)]; simp
              · rw [decide_eq_false h]; rfl
            rw [Bool.and_assoc, hb]; simp)
          clear HQ k0 k1 k2
          go_wp2_with fail
          refine HVa.out.mono ?_
          rintro r6 w6 ⟨rfl, hx6⟩
          have HX6 := Lib.hid hx6
          clear hx6 hlv x0 q0 q1
          cases hvb : validB p with
          | false =>
            clear hvb
            go_wp2
            go_ret
            exact ⟨ret_int HF.out.symm, HX5.out.trans HX6.out⟩
          | true =>
            clear hvb
            go_wp2
            go_ret
            exact ⟨ret_int HF.out.symm, HX5.out.trans HX6.out⟩
end Go.Proofs.YtbgienfcmdgaaaaGreat
/-
  What is small: Few, Short of the references; small of the law's package. Conditions: the arguments read as lists of fractions, as programs.
-/
namespace Go.Proofs.YtbgienfcmdgaaaaGreat
open Go.RowKit Go.MapKept
open Go.ChangeMaps (setBlock)

/-- a fraction by its digits -/
structure RatV where
  neg : Bool
  mag : List Nat
  den : List Nat
def ratV0 : RatV := ⟨false, [], []⟩
def RatV.q (r : RatV) : Rat := mkRat (sg r.neg (vl r.mag)) (dn (vl r.den))
def IsRaw (w : World) (v : Value) (r : RatV) : Prop := ∃ mv dv', v = .agg #[.bool r.neg, mv, dv'] ∧ Rds w mv r.mag ∧ Rds w dv' r.den
theorem IsRaw.keep {w w' : World} {v : Value} {r : RatV} (h : IsRaw w v r) (hx : Ext (fun _ => False) w w') : IsRaw w' v r := by
  obtain ⟨mv, dv', e, h1, h2⟩ := h
  exact ⟨mv, dv', e, h1.keep hx, h2.keep hx⟩
theorem IsRaw.reads {w : World} {v : Value} {r : RatV} (h : IsRaw w v r) {L : Nat} (h1 : r.mag.length ≤ L) (h2 : r.den.length ≤ L) : Rrat w v r.q L := by
  obtain ⟨mv, dv', e, h3, h4⟩ := h
  exact ⟨r.neg, mv, dv', r.mag, r.den, e, h3, h1, h4, h2, rfl⟩
def Raws (w : World) (v : Value) (rs : List RatV) : Prop := ∃ cs : List (List Value), cs.length = rs.length ∧ Sl w v 3 cs ∧ ∀ (i : Nat) c r, cs[i]? = some c → rs[i]? = some r → IsRaw w (.agg c.toArray) r
theorem Raws.keep {w w' : World} {v : Value} {rs : List RatV} (h : Raws w v rs) (hx : Ext (fun _ => False) w w') : Raws w' v rs := by
  obtain ⟨cs, h1, h2, h3⟩ := h
  exact ⟨cs, h1, h2.keep hx, fun i c q hc hq => (h3 i c q hc hq).keep hx⟩
theorem Raws.nil (w : World) : Raws w (.slice none 0 0) [] := ⟨[], rfl, Sl.nil w 3, fun i c q hc => by simp at hc⟩
theorem Raws.shape {w : World} {v : Value} {rs : List RatV} (h : Raws w v rs) : ∃ ao c, v = .slice ao rs.length c ∧ (ao = none → c = 0) ∧ rs.length ≤ 9223372036854775807 ∧ rs.length ≤ c := by
  obtain ⟨cs, h0, h1, _⟩ := h
  obtain ⟨ao, c, h1, h2⟩ := h1.shape
  rw [h0] at h1 h2
  exact ⟨ao, c, h1, h2⟩
def fewR (d : Nat) (r : RatV) : Bool := decide (r.mag.length ≤ d) && decide (r.den.length ≤ d)
def fewL (d : Nat) (rs : List RatV) : Bool := rs.all (fewR d)
def valL (rs : List RatV) : List Rat := rs.map RatV.q
theorem Raws.rats {w : World} {v : Value} {rs : List RatV} (h : Raws w v rs) {L : Nat} (hf : fewL L rs = true) : Rats w v (valL rs) L := by
  obtain ⟨cs, h1, h2, h3⟩ := h
  refine ⟨cs, by unfold valL; rw [List.length_map, h1], h2, fun i c q hc hq => ?_⟩
  unfold valL at hq
  rw [List.getElem?_map] at hq
  obtain ⟨r, hr, rfl⟩ := Option.map_eq_some_iff.1 hq
  unfold fewL at hf
  have := List.all_eq_true.1 hf r (List.mem_of_getElem? hr)
  unfold fewR at this
  simp only [Bool.and_eq_true, decide_eq_true_eq] at this
  exact (h3 i c r hc hr).reads this.1 this.2
theorem Raws.at {w : World} {ao : Option Addr} {n c : Nat} {rs : List RatV} (h : Raws w (.slice ao n c) rs) (i : Nat) (hi : i < rs.length) : ∃ b off a1 m1 c1 a2 m2 c2, ao = some ⟨b, off, none⟩ ∧ b < w.heap.size ∧
    w.cell? ⟨b, off + i * 3, none⟩ = some (.bool (rs.getD i ratV0).neg) ∧ w.cell? ⟨b, off + i * 3 + 1, none⟩ = some (.slice a1 m1 c1) ∧ w.cell? ⟨b, off + i * 3 + 2, none⟩ = some (.slice a2 m2 c2) ∧ m1 = (rs.getD i ratV0).mag.length ∧ m2 = (rs.getD i ratV0).den.length ∧ IsRaw w (.agg #[.bool (rs.getD i ratV0).neg, .slice a1 m1 c1, .slice a2 m2 c2]) (rs.getD i ratV0) := by
  rw [getD_lt hi]
  obtain ⟨cs, h0, h1, h2⟩ := h
  have hi' : i < cs.length := by omega
  obtain ⟨b, off, g1, g2, g3⟩ := h1.at (i := i) (List.getElem?_eq_getElem hi')
  have k1 := h2 i _ _ (List.getElem?_eq_getElem hi') (List.getElem?_eq_getElem hi)
  obtain ⟨mv, dv', e, k2, k3⟩ := id k1
  obtain ⟨a1, c1, rfl⟩ : ∃ a c, mv = .slice a rs[i].mag.length c := by obtain ⟨_, a, c, e, _⟩ := k2; exact ⟨a, c, e⟩
  obtain ⟨a2, c2, rfl⟩ : ∃ a c, dv' = .slice a rs[i].den.length c := by obtain ⟨_, a, c, e, _⟩ := k3; exact ⟨a, c, e⟩
  rw [e] at k1
  have ec : cs[i] = [.bool rs[i].neg, .slice a1 rs[i].mag.length c1, .slice a2 rs[i].den.length c2] := by
    injection e with e
    have := congrArg Array.toList e
    simpa using this
  rw [ec] at g3
  exact ⟨b, off, a1, _, c1, a2, _, c2, g1, g2, g3 0 _ rfl, g3 1 _ rfl, g3 2 _ rfl, rfl, rfl, k1⟩
theorem Rds.len63 {w : World} {v : Value} {l : List Nat} (h : Rds w v l) : l.length ≤ 9223372036854775807 := by
  obtain ⟨_, _, c, _, h1, h2, _⟩ := h
  unfold maxLen at h2
  omega
set_option maxRecDepth 100000 in
set_option maxHeartbeats 4000000 in
theorem Few_any (w : World) (v : Value) (rs : List RatV) (d : Nat) (hd : d ≤ 1000000) (h : Raws w v rs) : Calls Tryz.prog 18 #[.int .i64 d, v] w (BoolPost w (fewL d rs)) := by
  obtain ⟨ao, c, rfl, -, hn, -⟩ := h.shape
  have HR := Lib.hid h
  obtain ⟨n, hn'⟩ : ∃ n, rs.length = n := ⟨_, rfl⟩
  have HN := Lib.hid hn'
  rw [hn'] at hn HR ⊢
  clear hn' h
  go_enter Tryz.func18, Tryz.ntmps18
  go_wp2_with fail
  go_loopg [5] n (fun gg v5 wr => ∃ i : Nat, i ≤ n ∧ gg = n - i ∧ v5 = .int .i64 i ∧ (rs.take i).all (fewR d) = true ∧ Ext (fun _ => False) w wr)
  case atStart => exact ⟨0, Nat.zero_le _, rfl, rfl, rfl, Ext.refl _ _⟩
  case round =>
    obtain ⟨i, hi, rfl, rfl, hall, hx⟩ := hrel
    have HX := Lib.hid (And.intro hall hx)
    clear hall hx
    by_cases hin : i < n
    · have i0 : (i : Int) < (n : Int) := by omega
      have i1 : (0 : Int) ≤ (i : Int) := by omega
      have HI : Hid (i < rs.length) := Lib.hid (by rw [HN.out]; exact hin)
      obtain ⟨b, off, a1, m1, c1, a2, m2, c2, rfl, -, e0, e1, e2, hm1, hm2, hraw⟩ := (HR.out.keep HX.out.2).at i HI.out
      have hl1 : m1 ≤ 9223372036854775807 := by
        obtain ⟨mv, dv', e, k2, k3⟩ := hraw
        rw [hm1]; exact k2.len63
      have hl2 : m2 ≤ 9223372036854775807 := by
        obtain ⟨mv, dv', e, k2, k3⟩ := hraw
        rw [hm2]; exact k3.len63
      have HF := Lib.hid (show fewR d (rs.getD i ratV0) = (decide (m1 ≤ d) && decide (m2 ≤ d)) from by unfold fewR; rw [hm1, hm2])
      clear hraw hm1 hm2
      generalize (rs.getD i ratV0).neg = ng at *
      by_cases q1 : d < m1
      · have q1' : (d : Int) < (m1 : Int) := by omega
        go_wp2
        go_ret
        exact ⟨ret_bool (all_fails (d := ratV0) HI.out (by rw [HF.out, decide_eq_false (p := m1 ≤ d) (by omega)]; rfl)).symm, HX.out.2⟩
      · have q1' : ¬ (d : Int) < (m1 : Int) := by omega
        by_cases q2 : d < m2
        · have q2' : (d : Int) < (m2 : Int) := by omega
          go_wp2
          go_ret
          exact ⟨ret_bool (all_fails (d := ratV0) HI.out (by rw [HF.out, decide_eq_false (p := m2 ≤ d) (by omega)]; simp)).symm, HX.out.2⟩
        · have q2' : ¬ (d : Int) < (m2 : Int) := by omega
          go_wp2
          go_roundg (n - (i + 1))
          case measure => omega
          case rel => exact ⟨i + 1, by omega, rfl, by go_num, all_next (d := ratV0) HI.out HX.out.1 (by rw [HF.out, decide_eq_true (p := m1 ≤ d) (by omega), decide_eq_true (p := m2 ≤ d) (by omega)]; rfl), HX.out.2⟩
    · obtain rfl : i = n := by omega
      have HT : Hid (fewL d rs = true) := Lib.hid (by
        have := HX.out.1
        rw [List.take_of_length_le (by rw [HN.out]; exact Nat.le_refl _)] at this
        exact this)
      go_wp2
      go_ret
      exact ⟨ret_bool HT.out.symm, HX.out.2⟩
def shortB (rs : List RatV) (k : Nat) : Bool := decide (rs.length ≤ k) && fewL 4 rs
set_option maxRecDepth 100000 in
theorem Short_any (w : World) (v : Value) (rs : List RatV) (k : Nat) (hk : k ≤ 1000000) (h : Raws w v rs) : Calls Tryz.prog 46 #[v, .int .i64 k] w (BoolPost w (shortB rs k)) := by
  obtain ⟨ao, c, rfl, -, hn, -⟩ := h.shape
  have HF := Lib.hid (Few_any w _ rs 4 (by omega) h)
  have HS := Lib.hid (show shortB rs k = (decide (rs.length ≤ k) && fewL 4 rs) from rfl)
  clear h
  generalize rs.length = n at *
  generalize fewL 4 rs = fb at *
  by_cases q : n ≤ k
  · have q' : (n : Int) ≤ (k : Int) := by omega
    go_enter Tryz.func46, Tryz.ntmps46
    go_wp2_with fail
    refine HF.out.mono ?_
    rintro r w' ⟨rfl, hx⟩
    have HX := Lib.hid hx
    clear hx
    go_wp2
    go_ret
    exact ⟨ret_bool (by rw [HS.out, decide_eq_true q]; rfl), HX.out⟩
  · have q' : ¬ (n : Int) ≤ (k : Int) := by omega
    go_enter Tryz.func46, Tryz.ntmps46
    go_wp2
    go_ret
    exact ⟨ret_bool (by rw [HS.out, decide_eq_false q]; rfl), Ext.refl _ w⟩
def fewRow (k : Nat) (r : RowV) : Bool := decide (r.terms.length ≤ 2 * k) && decide (r.name.size ≤ 100)
def fewP (p : ProgV) (k m : Nat) : Bool := p.rows.all (fewRow k) && decide (p.vars.length ≤ k) && decide (p.rows.length ≤ m)
set_option maxRecDepth 100000 in
set_option maxHeartbeats 4000000 in
theorem FewP_any (w : World) (pv : Value) (p : ProgV) (k m : Nat) (hk : k ≤ 1000000) (hm : m ≤ 1000000) (hp : IsPrg w pv p) : Calls Tryz.prog 39 #[pv, .int .i64 k, .int .i64 m] w (BoolPost w (fewP p k m)) := by
  obtain ⟨vv, rv, rfl, hv, hr⟩ := hp
  obtain ⟨vo, vc, rfl, -, hvn, -⟩ := hv.shape
  obtain ⟨ro, rc, rfl, -, hrn, -⟩ := hr.shape
  have HV := Lib.hid hr
  have HF := Lib.hid (show fewP p k m = (p.rows.all (fewRow k) && decide (p.vars.length ≤ k) && decide (p.rows.length ≤ m)) from rfl)
  clear hv hr
  generalize p.vars.length = vn at *
  obtain ⟨n, hn'⟩ : ∃ n, p.rows.length = n := ⟨_, rfl⟩
  have HN := Lib.hid hn'
  rw [hn'] at hrn HV HF ⊢
  clear hn'
  have HB := Lib.hid (And.intro (blk_alloc_at w (.cells #[.slice vo vn vc, .slice ro n rc] 25)) ((Ext.refl (fun _ => False) w).alloc (.cells #[.slice vo vn vc, .slice ro n rc] 25)))
  go_enter Tryz.func39, Tryz.ntmps39
  go_upto_region 1 with fail
  generalize hw1 : w.alloc (.cells #[.slice vo vn vc, .slice ro n rc] 25) = w1 at *
  clear hw1
  obtain ⟨pb, hpb⟩ : ∃ pb, w.heap.size = pb := ⟨_, rfl⟩
  rw [hpb] at HB ⊢
  clear hpb
  go_wp2_with fail
  go_loopg [7] n (fun gg v7 wr => ∃ i : Nat, i ≤ n ∧ gg = n - i ∧ v7 = .int .i64 i ∧ (p.rows.take i).all (fewRow k) = true ∧ Ext (fun _ => False) w1 wr)
  case atStart => exact ⟨0, Nat.zero_le _, rfl, rfl, rfl, Ext.refl _ _⟩
  case round =>
    obtain ⟨i, hi, rfl, rfl, hall, hx⟩ := hrel
    have HX := Lib.hid (And.intro hall hx)
    clear hall hx
    have z0 := cell_keep (cellq HB.out.1 0 rfl) HX.out.2
    have z1 := cell_keep (cellq HB.out.1 1 rfl) HX.out.2
    by_cases hin : i < n
    · have i0 : (i : Int) < (n : Int) := by omega
      have i1 : (0 : Int) ≤ (i : Int) := by omega
      have HI : Hid (i < p.rows.length) := Lib.hid (by rw [HN.out]; exact hin)
      obtain ⟨b, off, ta, tc, rfl, -, e0, e1, e2, e3, e4, hok, htm⟩ := (HV.out.keep (HB.out.2.trans HX.out.2)).atp i HI.out
      have hns : (p.r i).name.size ≤ 9223372036854775807 := by have := hok.name; unfold maxLen at this; omega
      obtain ⟨-, -, -, -, htn, -⟩ := htm.shape
      have HR := Lib.hid (show fewRow k (p.rows.getD i row0) = (decide ((p.r i).terms.length ≤ 2 * k) && decide ((p.r i).name.size ≤ 100)) from rfl)
      clear hok htm
      generalize (p.r i).terms.length = tl at *
      generalize (p.r i).name = nm at *
      obtain ⟨kk, hkk⟩ : ∃ kk, 2 * k = kk := ⟨_, rfl⟩
      have hk2 : (2 : Int) * (k : Int) = (kk : Int) := by omega
      rw [hkk] at HR
      have hkk63 : kk ≤ 9223372036854775807 := by omega
      clear hkk
      by_cases q1 : kk < tl
      · have q1' : (kk : Int) < (tl : Int) := by omega
        go_wp2
        go_ret
        exact ⟨ret_bool (by rw [HF.out, all_fails (d := row0) HI.out (by rw [HR.out, decide_eq_false (p := tl ≤ kk) (by omega)]; rfl)]; rfl), HB.out.2.trans HX.out.2⟩
      · have q1' : ¬ (kk : Int) < (tl : Int) := by omega
        by_cases q2 : 100 < nm.size
        · have q2' : (100 : Int) < (nm.size : Int) := by omega
          go_wp2
          go_ret
          exact ⟨ret_bool (by rw [HF.out, all_fails (d := row0) HI.out (by rw [HR.out, decide_eq_false (p := nm.size ≤ 100) (by omega)]; simp)]; rfl), HB.out.2.trans HX.out.2⟩
        · have q2' : ¬ (100 : Int) < (nm.size : Int) := by omega
          go_wp2
          go_roundg (n - (i + 1))
          case measure => omega
          case rel => exact ⟨i + 1, by omega, rfl, by go_num, all_next (d := row0) HI.out HX.out.1 (by rw [HR.out, decide_eq_true (p := tl ≤ kk) (by omega), decide_eq_true (p := nm.size ≤ 100) (by omega)]; rfl), HX.out.2⟩
    · obtain rfl : i = n := by omega
      have HF2 : Hid (fewP p k m = (decide (vn ≤ k) && decide (i ≤ m))) := Lib.hid (by
        have := HX.out.1
        rw [List.take_of_length_le (by rw [HN.out]; exact Nat.le_refl _)] at this
        rw [HF.out, this]; rfl)
      by_cases q1 : vn ≤ k
      · have q1' : (vn : Int) ≤ (k : Int) := by omega
        by_cases q2 : i ≤ m
        · have q2' : (i : Int) ≤ (m : Int) := by omega
          go_wp2
          go_ret
          exact ⟨ret_bool (by rw [HF2.out, decide_eq_true q1, decide_eq_true q2]; rfl), HB.out.2.trans HX.out.2⟩
        · have q2' : ¬ (i : Int) ≤ (m : Int) := by omega
          go_wp2
          go_ret
          exact ⟨ret_bool (by rw [HF2.out, decide_eq_true q1, decide_eq_false q2]; rfl), HB.out.2.trans HX.out.2⟩
      · have q1' : ¬ (vn : Int) ≤ (k : Int) := by omega
        go_wp2
        go_ret
        exact ⟨ret_bool (by rw [HF2.out, decide_eq_false q1]; rfl), HB.out.2.trans HX.out.2⟩
def smallB (p : ProgV) (ls : List (List RatV)) : Bool := ls.all (fun rs => shortB rs 10) && fewP p 6 8
set_option maxRecDepth 100000 in
set_option maxHeartbeats 4000000 in
theorem lsmall_any (w : World) (pv : Value) (p : ProgV) (ls : List (List RatV)) (vs : List Value) (b off c : Nat) (hp : IsPrg w pv p) (hl : vs.length = ls.length) (hls : ls.length ≤ 100) (hc : ∀ i v, vs[i]? = some v → w.cell? ⟨b, off + i, none⟩ = some v)
    (hr : ∀ (i : Nat) v rs, vs[i]? = some v → ls[i]? = some rs → Raws w v rs) :
    Calls Tryz.prog 17 #[pv, .slice (some ⟨b, off, none⟩) ls.length c] w (BoolPost w (smallB p ls)) := by
  have HP := Lib.hid (fun W (hW : Ext (fun _ => False) w W) => FewP_any W _ p 6 8 (by omega) (by omega) (hp.keep hW))
  obtain ⟨vv, rv, rfl, -, -⟩ := hp
  have HS := Lib.hid (fun W (hW : Ext (fun _ => False) w W) i v rs h1 h2 => Short_any W v rs 10 (by omega) ((hr i v rs h1 h2).keep hW))
  have HC := Lib.hid hc
  have HL := Lib.hid hl
  have HF := Lib.hid (show smallB p ls = (ls.all (fun rs => shortB rs 10) && fewP p 6 8) from rfl)
  clear hc hl hr
  obtain ⟨n, hn'⟩ : ∃ n, ls.length = n := ⟨_, rfl⟩
  have HN := Lib.hid hn'
  rw [hn'] at hls ⊢
  clear hn'
  have HB := Lib.hid (And.intro (blk_alloc_at w (.cells #[vv, rv] 25)) ((Ext.refl (fun _ => False) w).alloc (.cells #[vv, rv] 25)))
  go_enter Tryz.func17, Tryz.ntmps17
  go_upto_region 1 with fail
  generalize hw1 : w.alloc (.cells #[vv, rv] 25) = w1 at *
  clear hw1
  obtain ⟨pb, hpb⟩ : ∃ pb, w.heap.size = pb := ⟨_, rfl⟩
  rw [hpb] at HB ⊢
  clear hpb
  go_wp2_with fail
  go_loopg [9] n (fun gg v9 wr => ∃ i : Nat, i ≤ n ∧ gg = n - i ∧ v9 = .int .i64 i ∧ (ls.take i).all (fun rs => shortB rs 10) = true ∧ Ext (fun _ => False) w1 wr)
  case atStart => exact ⟨0, Nat.zero_le _, rfl, rfl, rfl, Ext.refl _ _⟩
  case round =>
    obtain ⟨i, hi, rfl, rfl, hall, hx⟩ := hrel
    have HX := Lib.hid (And.intro hall hx)
    clear hall hx
    by_cases hin : i < n
    · have i0 : (i : Int) < (n : Int) := by omega
      have i1 : (0 : Int) ≤ (i : Int) := by omega
      have HI : Hid (i < ls.length) := Lib.hid (by rw [HN.out]; exact hin)
      have HI2 : Hid (i < vs.length) := Lib.hid (by rw [HL.out]; exact HI.out)
      have e0 := cell_keep (HC.out i _ (List.getElem?_eq_getElem HI2.out)) (HB.out.2.trans HX.out.2)
      have HS1 := Lib.hid (HS.out wr (HB.out.2.trans HX.out.2) i _ _ (List.getElem?_eq_getElem HI2.out) (List.getElem?_eq_getElem HI.out))
      have HG := Lib.hid (getD_lt HI.out ([] : List RatV))
      rw [← HG.out] at HS1
      generalize vs[i]'HI2.out = v at *
      have HE := Lib.hid (show ∀ b, shortB (ls.getD i []) 10 = b → (fun rs => shortB rs 10) (ls.getD i []) = b from fun b h => h)
      generalize shortB (ls.getD i []) 10 = sb at *
      go_wp2_with fail
      refine HS1.out.mono ?_
      rintro r3 w3 ⟨rfl, hx3⟩
      have HX3 := Lib.hid (HX.out.2.trans hx3)
      clear hx3 e0
      cases sb with
      | false =>
        have HEf := Lib.hid (HE.out false rfl)
        clear HE
        go_wp2
        go_ret
        exact ⟨ret_bool (by rw [HF.out, all_fails (d := []) HI.out HEf.out]; rfl), HB.out.2.trans HX3.out⟩
      | true =>
        have HEf := Lib.hid (HE.out true rfl)
        clear HE
        go_wp2
        go_roundg (n - (i + 1))
        case measure => omega
        case rel => exact ⟨i + 1, by omega, rfl, by go_num, all_next (d := []) HI.out HX.out.1 HEf.out, HX3.out⟩
    · obtain rfl : i = n := by omega
      have HF2 : Hid (smallB p ls = fewP p 6 8) := Lib.hid (by
        have := HX.out.1
        rw [List.take_of_length_le (by rw [HN.out]; exact Nat.le_refl _)] at this
        rw [HF.out, this]; rfl)
      have z0 := cell_keep (cellq HB.out.1 0 rfl) HX.out.2
      have z1 := cell_keep (cellq HB.out.1 1 rfl) HX.out.2
      go_wp2_with fail
      refine (HP.out wr (HB.out.2.trans HX.out.2)).mono ?_
      rintro r3 w3 ⟨rfl, hx3⟩
      have HX3 := Lib.hid ((HB.out.2.trans HX.out.2).trans hx3)
      clear hx3 z0 z1
      go_wp2
      go_ret
      exact ⟨ret_bool HF2.out.symm, HX3.out⟩
end Go.Proofs.YtbgienfcmdgaaaaGreat
/-
  Rows of fractions that a call owns and that grow: append. Conditions: none beyond each lemma's own.
-/
namespace Go.Proofs.YtbgienfcmdgaaaaGreat
open Go.RowKit Go.MapKept
open Go.ChangeMaps (setBlock)

/-- cells that are no digits -/
def NoD (xs : List Value) : Prop := ∀ u ∈ xs, ∀ d, u ≠ .int .u32 d
theorem noDig_cells {w : World} {g : Nat} {cur : Array Value} {t : TypeId} {fr : Nat × Nat} (h : blk w g = some (.cells cur t fr)) (hn : NoD cur.toList) : NoDig w g := fun i d hc => by
  rw [cell_of_cells h] at hc
  exact hn _ (by rw [← Array.getElem?_toList] at hc; exact List.mem_of_getElem? hc) d rfl
theorem NoDig.cells {w : World} {g : Nat} {cur : Array Value} {t : TypeId} {fr : Nat × Nat} (hn : NoDig w g) (h : blk w g = some (.cells cur t fr)) : NoD cur.toList := fun u hu d e => by
  obtain ⟨i, hi, rfl⟩ := List.getElem_of_mem hu
  refine hn i d ?_
  rw [cell_of_cells h, ← Array.getElem?_toList, List.getElem?_eq_getElem hi, e]
theorem NoD.append {xs ys : List Value} (h : NoD xs) (k : NoD ys) : NoD (xs ++ ys) := fun u hu => (List.mem_append.1 hu).elim (h u) (k u)
theorem NoD.take {xs : List Value} (h : NoD xs) (n : Nat) : NoD (xs.take n) := fun u hu => h u (List.mem_of_mem_take hu)
theorem NoD.drop {xs : List Value} (h : NoD xs) (n : Nat) : NoD (xs.drop n) := fun u hu => h u (List.mem_of_mem_drop hu)
theorem noD_zero {z : Array Value} (h : NoD z.toList) (n : Nat) : NoD (Builtin.zeroCells z n).toList := fun u hu => by
  unfold Builtin.zeroCells at hu
  rw [Array.toList_map] at hu
  obtain ⟨i, hi, rfl⟩ := List.mem_map.1 hu
  have hi' : i < n * z.size := by simpa using hi
  have hz : 0 < z.size := Nat.pos_of_ne_zero (fun e => by rw [e] at hi'; simp at hi')
  have hm : i % z.size < z.size := Nat.mod_lt _ hz
  rw [getElem!_pos z _ hm]
  exact h _ (by rw [← Array.getElem_toList]; exact List.getElem_mem _)
section
variable {P : Program}
/-- what an append leaves holds no digits, where nothing that goes in is one -/
theorem append_noDig (w : World) (base : Nat) (t ty e : TypeId) (i : TypeInfo) (z : Value) (ht : P.underlying t = some (.slice e)) (hi : P.info? e = some i) (hz : i.zero = some z)
    (hzs : z.cells.size = i.size) (hzn : NoD z.cells.toList)
    (v : Value) (n : Nat) (xs : List Value) (hown : w.ownsRow base e i.size v n xs) (hnd : ∀ g, v.ownBlock = some g → NoDig w g) (hxs : NoD xs)
    (a : Addr) (m c : Nat) (news : List Value) (hl : news.length = m * i.size) (hnews : ∀ j u, news[j]? = some u → w.cell? (a.add j) = some u) (h1 : ∀ u ∈ news, u.oneCell' = true) (hnn : NoD news) (hm : 0 < m)
    (h63 : n + m ≤ maxLen) (hbytes : (n + m) * i.bytes ≤ 140737488355328) :
    ∀ v' w', (Builtin.append_ #[t, t] ty #[v, .slice (some a) m c]).run P w = .ok v' w' → ∀ g, v'.ownBlock = some g → NoDig w' g := by
  intro v' w' hrun g' hg'
  have hsmall : n + m ≤ 9223372036854775807 := by simp only [maxLen] at h63; omega
  rcases hown.2 with ⟨rfl, rfl⟩ | ⟨g, cap, cur, rfl, hbg, hg, hnc, hcm, hcs, htake⟩
  · have hr := run_append_nil (P := P) w t ty e i z ht hi hz a m c news hl hnews hm (by omega) (by have hb := hbytes; simp only [Nat.zero_add] at hb; omega)
    rw [hr] at hrun
    injection hrun with h2 h3
    subst h2 h3
    cases hg'
    refine noDig_cells (show blk (w.drew.alloc _) w.heap.size = some _ from blk_alloc_at w.drew _) ?_
    rw [Array.toList_append]
    exact (by simpa using hnn : NoD news.toArray.toList).append (noD_zero hzn _)
  · by_cases hroom : n + m ≤ cap
    · have hfit : n * i.size + news.length ≤ cur.size := by rw [hl, hcs, ← Nat.add_mul]; exact Nat.mul_le_mul_right _ hroom
      have hr := run_append_room (P := P) w t ty e i ht hi g n cap cur hg a m c news hl hnews h1 hroom hfit
      rw [hr] at hrun
      injection hrun with h2 h3
      subst h2 h3
      cases hg'
      have hc := (hnd g rfl).cells (show blk w g = some _ from hg)
      refine noDig_cells (show blk (w.setRow g _) g = some _ from setRow_heap w g cur _ e _ hg) ?_
      exact ((hc.take _).append hnn).append (hc.drop _)
    · have holds : ∀ j u, xs[j]? = some u → w.cell? ((⟨g, 0, none⟩ : Addr).add j) = some u := hown.cells (g := g) rfl
      have hr := run_append_grow (P := P) w t ty e i z ht hi hz ⟨g, 0, none⟩ n cap xs hown.1 holds a m c news hl hnews (by omega) (by omega) (growslice_fits (by omega) hbytes)
      rw [hr] at hrun
      injection hrun with h2 h3
      subst h2 h3
      cases hg'
      refine noDig_cells (show blk (w.drew.alloc _) w.heap.size = some _ from blk_alloc_at w.drew _) ?_
      rw [Array.toList_append, Array.toList_append]
      exact (hxs.append (by simpa using hnn : NoD news.toArray.toList)).append (noD_zero hzn _)
end
/-- the cells of a fraction -/
structure RatC where
  ng : Bool
  a1 : Option Addr
  m1 : Nat
  c1 : Nat
  a2 : Option Addr
  m2 : Nat
  c2 : Nat
def RatC.cells (x : RatC) : List Value := [.bool x.ng, .slice x.a1 x.m1 x.c1, .slice x.a2 x.m2 x.c2]
def RatC.v (x : RatC) : Value := .agg #[.bool x.ng, .slice x.a1 x.m1 x.c1, .slice x.a2 x.m2 x.c2]
theorem ratC_noD (x : RatC) : NoD x.cells := fun u hu d e => by
  subst e
  simp [RatC.cells] at hu
theorem ratC_one (x : RatC) : ∀ u ∈ x.cells, u.oneCell' = true := fun u hu => by
  simp [RatC.cells] at hu
  rcases hu with rfl | rfl | rfl <;> rfl
theorem ratsC_noD (cs : List RatC) : NoD (cs.flatMap RatC.cells) := fun u hu => by
  obtain ⟨x, hx, hu⟩ := List.mem_flatMap.1 hu
  exact ratC_noD x u hu
/-- a row of fractions of the call's own -/
def ROwn (w : World) (base : Nat) (v : Value) (l : List Rat) (L : Nat) : Prop :=
  ∃ cs : List RatC, cs.length = l.length ∧ w.ownsRow base 31 3 v l.length (cs.flatMap RatC.cells) ∧ (∀ g, v.ownBlock = some g → NoDig w g) ∧ ∀ (i : Nat) c q, cs[i]? = some c → l[i]? = some q → Rrat w c.v q L
theorem ROwn.nil (w : World) (base L : Nat) : ROwn w base (.slice none 0 0) [] L := ⟨[], rfl, World.ownsRow_nil w base _ 3, (fun g h => by cases h), (fun i c q h => by simp at h)⟩
theorem ROwn.shape {w : World} {base : Nat} {v : Value} {l : List Rat} {L : Nat} (h : ROwn w base v l L) : ∃ ao cap, v = .slice ao l.length cap := by
  obtain ⟨cs, _, h1, _⟩ := h
  exact ownsRow_shape h1
theorem ROwn.lt {w : World} {base : Nat} {v : Value} {l : List Rat} {L : Nat} (h : ROwn w base v l L) : ∀ g, v.ownBlock = some g → base ≤ g ∧ g < w.heap.size := by
  obtain ⟨cs, _, h1, _⟩ := h
  exact h1.lt
theorem ROwn.past {S : Nat → Prop} {w w' : World} {base : Nat} {v : Value} {l : List Rat} {L : Nat} (h : ROwn w base v l L) (hx : Ext S w w') (hn : ∀ g, v.ownBlock = some g → ¬ S g) (hr : ∀ u d, Rds w u d → Rds w' u d) : ROwn w' base v l L := by
  have hlt := h.lt
  obtain ⟨cs, h1, h2, h3, h4⟩ := h
  refine ⟨cs, h1, ownsRow_ext h2 hx hn, fun g hg i d hc => h3 g hg i d ?_, fun i c q hc hq => ?_⟩
  · rw [← hx.cell (p := ⟨g, i, none⟩) (hlt g hg).2 (hn g hg)]; exact hc
  · obtain ⟨n, m, d, l, k, g1, g2, g3, g4, g5⟩ := h4 i c q hc hq
    exact ⟨n, m, d, l, k, g1, hr _ _ g2, g3, hr _ _ g4, g5⟩
theorem ROwn.keep {w w' : World} {base : Nat} {v : Value} {l : List Rat} {L : Nat} (h : ROwn w base v l L) (hx : Ext (fun _ => False) w w') : ROwn w' base v l L := h.past hx (fun _ _ h => h) (fun _ _ hr => hr.keep hx)
theorem ROwn.rats {w : World} {base : Nat} {v : Value} {l : List Rat} {L : Nat} (h : ROwn w base v l L) : Rats w v l L := by
  obtain ⟨cs, h1, h2, h3, h4⟩ := h
  rcases h2.2 with ⟨rfl, h0⟩ | ⟨g, cap, cur, rfl, hb, hg, hnc, hcm, hcs, htake⟩
  · have hl := List.eq_nil_of_length_eq_zero h0
    subst hl
    exact Rats.nil w L
  · refine ⟨cs.map RatC.cells, by rw [List.length_map, h1], ⟨some ⟨g, 0, none⟩, cap, by rw [List.length_map, h1], by rw [List.length_map, h1]; exact hnc, hcm, (fun e => by cases e), fun hp => ⟨g, 0, rfl, (Array.getElem?_eq_some_iff.1 hg).1, fun i r hi j u hu => ?_⟩⟩, fun i c q hc hq => ?_⟩
    · rw [List.getElem?_map] at hi
      obtain ⟨x, hx, rfl⟩ := Option.map_eq_some_iff.1 hi
      have hil : i < cs.length := (List.getElem?_eq_some_iff.1 hx).1
      have hj : j < 3 := (List.getElem?_eq_some_iff.1 hu).1
      have hget := fm_get (f := RatC.cells) (m := 3) (fun _ => rfl) cs i hx j hj
      rw [← htake] at hget
      rw [Nat.zero_add, cell_of_cells (show blk w g = some _ from hg), ← Array.getElem?_toList, ← hu, ← hget, List.getElem?_take, if_pos (by
        have : i < l.length := by omega
        omega)]
    · rw [List.getElem?_map] at hc
      obtain ⟨x, hx, rfl⟩ := Option.map_eq_some_iff.1 hc
      exact h4 i x q hx hq
set_option maxRecDepth 100000 in
theorem run_append_rat (w : World) (base : Nat) (v : Value) (l : List Rat) (L : Nat) (x : RatC) (q : Rat) (ad : Addr) (c : Nat) (ty : TypeId) (h : ROwn w base v l L) (hq : Rrat w x.v q L) (hsrc : ∀ j u, x.cells[j]? = some u → w.cell? (ad.add j) = some u) (hl : l.length ≤ 1000000) (hbase : base ≤ w.heap.size) :
    ∃ v' w', (Builtin.append_ #[32, 32] ty #[v, .slice (some ad) 1 c]).run Tryz.prog w = .ok v' w' ∧ ROwn w' base v' (l ++ [q]) L ∧ Ext (fun k => v.ownBlock = some k) w w' ∧ (∀ u d, Rds w u d → Rds w' u d) := by
  obtain ⟨i0, hi, hz0, hz1, hz2⟩ := info_parts Tryz.infoRat
  obtain ⟨cs, h1, h2, h3, h4⟩ := h
  have h2' : w.ownsRow base 31 i0.size v l.length (cs.flatMap RatC.cells) := by rw [hz1]; exact h2
  have hsz : (Value.agg #[.bool false, .slice none 0 0, .slice none 0 0]).cells.size = i0.size := by rw [hz1]; rfl
  have hzn : NoD (Value.agg #[.bool false, .slice none 0 0, .slice none 0 0]).cells.toList := ratC_noD ⟨false, none, 0, 0, none, 0, 0⟩
  have hbt : (l.length + 1) * i0.bytes ≤ 140737488355328 := by rw [hz2]; omega
  have h63 : l.length + 1 ≤ maxLen := by unfold maxLen; omega
  obtain ⟨v', w', hr, g1, g2, _, g5⟩ := run_append_own_at (P := Tryz.prog) w base 32 ty 31 i0 _ i0.size i0.bytes Tryz.underlying32 hi hz0 rfl rfl hsz (by rw [hz1]; decide) v l.length _ h2' ad 1 c x.cells (by rw [hz1]; rfl) hsrc (ratC_one x) h63 hbt hbase
  have hx : Ext (fun k => v.ownBlock = some k) w w' := (Ext.refl (fun k => v.ownBlock = some k) w).grown g2 (fun k hk _ => hk)
  have hrd : ∀ u d, Rds w u d → Rds w' u d := fun u d hu => hu.past hx (fun k _ hk => h3 k hk)
  have hnd := append_noDig (P := Tryz.prog) w base 32 ty 31 i0 _ Tryz.underlying32 hi hz0 hsz hzn v l.length _ h2' h3 (ratsC_noD cs) ad 1 c x.cells (by rw [hz1]; rfl) hsrc (ratC_one x) (ratC_noD x) (by omega) h63 hbt v' w' hr
  refine ⟨v', w', hr, ⟨cs ++ [x], by rw [List.length_append, List.length_append, h1]; rfl, ?_, hnd, fun i c' q' hc' hq' => ?_⟩, hx, hrd⟩
  · rw [List.length_append, List.flatMap_append, List.flatMap_cons, List.flatMap_nil, List.append_nil]
    rw [hz1] at g1
    exact g1
  · have hkeep : ∀ {c : RatC} {q : Rat}, Rrat w c.v q L → Rrat w' c.v q L := fun hh => by
      obtain ⟨n, m, d, l, k, e1, e2, e3, e4, e5⟩ := hh
      exact ⟨n, m, d, l, k, e1, hrd _ _ e2, e3, hrd _ _ e4, e5⟩
    by_cases hi' : i < cs.length
    · rw [List.getElem?_append_left hi'] at hc'
      rw [List.getElem?_append_left (by omega)] at hq'
      exact hkeep (h4 i c' q' hc' hq')
    · rw [List.getElem?_append_right (by omega)] at hc' hq'
      have e : i - cs.length = 0 := by
        have := (List.getElem?_eq_some_iff.1 hc').1
        simp at this
        omega
      rw [e] at hc'
      rw [show i - l.length = 0 from by omega] at hq'
      cases hc'; cases hq'
      exact hkeep hq
theorem wpList_append_rat {w : World} {ops : Array Oper} {rest : List Oper} {o : Oper} {a : Act} {Q : Exit → Act → World → Prop} (hgd : o.guard = none) (s x : Operand)
    (ho : o.op = .call { callee := .builtin .append, args := #[s, x], argTypes := #[32, 32] })
    (base : Nat) (v : Value) (l : List Rat) (L : Nat) (hs : a.eval s = v) (hown : ROwn w base v l L) (e : RatC) (q : Rat) (hq : Rrat w e.v q L) (ad : Addr) (c : Nat) (hx : a.eval x = .slice (some ad) 1 c) (hsrc : ∀ j u, e.cells[j]? = some u → w.cell? (ad.add j) = some u) (hl : l.length ≤ 1000000) (hbase : base ≤ w.heap.size)
    (h : ∀ v' w', ROwn w' base v' (l ++ [q]) L → Ext (fun k => v.ownBlock = some k) w w' → (∀ u d, Rds w u d → Rds w' u d) → wpList Tryz.prog ops Q rest (a.put o.dst v') w') :
    wpList Tryz.prog ops Q (o :: rest) a w := by
  refine wpList_plain hgd fun K hK => ?_
  obtain ⟨v', w', hr, h2, h3, h5⟩ := run_append_rat w base v l L e q ad c o.type hown hq hsrc hl hbase
  unfold Oper.wp execOp
  simp only [ho, resolve, invoke, builtin, Sem.run_bind, Sem.run_pure, Result.andThen_ok, List.map_toArray, List.map_cons, List.map_nil, hs, hx, hr]
  exact hK _ _ (h v' w' h2 h3 h5)
theorem step_append_rat {w : World} {ops : Array Oper} {o : Oper} {a : Act} {K : Act → World → Prop} {Q : Exit → Act → World → Prop} {E : Prop} (hgd : o.guard = none) (s x : Operand)
    (ho : o.op = .call { callee := .builtin .append, args := #[s, x], argTypes := #[32, 32] })
    (base : Nat) (v : Value) (l : List Rat) (L : Nat) (hs : a.eval s = v) (hown : ROwn w base v l L) (e : RatC) (q : Rat) (hq : Rrat w e.v q L) (ad : Addr) (c : Nat) (hx : a.eval x = .slice (some ad) 1 c) (hsrc : ∀ j u, e.cells[j]? = some u → w.cell? (ad.add j) = some u) (hl : l.length ≤ 1000000) (hbase : base ≤ w.heap.size)
    (h : ∀ v' w', ROwn w' base v' (l ++ [q]) L → Ext (fun k => v.ownBlock = some k) w w' → (∀ u d, Rds w u d → Rds w' u d) → K (a.put o.dst v') w') :
    if Region.wanted o (yielded ops a.tmps) = true then Oper.wp Tryz.prog o a w K Q else E := by
  have hw : Region.wanted o (yielded ops a.tmps) = true := by simp [Region.wanted, hgd]
  rw [if_pos hw]
  obtain ⟨v', w', hr, h2, h3, h5⟩ := run_append_rat w base v l L e q ad c o.type hown hq hsrc hl hbase
  unfold Oper.wp execOp
  simp only [ho, resolve, invoke, builtin, Sem.run_bind, Sem.run_pure, Result.andThen_ok, List.map_toArray, List.map_cons, List.map_nil, hs, hx, hr]
  exact h v' w' h2 h3 h5
end Go.Proofs.YtbgienfcmdgaaaaGreat
/-
  The reference's times, Dot, Cost, Point. Conditions: the arguments read as programs, terms, points.
-/
namespace Go.Proofs.YtbgienfcmdgaaaaGreat
open Go.RowKit Go.MapKept
open Go.ChangeMaps (setBlock)

set_option maxRecDepth 100000 in
set_option maxHeartbeats 4000000 in
theorem times_any (w : World) (k : Int) (v : Value) (q : Rat) (L : Nat) (hk : InR k) (h : Rrat w v q L) (hL : L ≤ 1000000) : Calls Tryz.prog 71 #[.int .i64 k, v] w (RatPost w ((k : Rat) * q)) := by
  obtain ⟨ng, a1, m1, c1, a2, m2, c2, rfl⟩ := h.shape
  have HF := Lib.hid (fun W => Rrfrom_any W k hk.1 hk.2)
  have hx := ((Ext.refl (fun _ => False) w).alloc (.cells #[.bool ng, .slice a1 m1 c1, .slice a2 m2 c2] 31)).alloc (.cells #[.bool false, .slice none 0 0, .slice none 0 0] 31)
  have hb0 := (boxR_new (W := w) rfl ng a1 m1 c1 a2 m2 c2).alloc (.cells #[.bool false, .slice none 0 0, .slice none 0 0] 31)
  have hb1 := boxR_new (W := w.alloc (.cells #[.bool ng, .slice a1 m1 c1, .slice a2 m2 c2] 31)) rfl false none 0 0 none 0 0
  rw [World.size_alloc] at hb1
  have HM := Lib.hid (fun W u (hW : Ext (fun _ => False) ((w.alloc (.cells #[.bool ng, .slice a1 m1 c1, .slice a2 m2 c2] 31)).alloc (.cells #[.bool false, .slice none 0 0, .slice none 0 0] 31)) W) (hu : IsRat W u (k : Rat)) => Rrmul_any W u _ _ q (L + 2) (hu.reads ((Sz.int hk).mono (by omega))) ((h.keep (hx.trans hW)).mono (by omega)) (by omega) (by omega))
  have HB := Lib.hid (And.intro hb1 hx)
  clear h hk
  obtain ⟨Q, hQ⟩ : ∃ Q, (k : Rat) * q = Q := ⟨_, rfl⟩
  rw [hQ] at HM ⊢
  clear hQ
  generalize (k : Rat) = kq at *
  go_enter Tryz.func71, Tryz.ntmps71
  go_upto_region 1 with fail
  generalize hw1 : (w.alloc (.cells #[.bool ng, .slice a1 m1 c1, .slice a2 m2 c2] 31)).alloc (.cells #[.bool false, .slice none 0 0, .slice none 0 0] 31) = w1 at *
  clear hw1 hb1 hx
  obtain ⟨xb, hxb⟩ : ∃ xb, w.heap.size = xb := ⟨_, rfl⟩
  have hxw : w.heap.size ≤ xb := Nat.le_of_eq hxb
  rw [hxb] at HB hb0 ⊢
  clear hxb
  obtain ⟨f0, f1, f2, -⟩ := hb0.facts
  have hS : S3 xb xb xb 0 1 2 (.bool ng) (.slice a1 m1 c1) (.slice a2 m2 c2) w1 := ⟨f0, f1, f2⟩
  clear f0 f1 f2 hb0
  refine ends_begin 4 (S3 xb xb xb 0 1 2 (.bool ng) (.slice a1 m1 c1) (.slice a2 m2 c2)) (by kernel_rfl) (hS.drew) (fun hHeld => ?_)
  refine ends_take 0 (v := ?_) rfl (by kernel_rfl) (by kernel_rfl) (by kernel_rfl) (by kernel_rfl) (fun _ _ _ h => h) (by rfl) ?_ (by assumption) ?_
  rotate_left
  · ((intro w hSw; (try dsimp only at hSw); go_simp) <;> with_reducible rfl)
  (try simp only [Act.put, List.setIfInBounds_toArray, List.set_cons_zero, List.set_cons_succ])
  refine ends_take 2 (v := ?_) rfl (by kernel_rfl) (by kernel_rfl) (by kernel_rfl) (by kernel_rfl) (fun _ _ _ h => h) (by rfl) ?_ (by assumption) ?_
  rotate_left
  · ((intro w hSw; (try dsimp only at hSw); go_simp) <;> with_reducible rfl)
  (try simp only [Act.put, List.setIfInBounds_toArray, List.set_cons_zero, List.set_cons_succ])
  refine ends_step 1 rfl (by kernel_rfl) (fun K hK => ?_)
  (go_simp; go_at_call 32; (with_reducible refine (HF.out _).mono ?_); rintro q1 w11 ⟨v11, rfl, h11, hx11⟩; have hX1 := (Ext.refl (fun _ => False) w1).drew.trans hx11; have hK1 := hS.keep hX1; have hM := HM.out w11 _ hX1 h11; obtain ⟨n11, a11, l11, c11, a11', l11', c11', rfl⟩ := h11.shape)
  refine hK.out _ _ (hK1) (fun hHeld => ?_)
  clear hK K
  (try simp only [Act.put, List.setIfInBounds_toArray, List.set_cons_zero, List.set_cons_succ])
  refine ends_step 3 rfl (by kernel_rfl) (fun K hK => ?_)
  (go_simp; go_at_call 31; (with_reducible refine hM.mono ?_); rintro q2 w12 ⟨v12, rfl, h12, hx12⟩; have hX2 := hX1.trans hx12; have hK2 := hS.keep hX2; obtain ⟨n12, a12, l12, c12, a12', l12', c12', rfl⟩ := h12.shape; have hbr := HB.out.1.keep hX2)
  refine hK.out _ _ (hK2) (fun hHeld => ?_)
  clear hK K
  (try simp only [Act.put, List.setIfInBounds_toArray, List.set_cons_zero, List.set_cons_succ])
  obtain ⟨d0, d1, d2, d3, d4, d5⟩ := hbr.facts
  refine ends_last rfl (by kernel_rfl) (fun K hK => ?_)
  go_simp
  refine hK.out _ _ ?_
  clear hK K
  (try simp only [Act.put, List.setIfInBounds_toArray, List.set_cons_zero, List.set_cons_succ])
  refine ends_done (by kernel_rfl) ?_ _
  have HP := Lib.hid (rat_put (w := w) hbr (by omega) (HB.out.2.trans hX2) h12)
  clear hX1 hX2 hK1 hK2 h11 h12 hx11 hx12 hM hS hbr d0 d1 d2 d3 d4 d5 hHeld HF HM
  go_wp2
  generalize ((w12.setCell ⟨xb + 1, 0, none⟩ (.bool n12)).setCell ⟨xb + 1, 1, none⟩ (.slice a12 l12 c12)).setCell ⟨xb + 1, 2, none⟩ (.slice a12' l12' c12') = w9 at *
  obtain ⟨g0, g1, g2, _⟩ := HP.out.1.facts
  exact bodyPost_ret (v := .agg #[.bool n12, .slice a12 l12 c12, .slice a12' l12' c12']) (by simp [results, Tryz.results71, go_sem, g0, g1, g2]) rfl HP.out.2
set_option maxRecDepth 100000 in
set_option maxHeartbeats 8000000 in
theorem Dot4_any (w : World) (tv xv : Value) (ts : List TermV) (x : List Rat) (L : Nat) (hv : Tms w tv ts) (hl : Rats w xv x L) (h1 : 1 ≤ L) (hL : 1 + ts.length * (L + 3) + (L + 3) ≤ 1000000) :
    Calls Tryz.prog 110 #[tv, xv] w (RatPost w (dotQ ts x)) := by
  obtain ⟨vo, vc, rfl, -, hn, -⟩ := hv.shape
  have HT := Lib.hid (And.intro hv hl)
  have hbr := (boxR_new (W := w) rfl false none 0 0 none 0 0).alloc (.cells #[.bool false, .slice none 0 0, .slice none 0 0] 31)
  have hbs := boxR_new (W := w.alloc (.cells #[.bool false, .slice none 0 0, .slice none 0 0] 31)) rfl false none 0 0 none 0 0
  rw [World.size_alloc] at hbs
  have HB := Lib.hid (And.intro hbr (And.intro hbs (((Ext.refl (fun _ => False) w).alloc (.cells #[.bool false, .slice none 0 0, .slice none 0 0] 31)).alloc (.cells #[.bool false, .slice none 0 0, .slice none 0 0] 31))))
  have Hsz := Lib.hid (fun i hi => sum_size (f := fun k => (ts.getD k term0).coef) (g := fun k => atQ x (ts.getD k term0).var) (L := L) (n := ts.length) (fun k hk => (hv.ok k hk).coef) (fun k _ => hl.sz h1 _) i hi)
  have Hx := Lib.hid (fun i : Int => hl.sz h1 i)
  have HA0 := Lib.hid (fun W (hW : Ext (fun _ => False) w W) (i : Int) => At_any W _ x L (hl.keep hW) i)
  clear hv hl hbr hbs
  unfold dotQ
  obtain ⟨n, hn'⟩ : ∃ n, ts.length = n := ⟨_, rfl⟩
  have HN := Lib.hid hn'
  rw [hn'] at hn hL HT Hsz ⊢
  clear hn'
  go_enter Tryz.func110, Tryz.ntmps110
  go_upto_region 2 with fail
  generalize hw1 : (w.alloc (.cells #[.bool false, .slice none 0 0, .slice none 0 0] 31)).alloc (.cells #[.bool false, .slice none 0 0, .slice none 0 0] 31) = w1 at *
  clear hw1
  obtain ⟨rb, hrb0⟩ : ∃ rb, w.heap.size = rb := ⟨_, rfl⟩
  have hrw : w.heap.size ≤ rb := Nat.le_of_eq hrb0
  rw [hrb0] at HB ⊢
  clear hrb0
  obtain ⟨sb, hsb0⟩ : ∃ sb, rb + 1 = sb := ⟨_, rfl⟩
  have hsr : rb < sb := by omega
  rw [hsb0] at HB ⊢
  clear hsb0
  go_wp2_with fail
  go_loopg [6] n (fun gg v6 wr => ∃ i : Nat, i ≤ n ∧ gg = n - i ∧ v6 = .int .i64 i ∧ (∃ sn s1 sm1 sc1 s2 sm2 sc2, BoxR wr sb sn (.slice s1 sm1 sc1) (.slice s2 sm2 sc2) ∧ IsRat wr (.agg #[.bool sn, .slice s1 sm1 sc1, .slice s2 sm2 sc2]) (sumTo i fun k => ((ts.getD k term0).coef : Rat) * atQ x (ts.getD k term0).var)) ∧ BoxR wr rb false (.slice none 0 0) (.slice none 0 0) ∧ Ext (fun _ => False) w wr)
  case atStart => exact ⟨0, Nat.zero_le _, rfl, rfl, ⟨_, _, _, _, _, _, _, HB.out.2.1, IsRat.zero _⟩, HB.out.1, HB.out.2.2⟩
  case round =>
    obtain ⟨i, hi, rfl, rfl, hst, hrb, hx⟩ := hrel
    by_cases hin : i < n
    · have i0 : (i : Int) < (n : Int) := by omega
      have i1 : (0 : Int) ≤ (i : Int) := by omega
      obtain ⟨sn, s1, sm1, sc1, s2, sm2, sc2, hsb, hsq⟩ := hst
      obtain ⟨b, off, rfl, -, e0, e1, hok⟩ := (HT.out.1.keep hx).at i (by rw [HN.out]; exact hin)
      have hszi := Hsz.out i hi
      have hle := Nat.mul_le_mul_right (L + 3) hi
      have HStep := Lib.hid (show sumTo (i + 1) (fun k => ((ts.getD k term0).coef : Rat) * atQ x (ts.getD k term0).var) = sumTo i (fun k => ((ts.getD k term0).coef : Rat) * atQ x (ts.getD k term0).var) + ((ts.getD i term0).coef : Rat) * atQ x (ts.getD i term0).var from rfl)
      have HAt := Lib.hid (fun W (hW : Ext (fun _ => False) w W) => HA0.out W hW (ts.getD i term0).var)
      have HTm := Lib.hid (fun W u (hu : Rrat W u (atQ x (ts.getD i term0).var) L) => times_any W (ts.getD i term0).coef u _ L hok.coef hu (by omega))
      have hpr := (Sz.int hok.coef).mul (Hx.out (ts.getD i term0).var)
      have HAd := Lib.hid (fun W u (hW : Ext (fun _ => False) wr W) (hu : IsRat W u (((ts.getD i term0).coef : Rat) * atQ x (ts.getD i term0).var)) => Rradd_any W _ u _ _ 1000000 ((hsq.keep hW).reads (hszi.mono (by omega))) (hu.reads (hpr.mono (by omega))) (by omega) (by omega))
      rw [← HStep.out] at HAd
      obtain ⟨t0, t1, t2, -⟩ := hsb.facts
      have hS : S5 sb sb sb b b 0 1 2 (off + i * 2) (off + i * 2 + 1) (.bool sn) (.slice s1 sm1 sc1) (.slice s2 sm2 sc2) (.int .i64 (ts.getD i term0).var) (.int .i64 (ts.getD i term0).coef) wr := ⟨t0, t1, t2, e0, e1⟩
      have HSB := Lib.hid (And.intro hsb hrb)
      have hx6 := hx
      clear hsb hrb hsq hx e0 e1 t0 t1 t2 hok hszi hpr hle HStep
      generalize (((ts.getD i term0).coef : Int) : Rat) * atQ x (ts.getD i term0).var = PR at *
      generalize atQ x (ts.getD i term0).var = AQ at *
      generalize (ts.getD i term0).var = tvr at *
      generalize (ts.getD i term0).coef = co at *
      go_upto_region 5 with fail
      refine ends_begin 15 (S5 sb sb sb b b 0 1 2 (off + i * 2) (off + i * 2 + 1) (.bool sn) (.slice s1 sm1 sc1) (.slice s2 sm2 sc2) (.int .i64 tvr) (.int .i64 co)) (by kernel_rfl) (hS.drew) (fun hHeld => ?_)
      refine ends_take 0 (v := ?_) rfl (by kernel_rfl) (by kernel_rfl) (by kernel_rfl) (by kernel_rfl) (fun _ _ _ h => h) (by rfl) ?_ (by assumption) ?_
      rotate_left
      · ((intro w hSw; (try dsimp only at hSw); go_simp) <;> with_reducible rfl)
      (try simp only [Act.put, List.setIfInBounds_toArray, List.set_cons_zero, List.set_cons_succ])
      refine ends_take 1 (v := ?_) rfl (by kernel_rfl) (by kernel_rfl) (by kernel_rfl) (by kernel_rfl) (fun _ _ _ h => h) (by rfl) ?_ (by assumption) ?_
      rotate_left
      · ((intro w hSw; (try dsimp only at hSw); go_simp) <;> with_reducible rfl)
      (try simp only [Act.put, List.setIfInBounds_toArray, List.set_cons_zero, List.set_cons_succ])
      refine ends_take 2 (v := ?_) rfl (by kernel_rfl) (by kernel_rfl) (by kernel_rfl) (by kernel_rfl) (fun _ _ _ h => h) (by rfl) ?_ (by assumption) ?_
      rotate_left
      · ((intro w hSw; (try dsimp only at hSw); go_simp) <;> with_reducible rfl)
      (try simp only [Act.put, List.setIfInBounds_toArray, List.set_cons_zero, List.set_cons_succ])
      refine ends_take 3 (v := ?_) rfl (by kernel_rfl) (by kernel_rfl) (by kernel_rfl) (by kernel_rfl) (fun _ _ _ h => h) (by rfl) ?_ (by assumption) ?_
      rotate_left
      · ((intro w hSw; (try dsimp only at hSw); go_simp) <;> with_reducible rfl)
      (try simp only [Act.put, List.setIfInBounds_toArray, List.set_cons_zero, List.set_cons_succ])
      refine ends_take 4 (v := ?_) rfl (by kernel_rfl) (by kernel_rfl) (by kernel_rfl) (by kernel_rfl) (fun _ _ _ h => h) (by rfl) ?_ (by assumption) ?_
      rotate_left
      · ((intro w hSw; (try dsimp only at hSw); go_simp) <;> with_reducible rfl)
      (try simp only [Act.put, List.setIfInBounds_toArray, List.set_cons_zero, List.set_cons_succ])
      refine ends_take 5 (v := ?_) rfl (by kernel_rfl) (by kernel_rfl) (by kernel_rfl) (by kernel_rfl) (fun _ _ _ h => h) (by rfl) ?_ (by assumption) ?_
      rotate_left
      · ((intro w hSw; (try dsimp only at hSw); go_simp) <;> with_reducible rfl)
      (try simp only [Act.put, List.setIfInBounds_toArray, List.set_cons_zero, List.set_cons_succ])
      refine ends_take 6 (v := ?_) rfl (by kernel_rfl) (by kernel_rfl) (by kernel_rfl) (by kernel_rfl) (fun _ _ _ h => h) (by rfl) ?_ (by assumption) ?_
      rotate_left
      · ((intro w hSw; (try dsimp only at hSw); go_simp) <;> with_reducible rfl)
      (try simp only [Act.put, List.setIfInBounds_toArray, List.set_cons_zero, List.set_cons_succ])
      refine ends_take 7 (v := ?_) rfl (by kernel_rfl) (by kernel_rfl) (by kernel_rfl) (by kernel_rfl) (fun _ _ _ h => h) (by rfl) ?_ (by assumption) ?_
      rotate_left
      · ((intro w hSw; (try dsimp only at hSw); go_simp) <;> with_reducible rfl)
      (try simp only [Act.put, List.setIfInBounds_toArray, List.set_cons_zero, List.set_cons_succ])
      refine ends_take 8 (v := ?_) rfl (by kernel_rfl) (by kernel_rfl) (by kernel_rfl) (by kernel_rfl) (fun _ _ _ h => h) (by rfl) ?_ (by assumption) ?_
      rotate_left
      · ((intro w hSw; (try dsimp only at hSw); go_simp) <;> with_reducible rfl)
      (try simp only [Act.put, List.setIfInBounds_toArray, List.set_cons_zero, List.set_cons_succ])
      refine ends_take 9 (v := ?_) rfl (by kernel_rfl) (by kernel_rfl) (by kernel_rfl) (by kernel_rfl) (fun _ _ _ h => h) (by rfl) ?_ (by assumption) ?_
      rotate_left
      · ((intro w hSw; (try dsimp only at hSw); go_simp) <;> with_reducible rfl)
      (try simp only [Act.put, List.setIfInBounds_toArray, List.set_cons_zero, List.set_cons_succ])
      refine ends_take 10 (v := ?_) rfl (by kernel_rfl) (by kernel_rfl) (by kernel_rfl) (by kernel_rfl) (fun _ _ _ h => h) (by rfl) ?_ (by assumption) ?_
      rotate_left
      · ((intro w hSw; (try dsimp only at hSw); go_simp) <;> with_reducible rfl)
      (try simp only [Act.put, List.setIfInBounds_toArray, List.set_cons_zero, List.set_cons_succ])
      refine ends_take 11 (v := ?_) rfl (by kernel_rfl) (by kernel_rfl) (by kernel_rfl) (by kernel_rfl) (fun _ _ _ h => h) (by rfl) ?_ (by assumption) ?_
      rotate_left
      · ((intro w hSw; (try dsimp only at hSw); go_simp) <;> with_reducible rfl)
      (try simp only [Act.put, List.setIfInBounds_toArray, List.set_cons_zero, List.set_cons_succ])
      refine ends_step 12 rfl (by kernel_rfl) (fun K hK => ?_)
      (go_simp; go_at_call 30; (with_reducible refine (HAt.out _ (hx6.drew)).mono ?_); rintro q1 w11 ⟨v11, rfl, h11, hx11⟩; have hX1 := (Ext.refl (fun _ => False) wr).drew.trans hx11; have hK1 := hS.keep hX1; have hT := HTm.out w11 _ h11; obtain ⟨n11, a11, l11, c11, a11', l11', c11', rfl⟩ := h11.shape)
      refine hK.out _ _ (hK1) (fun hHeld => ?_)
      clear hK K
      (try simp only [Act.put, List.setIfInBounds_toArray, List.set_cons_zero, List.set_cons_succ])
      refine ends_step 13 rfl (by kernel_rfl) (fun K hK => ?_)
      (go_simp; go_at_call 71; (with_reducible refine hT.mono ?_); rintro q2 w12 ⟨v12, rfl, h12, hx12⟩; have hX2 := hX1.trans hx12; have hK2 := hS.keep hX2; have hA := HAd.out w12 _ hX2 h12; obtain ⟨n12, a12, l12, c12, a12', l12', c12', rfl⟩ := h12.shape)
      refine hK.out _ _ (hK2) (fun hHeld => ?_)
      clear hK K
      (try simp only [Act.put, List.setIfInBounds_toArray, List.set_cons_zero, List.set_cons_succ])
      refine ends_step 14 rfl (by kernel_rfl) (fun K hK => ?_)
      (go_simp; go_at_call 29; (with_reducible refine hA.mono ?_); rintro q3 w13 ⟨v13, rfl, h13, hx13⟩; have hX3 := hX2.trans hx13; have hK3 := hS.keep hX3; obtain ⟨n13, a13, l13, c13, a13', l13', c13', rfl⟩ := h13.shape; have hbr := HSB.out.1.keep hX3)
      refine hK.out _ _ (hK3) (fun hHeld => ?_)
      clear hK K
      (try simp only [Act.put, List.setIfInBounds_toArray, List.set_cons_zero, List.set_cons_succ])
      obtain ⟨d0, d1, d2, d3, d4, d5⟩ := hbr.facts
      refine ends_last rfl (by kernel_rfl) (fun K hK => ?_)
      go_simp
      refine hK.out _ _ ?_
      clear hK K
      (try simp only [Act.put, List.setIfInBounds_toArray, List.set_cons_zero, List.set_cons_succ])
      refine ends_done (by kernel_rfl) ?_ _
      have HX := Lib.hid (hx6.trans hX3)
      have hp := hbr.put (neg := n13) (no_int a13 l13 c13) (no_int a13' l13' c13')
      have HP := Lib.hid (And.intro hp.box (And.intro (hp.rat h13) (And.intro (HX.out.own hp.ext (fun k e => by omega)) ((HSB.out.2.keep hX3).ext hp.ext (fun e => by omega)))))
      clear hp hbr hX1 hX2 hX3 hK1 hK2 hK3 h11 h12 h13 hx11 hx12 hx13 hT hA hS hHeld d0 d1 d2 d3 d4 d5 HAd HTm HSB
      generalize ((w13.setCell ⟨sb, 0, none⟩ (.bool n13)).setCell ⟨sb, 1, none⟩ (.slice a13 l13 c13)).setCell ⟨sb, 2, none⟩ (.slice a13' l13' c13') = w9 at *
      go_wp2
      go_roundg (n - (i + 1))
      case measure => omega
      case rel => exact ⟨i + 1, by omega, rfl, by go_num, ⟨_, _, _, _, _, _, _, HP.out.1, HP.out.2.1⟩, HP.out.2.2.2, HP.out.2.2.1⟩
    · obtain rfl : i = n := by omega
      obtain ⟨sn, s1, sm1, sc1, s2, sm2, sc2, hsb, hsq⟩ := hst
      obtain ⟨e0, e1, e2, _⟩ := hsb.facts
      obtain ⟨d0, d1, d2, d3, d4, d5⟩ := hrb.facts
      have hp := hrb.put (neg := sn) (no_int s1 sm1 sc1) (no_int s2 sm2 sc2)
      have HR := Lib.hid (And.intro (hp.rat hsq) (And.intro (hx.own hp.ext (fun k e => by omega)) hp.box))
      clear hp hsb hsq hrb hx
      go_wp2
      generalize ((wr.setCell ⟨rb, 0, none⟩ (.bool sn)).setCell ⟨rb, 1, none⟩ (.slice s1 sm1 sc1)).setCell ⟨rb, 2, none⟩ (.slice s2 sm2 sc2) = w9 at *
      obtain ⟨g0, g1, g2, _⟩ := HR.out.2.2.facts
      exact bodyPost_ret (v := .agg #[.bool sn, .slice s1 sm1 sc1, .slice s2 sm2 sc2]) (by simp [results, Tryz.results110, go_sem, g0, g1, g2]) rfl ⟨_, rfl, HR.out.1, HR.out.2.1⟩
set_option maxRecDepth 100000 in
set_option maxHeartbeats 8000000 in
theorem Cost4_any (w : World) (pv xv : Value) (p : ProgV) (x : List Rat) (L : Nat) (hp : IsPrg w pv p) (hl : Rats w xv x L) (h1 : 1 ≤ L) (hL : 1 + p.vars.length * (L + 3) + (L + 3) ≤ 1000000) :
    Calls Tryz.prog 26 #[pv, xv] w (RatPost w (costQ p x)) := by
  obtain ⟨vv, rv, rfl, hv, -⟩ := hp
  obtain ⟨vo, vc, rfl, -, hn, -⟩ := hv.shape
  have HT := Lib.hid (And.intro hv hl)
  have Hsz := Lib.hid (fun i hi => sum_size (f := fun k => (p.v k).co) (g := fun k => atQ x k) (L := L) (n := p.vars.length) (fun k hk => (hv.ok k hk).co) (fun k _ => hl.sz h1 _) i hi)
  have Hx := Lib.hid (fun i : Int => hl.sz h1 i)
  have HA0 := Lib.hid (fun W (hW : Ext (fun _ => False) w W) (i : Int) => At_any W _ x L (hl.keep hW) i)
  clear hv hl
  unfold costQ
  obtain ⟨n, hn'⟩ : ∃ n, p.vars.length = n := ⟨_, rfl⟩
  have HN := Lib.hid hn'
  rw [hn'] at hn hL HT Hsz ⊢
  clear hn'
  obtain ⟨b0, b1, b2, hx⟩ := box3 w (.cells #[.slice vo n vc, rv] 25) (.cells #[.bool false, .slice none 0 0, .slice none 0 0] 31) (.cells #[.bool false, .slice none 0 0, .slice none 0 0] 31)
  have HB := Lib.hid (And.intro b0 (And.intro (boxR_of b1) (And.intro (boxR_of b2) hx)))
  clear b0 b1 b2 hx
  go_enter Tryz.func26, Tryz.ntmps26
  go_upto_region 2 with fail
  generalize hw1 : ((w.alloc (.cells #[.slice vo n vc, rv] 25)).alloc (.cells #[.bool false, .slice none 0 0, .slice none 0 0] 31)).alloc (.cells #[.bool false, .slice none 0 0, .slice none 0 0] 31) = w1 at *
  clear hw1
  obtain ⟨pb, hpb0⟩ : ∃ pb, w.heap.size = pb := ⟨_, rfl⟩
  have hpw : w.heap.size ≤ pb := Nat.le_of_eq hpb0
  rw [hpb0] at HB ⊢
  clear hpb0
  obtain ⟨rb, hrb0⟩ : ∃ rb, pb + 1 = rb := ⟨_, rfl⟩
  obtain ⟨sb, hsb0⟩ : ∃ sb, rb + 1 = sb := ⟨_, rfl⟩
  have hpr0 : pb < rb := by omega
  have hsr : rb < sb := by omega
  rw [hrb0, hsb0] at HB ⊢
  clear hsb0 hrb0
  have z0 := cellq HB.out.1 0 rfl
  go_wp2_with fail
  go_loopg [6] n (fun gg v6 wr => ∃ i : Nat, i ≤ n ∧ gg = n - i ∧ v6 = .int .i64 i ∧ (∃ sn s1 sm1 sc1 s2 sm2 sc2, BoxR wr sb sn (.slice s1 sm1 sc1) (.slice s2 sm2 sc2) ∧ IsRat wr (.agg #[.bool sn, .slice s1 sm1 sc1, .slice s2 sm2 sc2]) (sumTo i fun k => ((p.v k).co : Rat) * atQ x k)) ∧ (BoxR wr rb false (.slice none 0 0) (.slice none 0 0) ∧ wr.cell? ⟨pb, 0, none⟩ = some (.slice vo n vc)) ∧ Ext (fun _ => False) w wr)
  case atStart => exact ⟨0, Nat.zero_le _, rfl, rfl, ⟨_, _, _, _, _, _, _, HB.out.2.2.1, IsRat.zero _⟩, ⟨HB.out.2.1, z0⟩, HB.out.2.2.2⟩
  case round =>
    clear z0
    obtain ⟨i, hi, rfl, rfl, hst, ⟨hrb, z0⟩, hx⟩ := hrel
    by_cases hin : i < n
    · have i0 : (i : Int) < (n : Int) := by omega
      have i1 : (0 : Int) ≤ (i : Int) := by omega
      obtain ⟨sn, s1, sm1, sc1, s2, sm2, sc2, hsb, hsq⟩ := hst
      obtain ⟨b, off, rfl, -, -, -, -, -, e4, hok⟩ := (HT.out.1.keep hx).atp i (by rw [HN.out]; exact hin)
      have hszi := Hsz.out i hi
      have hle := Nat.mul_le_mul_right (L + 3) hi
      have HStep := Lib.hid (show sumTo (i + 1) (fun k => ((p.v k).co : Rat) * atQ x k) = sumTo i (fun k => ((p.v k).co : Rat) * atQ x k) + ((p.v i).co : Rat) * atQ x i from rfl)
      have HAt := Lib.hid (fun W (hW : Ext (fun _ => False) w W) => HA0.out W hW i)
      have HTm := Lib.hid (fun W u (hu : Rrat W u (atQ x i) L) => times_any W (p.v i).co u _ L hok.co hu (by omega))
      have hpr := (Sz.int hok.co).mul (Hx.out i)
      have HAd := Lib.hid (fun W u (hW : Ext (fun _ => False) wr W) (hu : IsRat W u (((p.v i).co : Rat) * atQ x i)) => Rradd_any W _ u _ _ 1000000 ((hsq.keep hW).reads (hszi.mono (by omega))) (hu.reads (hpr.mono (by omega))) (by omega) (by omega))
      rw [← HStep.out] at HAd
      obtain ⟨t0, t1, t2, -⟩ := hsb.facts
      have hS : S5 sb sb sb pb b 0 1 2 0 (off + i * 5 + 4) (.bool sn) (.slice s1 sm1 sc1) (.slice s2 sm2 sc2) (.slice (some ⟨b, off, none⟩) n vc) (.int .i64 (p.v i).co) wr := ⟨t0, t1, t2, z0, e4⟩
      have HSB := Lib.hid (And.intro hsb hrb)
      have hx6 := hx
      clear hsb hrb hsq hx e4 t0 t1 t2 z0 hok hszi hpr hle HStep
      generalize (((p.v i).co : Int) : Rat) * atQ x i = PR at *
      generalize atQ x i = AQ at *
      generalize (p.v i).co = co at *
      go_upto_region 5 with fail
      refine ends_begin 12 (S5 sb sb sb pb b 0 1 2 0 (off + i * 5 + 4) (.bool sn) (.slice s1 sm1 sc1) (.slice s2 sm2 sc2) (.slice (some ⟨b, off, none⟩) n vc) (.int .i64 co)) (by kernel_rfl) (hS.drew) (fun hHeld => ?_)
      refine ends_take 0 (v := ?_) rfl (by kernel_rfl) (by kernel_rfl) (by kernel_rfl) (by kernel_rfl) (fun _ _ _ h => h) (by rfl) ?_ (by assumption) ?_
      rotate_left
      · ((intro w hSw; (try dsimp only at hSw); go_simp) <;> with_reducible rfl)
      (try simp only [Act.put, List.setIfInBounds_toArray, List.set_cons_zero, List.set_cons_succ])
      refine ends_take 1 (v := ?_) rfl (by kernel_rfl) (by kernel_rfl) (by kernel_rfl) (by kernel_rfl) (fun _ _ _ h => h) (by rfl) ?_ (by assumption) ?_
      rotate_left
      · ((intro w hSw; (try dsimp only at hSw); go_simp) <;> with_reducible rfl)
      (try simp only [Act.put, List.setIfInBounds_toArray, List.set_cons_zero, List.set_cons_succ])
      refine ends_take 2 (v := ?_) rfl (by kernel_rfl) (by kernel_rfl) (by kernel_rfl) (by kernel_rfl) (fun _ _ _ h => h) (by rfl) ?_ (by assumption) ?_
      rotate_left
      · ((intro w hSw; (try dsimp only at hSw); go_simp) <;> with_reducible rfl)
      (try simp only [Act.put, List.setIfInBounds_toArray, List.set_cons_zero, List.set_cons_succ])
      refine ends_take 3 (v := ?_) rfl (by kernel_rfl) (by kernel_rfl) (by kernel_rfl) (by kernel_rfl) (fun _ _ _ h => h) (by rfl) ?_ (by assumption) ?_
      rotate_left
      · ((intro w hSw; (try dsimp only at hSw); go_simp) <;> with_reducible rfl)
      (try simp only [Act.put, List.setIfInBounds_toArray, List.set_cons_zero, List.set_cons_succ])
      refine ends_take 4 (v := ?_) rfl (by kernel_rfl) (by kernel_rfl) (by kernel_rfl) (by kernel_rfl) (fun _ _ _ h => h) (by rfl) ?_ (by assumption) ?_
      rotate_left
      · ((intro w hSw; (try dsimp only at hSw); go_simp) <;> with_reducible rfl)
      (try simp only [Act.put, List.setIfInBounds_toArray, List.set_cons_zero, List.set_cons_succ])
      refine ends_take 5 (v := ?_) rfl (by kernel_rfl) (by kernel_rfl) (by kernel_rfl) (by kernel_rfl) (fun _ _ _ h => h) (by rfl) ?_ (by assumption) ?_
      rotate_left
      · ((intro w hSw; (try dsimp only at hSw); go_simp) <;> with_reducible rfl)
      (try simp only [Act.put, List.setIfInBounds_toArray, List.set_cons_zero, List.set_cons_succ])
      refine ends_take 6 (v := ?_) rfl (by kernel_rfl) (by kernel_rfl) (by kernel_rfl) (by kernel_rfl) (fun _ _ _ h => h) (by rfl) ?_ (by assumption) ?_
      rotate_left
      · ((intro w hSw; (try dsimp only at hSw); go_simp) <;> with_reducible rfl)
      (try simp only [Act.put, List.setIfInBounds_toArray, List.set_cons_zero, List.set_cons_succ])
      refine ends_take 7 (v := ?_) rfl (by kernel_rfl) (by kernel_rfl) (by kernel_rfl) (by kernel_rfl) (fun _ _ _ h => h) (by rfl) ?_ (by assumption) ?_
      rotate_left
      · ((intro w hSw; (try dsimp only at hSw); go_simp) <;> with_reducible rfl)
      (try simp only [Act.put, List.setIfInBounds_toArray, List.set_cons_zero, List.set_cons_succ])
      refine ends_take 8 (v := ?_) rfl (by kernel_rfl) (by kernel_rfl) (by kernel_rfl) (by kernel_rfl) (fun _ _ _ h => h) (by rfl) ?_ (by assumption) ?_
      rotate_left
      · ((intro w hSw; (try dsimp only at hSw); go_simp) <;> with_reducible rfl)
      (try simp only [Act.put, List.setIfInBounds_toArray, List.set_cons_zero, List.set_cons_succ])
      refine ends_step 9 rfl (by kernel_rfl) (fun K hK => ?_)
      (go_simp; go_at_call 30; (with_reducible refine (HAt.out _ (hx6.drew)).mono ?_); rintro q1 w11 ⟨v11, rfl, h11, hx11⟩; have hX1 := (Ext.refl (fun _ => False) wr).drew.trans hx11; have hK1 := hS.keep hX1; have hT := HTm.out w11 _ h11; obtain ⟨n11, a11, l11, c11, a11', l11', c11', rfl⟩ := h11.shape)
      refine hK.out _ _ (hK1) (fun hHeld => ?_)
      clear hK K
      (try simp only [Act.put, List.setIfInBounds_toArray, List.set_cons_zero, List.set_cons_succ])
      refine ends_step 10 rfl (by kernel_rfl) (fun K hK => ?_)
      (go_simp; go_at_call 71; (with_reducible refine hT.mono ?_); rintro q2 w12 ⟨v12, rfl, h12, hx12⟩; have hX2 := hX1.trans hx12; have hK2 := hS.keep hX2; have hA := HAd.out w12 _ hX2 h12; obtain ⟨n12, a12, l12, c12, a12', l12', c12', rfl⟩ := h12.shape)
      refine hK.out _ _ (hK2) (fun hHeld => ?_)
      clear hK K
      (try simp only [Act.put, List.setIfInBounds_toArray, List.set_cons_zero, List.set_cons_succ])
      refine ends_step 11 rfl (by kernel_rfl) (fun K hK => ?_)
      (go_simp; go_at_call 29; (with_reducible refine hA.mono ?_); rintro q3 w13 ⟨v13, rfl, h13, hx13⟩; have hX3 := hX2.trans hx13; have hK3 := hS.keep hX3; obtain ⟨n13, a13, l13, c13, a13', l13', c13', rfl⟩ := h13.shape; have hbr := HSB.out.1.keep hX3)
      refine hK.out _ _ (hK3) (fun hHeld => ?_)
      clear hK K
      (try simp only [Act.put, List.setIfInBounds_toArray, List.set_cons_zero, List.set_cons_succ])
      obtain ⟨d0, d1, d2, d3, d4, d5⟩ := hbr.facts
      refine ends_last rfl (by kernel_rfl) (fun K hK => ?_)
      go_simp
      refine hK.out _ _ ?_
      clear hK K
      (try simp only [Act.put, List.setIfInBounds_toArray, List.set_cons_zero, List.set_cons_succ])
      refine ends_done (by kernel_rfl) ?_ _
      have HX := Lib.hid (hx6.trans hX3)
      have hp := hbr.put (neg := n13) (no_int a13 l13 c13) (no_int a13' l13' c13')
      have HP := Lib.hid (And.intro hp.box (And.intro (hp.rat h13) (And.intro (HX.out.own hp.ext (fun k e => by omega)) ((HSB.out.2.keep hX3).ext hp.ext (fun e => by omega)))))
      have np : ¬ pb = sb := by omega
      have HPc : Hid ((((w13.setCell ⟨sb, 0, none⟩ (.bool n13)).setCell ⟨sb, 1, none⟩ (.slice a13 l13 c13)).setCell ⟨sb, 2, none⟩ (.slice a13' l13' c13')).cell? ⟨pb, 0, none⟩ = some (.slice (some ⟨b, off, none⟩) n vc)) := Lib.hid (cell_other (cell_other (cell_other hK3.2.2.2.1 np) np) np)
      clear hp hbr hX1 hX2 hX3 hK1 hK2 hK3 h11 h12 h13 hx11 hx12 hx13 hT hA hS hHeld d0 d1 d2 d3 d4 d5 HAd HTm HSB
      generalize ((w13.setCell ⟨sb, 0, none⟩ (.bool n13)).setCell ⟨sb, 1, none⟩ (.slice a13 l13 c13)).setCell ⟨sb, 2, none⟩ (.slice a13' l13' c13') = w9 at *
      go_wp2
      go_roundg (n - (i + 1))
      case measure => omega
      case rel => exact ⟨i + 1, by omega, rfl, by go_num, ⟨_, _, _, _, _, _, _, HP.out.1, HP.out.2.1⟩, ⟨HP.out.2.2.2, HPc.out⟩, HP.out.2.2.1⟩
    · obtain rfl : i = n := by omega
      obtain ⟨sn, s1, sm1, sc1, s2, sm2, sc2, hsb, hsq⟩ := hst
      obtain ⟨e0, e1, e2, _⟩ := hsb.facts
      obtain ⟨d0, d1, d2, d3, d4, d5⟩ := hrb.facts
      have hp := hrb.put (neg := sn) (no_int s1 sm1 sc1) (no_int s2 sm2 sc2)
      have HR := Lib.hid (And.intro (hp.rat hsq) (And.intro (hx.own hp.ext (fun k e => by omega)) hp.box))
      clear hp hsb hsq hrb hx
      go_wp2
      generalize ((wr.setCell ⟨rb, 0, none⟩ (.bool sn)).setCell ⟨rb, 1, none⟩ (.slice s1 sm1 sc1)).setCell ⟨rb, 2, none⟩ (.slice s2 sm2 sc2) = w9 at *
      obtain ⟨g0, g1, g2, _⟩ := HR.out.2.2.facts
      exact bodyPost_ret (v := .agg #[.bool sn, .slice s1 sm1 sc1, .slice s2 sm2 sc2]) (by simp [results, Tryz.results26, go_sem, g0, g1, g2]) rfl ⟨_, rfl, HR.out.1, HR.out.2.1⟩

end Go.Proofs.YtbgienfcmdgaaaaGreat
