/-
  NamesSafe: the walk. Conditions: the arguments' cells are as given.
-/
import Derived.Test.YtgmopnbejjfbjaaS6b
import Derived.Deep.CutBlock
import Derived.Deep.LoopGhost
import Derived.Deep.DeepCutAuto
import Derived.Deep.RegionHeld3
namespace Go.Proofs.Ytgmopnbejjfbjaa
open Go.RowKit Go.MapKept
open Go.ChangeMaps (setBlock)

structure ActV where
  kind : Int
  d : Int
  h : Int
  n : Int
  m : Int
  r0 : Int
  r1 : Int
  r2 : Int
  r3 : Int
def ActV.cs (y : ActV) : List Value := [.int .i64 y.kind, .int .i64 y.d, .int .i64 y.h, .int .i64 y.n, .int .i64 y.m, .int .u8 y.r0, .int .u8 y.r1, .int .u8 y.r2, .int .u8 y.r3]
def ActV.ok (y : ActV) : Prop := (0 ≤ y.r0 ∧ y.r0 ≤ 255) ∧ (0 ≤ y.r1 ∧ y.r1 ≤ 255) ∧ (0 ≤ y.r2 ∧ y.r2 ≤ 255) ∧ (0 ≤ y.r3 ∧ y.r3 ≤ 255)
def f4i (a b c d : Int) (k : Nat) : Int := if k = 0 then a else if k = 1 then b else if k = 2 then c else d
theorem Try.info56 : (Try.prog.info? 56).map (fun i => (i.zero, i.size, i.bytes)) = some (some (.agg #[.int .i64 0, .int .i64 0, .string .empty, .int .i64 0, .int .i64 0, .int .i64 0, .bool false]), 7, 64) := by kernel_rfl
/-- what holds between two acts -/
def Mid (w0 w : World) (B : Bk) (q : Nat) (v6 v8 : Value) : Prop :=
  ∃ (ao : Option Addr) (c : Nat) (s : SS) (T : Int) (L : List (ByteArray × Slot)) (tag : Nat → Nat), v6 = .slice ao s.pend.length c ∧ v8 = .int .i64 s.l.length ∧ Rep w0 w B L tag (.slice ao s.pend.length c) s ∧ Inv q T s

set_option maxRecDepth 100000 in
set_option maxHeartbeats 40000000 in
theorem safe_any (ks : List ActV) (b off cap : Nat) (w : World) (hc : ∀ i (h : i < ks.length) j u, (ks[i]).cs[j]? = some u → w.cell? ⟨b, off + (i * 9 + j), none⟩ = some u) (hok : ∀ y ∈ ks, y.ok) (hb : 0 < ks.length → b < w.heap.size) (hl : ks.length ≤ 60) :
    Calls Try.prog 4 #[.slice (some ⟨b, off, none⟩) ks.length cap] w (AwakePost w) := by
  have hmm := @run_makeMap Try.prog
  have Hc := Lib.hid hc
  have Hb := Lib.hid hb
  have Hok := Lib.hid hok
  clear hc hb hok
  go_enter Try.func4, Try.ntmps4
  go_wp2_with (go_at_call 9; refine (awake_any _).mono ?_; rintro r wA ⟨rfl, hxA⟩)
  refine (new_any _).mono ?_
  rintro r wB ⟨rb, mb, rfl, hR0, hxB, hrb, hmb⟩
  go_wp2_with fail
  refine (clocknew_any _).mono ?_
  rintro r wC ⟨c0, rfl, hc0, hxC, hlc0⟩
  unfold ptr
  go_wp2_with fail
  refine (clocknew_any _).mono ?_
  rintro r wD ⟨c1, rfl, hc1, hxD, hlc1⟩
  unfold ptr
  go_wp2_with fail
  refine (clocknew_any _).mono ?_
  rintro r wE ⟨c2, rfl, hc2, hxE, hlc2⟩
  unfold ptr
  go_wp2_with fail
  refine (clocknew_any _).mono ?_
  rintro r wF ⟨c3, rfl, hc3, hxF, hlc3⟩
  unfold ptr
  go_wp2_with fail
  refine (newres_any _).mono ?_
  rintro r wG ⟨r0, m0, rfl, hr0, hxG, hlr0, hlm0⟩
  simp only [World.size_alloc] at hlr0 hlm0
  go_wp2_with fail
  refine (newres_any _).mono ?_
  rintro r wH ⟨r1, m1, rfl, hr1, hxH, hlr1, hlm1⟩
  go_wp2_with fail
  refine (newres_any _).mono ?_
  rintro r wI ⟨r2, m2, rfl, hr2, hxI, hlr2, hlm2⟩
  go_wp2_with fail
  obtain ⟨tg, R0⟩ := Rep.init hxA hR0 hxB hrb hmb hc0 hxC hlc0 hc1 hxD hlc1 hc2 hxE hlc2 hc3 hxF hlc3 hr0 hxG hlr0 hlm0 hr1 hxH hlr1 hlm1 hr2 hxI hlr2 hlm2
  have HR0 := Lib.hid R0
  clear R0 hxA hR0 hxB hrb hmb hc0 hxC hlc0 hc1 hxD hlc1 hc2 hxE hlc2 hc3 hxF hlc3 hr0 hxG hlr0 hlm0 hr1 hxH hlr1 hlm1 hr2 hxI hlr2 hlm2
  generalize wI.heap.size + 1 + 1 = cmB at HR0 ⊢
  generalize wI.heap.size = rsB at HR0 ⊢
  generalize wF.heap.size = csB at HR0 ⊢
  obtain ⟨Bl, hBl⟩ : ∃ B, mkB rb mb c0 c1 c2 c3 r0 m0 r1 m1 r2 m2 csB rsB cmB = B := ⟨_, rfl⟩
  have HBl := Lib.hid hBl
  rw [hBl] at HR0
  clear hBl
  go_loopg [6, 8, 42] ks.length (fun g v6 v8 v42 wr => ∃ q : Nat, q ≤ ks.length ∧ g = ks.length - q ∧ v42 = .int .i64 q ∧ Mid w wr Bl q v6 v8)
  case atStart => exact ⟨0, Nat.zero_le _, rfl, rfl, _, _, s00, 0, _, _, rfl, rfl, HR0.out, Inv.init⟩
  case round =>
    obtain ⟨q, hq, rfl, rfl, ao, pc, s, T, L, tag, rfl, rfl, hR, hI⟩ := hrel
    clear HR0
    by_cases hlt : q < ks.length
    · have hbw : b < wr.heap.size := Nat.lt_of_lt_of_le (Hb.out (by omega)) hR.ext.size
      have hcs : ∀ j u, (ks[q]).cs[j]? = some u → wr.cell? ⟨b, off + (q * 9 + j), none⟩ = some u := fun j u h =>
        (hR.ext.cell (p := ⟨b, off + (q * 9 + j), none⟩) (Hb.out (by omega)) id).trans (Hc.out q hlt j u h)
      have hoky := Hok.out ks[q] (List.getElem_mem hlt)
      obtain ⟨⟨kind, d, h, n, m, a0, a1, a2, a3⟩, hy⟩ : ∃ y, ks[q] = y := ⟨_, rfl⟩
      rw [hy] at hcs hoky
      have e0 := hcs 0 _ rfl
      have e1 := hcs 1 _ rfl
      have e2 := hcs 2 _ rfl
      have e3 := hcs 3 _ rfl
      have e4 := hcs 4 _ rfl
      have e5 := hcs 5 _ rfl
      have e6 := hcs 6 _ rfl
      have e7 := hcs 7 _ rfl
      have e8 := hcs 8 _ rfl
      simp only [Nat.add_zero, ← Nat.add_assoc] at e0 e1 e2 e3 e4 e5 e6 e7 e8
      have HR := Lib.hid hR
      have HI := Lib.hid hI
      have Hoky := Lib.hid hoky
      clear hcs hoky hR hI hy
      go_upto_block 2 with fail
      go_cut [6, 8, 11, 12, 13, 14, 15, 16, 17, 18, 42] (fun v6 v8 v11 v12 v13 v14 v15 v16 v17 v18 v42 wx => v42 = .int .i64 q ∧ Mid w wx Bl (q + 1) v6 v8)
      case first =>
        obtain rfl := HBl.out
        have hbo := blk_alloc_at wr (.cells #[.int .i64 kind, .int .i64 d, .int .i64 h, .int .i64 n, .int .i64 m, .int .u8 a0, .int .u8 a1, .int .u8 a2, .int .u8 a3] 48)
        have hR1 := HR.out.quiet ((Ext.refl (fun _ => False) wr).alloc (.cells #[.int .i64 kind, .int .i64 d, .int .i64 h, .int .i64 n, .int .i64 m, .int .u8 a0, .int .u8 a1, .int .u8 a2, .int .u8 a3] 48))
        have hcl : ∀ k, k < 4 → f4 c0 c1 c2 c3 k < wr.heap.size := fun k hk => blk_lt (HR.out.clk k hk)
        have hmlt : ∀ k, k < 3 → f4 m0 m1 m2 0 k < wr.heap.size := fun k hk => (HR.out.res k hk).lt.2
        have hfp : ∀ x, fpR rb mb L x → x < wr.heap.size := fun x hx => HR.out.reg.lt hx
        have hpd : ∀ x, (Value.slice ao s.pend.length pc).ownBlock = some x → x < wr.heap.size := fun x hx => by obtain ⟨cur, hc⟩ := ownsRow_blk HR.out.pend hx; exact blk_lt hc
        generalize hwq : wr.alloc (.cells #[.int .i64 kind, .int .i64 d, .int .i64 h, .int .i64 n, .int .i64 m, .int .u8 a0, .int .u8 a1, .int .u8 a2, .int .u8 a3] 48) = wq at *
        clear HR hbw hwq
        generalize wr.heap.size = ba at *
        have hbaq := blk_lt hbo
        have HR1 := Lib.hid hR1
        have Hbo := Lib.hid hbo
        have Hcl := Lib.hid hcl
        have Hmlt := Lib.hid hmlt
        have Hfp := Lib.hid hfp
        have Hpd := Lib.hid hpd
        clear e0 e1 e2 e3 e4 e5 e6 e7 e8 hR1 hbo hcl hmlt hfp hpd
        by_cases k0 : kind = 0
        · subst k0
          as_aux_lemma =>
            go_wp2_with fail
            go_loopg [52] 4 (fun g v52 wx => ∃ (j : Nat) (s' : SS), j ≤ 4 ∧ g = 4 - j ∧ v52 = .int .i64 j ∧ Rep w wx (mkB rb mb c0 c1 c2 c3 r0 m0 r1 m1 r2 m2 csB rsB cmB) L tag (.slice ao s.pend.length pc) s' ∧ (s'.l = s.l ∧ s'.res = s.res ∧ s'.pend = s.pend ∧ s'.cut = s.cut) ∧
              (∀ i, i < 4 → s'.u i = if i < j then s.u i + d % 400 * (63 + f4i a0 a1 a2 a3 i % 3) else s.u i) ∧ (∀ i, i < 4 → s'.tt i = if i < j then s.tt i + d % 400 else s.tt i) ∧ blk wx ba = some (.cells #[.int .i64 0, .int .i64 d, .int .i64 h, .int .i64 n, .int .i64 m, .int .u8 a0, .int .u8 a1, .int .u8 a2, .int .u8 a3] 48 (0, 0)))
            case atStart => exact ⟨0, s, by omega, rfl, rfl, HR1.out, ⟨rfl, rfl, rfl, rfl⟩, fun i _ => by simp, fun i _ => by simp, Hbo.out⟩
            case round =>
              obtain ⟨j, s', hj, rfl, rfl, hR, hs, hu, ht, hb⟩ := hrel
              clear HR1 Hbo
              by_cases hj4 : j < 4
              · have hcx := hR.cells_cs j hj4
                have hkc := hR.clk j hj4
                change blk wr (f4 c0 c1 c2 c3 j) = _ at hkc
                have b1 := cell_of_cells hb 1
                simp at b1
                have b5 : wr.cell? ⟨ba, 5 + j, none⟩ = some (.int .u8 (f4i a0 a1 a2 a3 j)) := by
                  have := cell_of_cells hb (5 + j)
                  match j, hj4 with
                  | 0, _ => exact this
                  | 1, _ => exact this
                  | 2, _ => exact this
                  | 3, _ => exact this
                have hrb : 0 ≤ f4i a0 a1 a2 a3 j ∧ f4i a0 a1 a2 a3 j ≤ 255 := by
                  obtain ⟨o0, o1, o2, o3⟩ := Hoky.out
                  simp only at o0 o1 o2 o3
                  unfold f4i
                  (repeat' split) <;> assumption
                have hcj := Hcl.out j hj4
                obtain ⟨rj, hrj⟩ : ∃ x, f4i a0 a1 a2 a3 j = x := ⟨_, rfl⟩
                obtain ⟨cj, hcje⟩ : ∃ x, f4 c0 c1 c2 c3 j = x := ⟨_, rfl⟩
                rw [hrj] at b5 hrb
                rw [hcje] at hcx hkc hcj
                have hu1 := hu j hj4
                have ht1 := ht j hj4
                rw [if_neg (Nat.lt_irrefl _)] at hu1 ht1
                have hub := HI.out.bound j hj4
                have htb := HI.out.htt j hj4
                have htb2 := HI.out.hT
                have htb3 := HI.out.hq
                obtain ⟨g1, g2⟩ := hrb
                have m1 : rj.tmod 3 = rj % 3 := Int.tmod_eq_emod_of_nonneg g1
                have m2 : IntKind.u8.wrap (rj % 3) = rj % 3 := by rw [IntKind.wrap_u8]; omega
                have m3 : IntKind.i64.wrap (rj % 3) = rj % 3 := IntWalk.i64_in _ (by omega)
                have m4 : IntKind.i64.wrap (63 + rj % 3) = 63 + rj % 3 := IntWalk.i64_in _ (by omega)
                have n1 : (0 : Int) ≤ (j : Int) := by omega
                have n2 : (j : Int) < 4 := by omega
                have HR := Lib.hid hR
                have Hs := Lib.hid hs
                have Hu := Lib.hid hu
                have Ht := Lib.hid ht
                have Hb1 := Lib.hid hb
                have Hrj := Lib.hid hrj
                have Hcj := Lib.hid hcje
                have Hkc := Lib.hid hkc
                clear hR hs hu ht hb hrj hcje hkc
                go_upto_region 18 with fail
                refine wp_region_tail 14 (by kernel_rfl) (by kernel_rfl) ?_
                simp only [List.take_succ_cons, List.take_zero, List.drop_succ_cons, List.drop_zero]
                repeat still_step
                still_call (mod_any d 400 _ (by omega) (by omega))
                repeat still_step
                refine wpStill_nil ?_
                go_wp2_with fail
                refine (advance_any cj wr.drew (s'.u j) (s'.tt j) (d % 400) (63 + rj % 3) (show blk wr.drew cj = _ from Hkc.out) (by omega) (by omega) (by omega) (by omega) (by omega) (by omega) (by omega) (by omega)).mono ?_
                rintro r w1 ⟨rfl, hk1, hx1⟩
                have hbw1 := (hx1.blk (k := ba) (by have := blk_lt Hb1.out; simpa using this) (by omega)).trans Hb1.out
                have Hk1 := Lib.hid hk1
                have Hx1 := Lib.hid hx1
                have Hbw1 := Lib.hid hbw1
                clear hk1 hx1 hbw1 b1 b5 hcx
                go_wp2
                go_roundg (4 - (j + 1))
                case measure => omega
                case rel =>
                  obtain rfl := Hcj.out
                  refine ⟨j + 1, _, by omega, rfl, by go_num, (HR.out.quiet ((Ext.refl (fun _ => False) _).drew)).clock j hj4 Hx1.out Hk1.out, Hs.out, fun i hi => ?_, fun i hi => ?_, Hbw1.out⟩
                  · show (if i = j then _ else _) = _
                    by_cases e : i = j
                    · subst e; rw [if_pos rfl, if_pos (Nat.lt_succ_self _), hu1, Hrj.out]
                    · rw [if_neg e, Hu.out i hi]
                      by_cases e2 : i < j
                      · rw [if_pos e2, if_pos (by omega)]
                      · rw [if_neg e2, if_neg (by omega)]
                  · show (if i = j then _ else _) = _
                    by_cases e : i = j
                    · subst e; rw [if_pos rfl, if_pos (Nat.lt_succ_self _), ht1]
                    · rw [if_neg e, Ht.out i hi]
                      by_cases e2 : i < j
                      · rw [if_pos e2, if_pos (by omega)]
                      · rw [if_neg e2, if_neg (by omega)]
              · obtain rfl : j = 4 := by omega
                have HR := Lib.hid hR
                have Hs := Lib.hid hs
                have Hu := Lib.hid hu
                have Ht := Lib.hid ht
                clear hR hs hu ht hb
                go_wp2
                go_meet
                obtain ⟨s1, s2, s3, s4⟩ := Hs.out
                refine ⟨rfl, ao, pc, s', T + d % 400, L, tag, by rw [s3], by rw [s1], by rw [s3]; exact HR.out, ?_⟩
                refine HI.out.advance (r := fun i => 63 + f4i a0 a1 a2 a3 i % 3) (by omega) (by omega) (by omega) (fun i hi => ?_) (fun i hi => ?_) (fun i hi => ?_) s1 s2 s3 s4
                · omega
                · rw [Hu.out i hi, if_pos hi]
                · rw [Ht.out i hi, if_pos hi]
        · by_cases k1 : kind = 1
          · subst k1
            have b3 := cell_of_cells Hbo.out 3
            simp at b3
            have hcx := HR1.out.cells_cs 0 (by omega)
            simp only [f4, if_true] at hcx
            have hk0 := HR1.out.clk0
            have hb0 := HI.out.bound 0 (by omega)
            have hll : s.l.length ≤ q := HI.out.hlen
            have v1 : IntKind.i64.wrap (1 + (s.l.length : Int)) = 1 + (s.l.length : Int) := IntWalk.i64_in _ (by omega)
            have v2 : IntKind.i64.wrap (1 + n % 300) = 1 + n % 300 := IntWalk.i64_in _ (by omega)
            have hpm : publishM (regM L) nm (1 + (s.l.length : Int)) (1 + n % 300) (s.u 0 / 64) = (aput (regM L) nm (s.l ++ [⟨1 + (s.l.length : Int), 1 + n % 300, 0⟩]), (s.l.length : Int) + 1, 0) := by
              have h1 : isNameB nm = true := by decide
              have h2 : validB (1 + (s.l.length : Int)) (1 + n % 300) = true := by simp [validB]; omega
              have h3 : readB (s.u 0 / 64) = true := by simp [readB]; omega
              unfold publishM
              rw [h1, h2, h3, ← slotL_eq, HR1.out.hl]
              simp only [Bool.and_self, if_true]
              rw [if_neg (by omega)]
            have Hpm := Lib.hid hpm
            clear hpm
            have hcslt : csB < wq.heap.size := World.block_lt_of_cell? wq _ hcx
            have hbafp : ¬ fpR rb mb L ba := fun e => absurd (Hfp.out ba e) (Nat.lt_irrefl _)
            have hk0' : ∀ W, Ext (fun _ => False) wq W → blk W c0 = some (.cells #[.int .i64 (s.u 0), .int .i64 (s.tt 0)] 98 (0, 0)) := fun W hx => (hx.blk (blk_lt hk0) id).trans hk0
            have Hk0 := Lib.hid hk0'
            clear hk0 hk0'
            go_upto_region 22 with fail
            go_region_held3 (fun w' => w'.cell? ⟨ba, 3, none⟩ = some (.int .i64 n) ∧ w'.cell? ⟨csB, 0, none⟩ = some (.pointer (some ⟨c0, 0, none⟩)))
              (first | exact ⟨b3, hcx⟩ | exact ⟨y0, y1⟩ | go_keep)
              ((first
                | (go_at_call 18; refine (mod_any n 300 _ (by omega) (by omega)).mono ?_; rintro r w' ⟨rfl, hw⟩; obtain rfl := hw.symm)
                | (go_at_call 20; refine (now_any c0 _ (s.u 0) (s.tt 0) (Hk0.out _ (by repeat (first | exact Ext.refl _ _ | apply Ext.drewN | apply Ext.drew | apply Ext.alloc))) hb0.1 (by omega)).mono ?_; rintro r w' ⟨rfl, hw⟩; obtain rfl := hw.symm)
                | (go_at_call 19; have hRq := HR1.out.quiet (w' := wq.drew) ((Ext.refl (fun _ => False) wq).drew); refine (publish_any rb mb wq.drew L hRq.reg nm (1 + (s.l.length : Int)) (1 + n % 300) (s.u 0 / 64) (by decide)).mono ?_; rintro r w1 ⟨hr, hx1, L', hreg', hL', hfp'⟩; rw [Hpm.out] at hr hL'; obtain rfl : r = .returned (.tuple #[.int .i64 ((s.l.length : Int) + 1), .int .i64 0]) := hr; obtain ⟨tag', hRn⟩ := hRq.registry hx1 hreg' hfp'; have y0 := (hx1.cell (p := ⟨ba, 3, none⟩) hbaq hbafp).trans b3; have y1 : w1.cell? ⟨csB, 0, none⟩ = some (.pointer (some ⟨c0, 0, none⟩)) := hRn.cells_cs 0 (by omega))))
            clear hRq
            have hsl : slotL L' nm = s.l ++ [⟨1 + (s.l.length : Int), 1 + n % 300, 0⟩] := by
              rw [slotL_eq, hL', assoc_aput]; simp
            rw [hsl] at hRn
            have HRn := Lib.hid hRn
            clear hx1 hreg' hfp' hL' hsl hRn
            go_wp2
            go_meet
            exact ⟨rfl, ao, pc, { s with l := s.l ++ [⟨1 + (s.l.length : Int), 1 + n % 300, 0⟩] }, T, L', tag', rfl, by simp, HRn.out, HI.out.publish (by omega) (e := ⟨1 + (s.l.length : Int), 1 + n % 300, 0⟩) (by unfold okEp; simp only []; omega)⟩
          · by_cases k2 : kind = 2
            · subst k2
              obtain ⟨k, hk⟩ : ∃ k : Nat, h % 3 = (k : Int) := ⟨(h % 3).toNat, by omega⟩
              have hk3 : k < 3 := by omega
              have b2 := cell_of_cells Hbo.out 2
              simp at b2
              have hcx := HR1.out.cells_cs (1 + k) (by omega)
              have hkc := HR1.out.clk (1 + k) (by omega)
              have hbk := HI.out.bound (1 + k) (by omega)
              change blk wq (f4 c0 c1 c2 c3 (1 + k)) = _ at hkc
              generalize f4 c0 c1 c2 c3 (1 + k) = ck at *
              have n1 : (0 : Int) ≤ (k : Int) := by omega
              have n3 : IntKind.i64.wrap (1 + (k : Int)) = 1 + (k : Int) := IntWalk.i64_in _ (by omega)
              have n4 : (0 : Int) ≤ 1 + (k : Int) := by omega
              have n5 : 1 + (k : Int) < 4 := by omega
              have n6 : (1 + (k : Int)).toNat = 1 + k := by omega
              go_wp2_with fail
              refine (mod_any h 3 _ (by omega) (by omega)).mono ?_
              rintro r w' ⟨rfl, hw⟩; obtain rfl := hw.symm
              rw [hk]
              go_wp2_with fail
              refine (now_any ck _ (s.u (1 + k)) (s.tt (1 + k)) hkc hbk.1 (by omega)).mono ?_
              rintro r w' ⟨rfl, hw⟩; obtain rfl := hw.symm
              clear hcx hkc b2
              have hpl := HI.out.hpl
              obtain ⟨i0, hi, hz0, hz1, hz2⟩ := info_parts Try.info56
              go_wp2_with (at_builtin; refine wpList_append_lies _ rfl _ _ 44 rfl 0 56 i0 _ 7 64 Try.underlying44 hi hz0 hz1 hz2 rfl (by decide) _ _ _ rfl (HR1.out.pend.alloc _) ⟨wq.heap.size, 0, none⟩ 1 1 [.int .i64 k, .int .i64 (s.u (1 + k) / 64), .string .empty, .int .i64 0, .int .i64 0, .int .i64 0, .bool false] rfl rfl (cells_new _ _ (by simp)) (by simp [Value.oneCell']) (by omega) (by simp [maxLen]; omega) (by omega) (by simp) (wq.heap.size + 1) (by simp) ?_; intro gg cap' w1 hown1 hgrow1 hat hltg)
              have hx1 : Ext (fun x => (Value.slice ao s.pend.length pc).ownBlock = some x) wq w1 := ((Ext.refl _ _).alloc _).grown hgrow1 (fun x hx _ => hx)
              obtain ⟨tag', hRn⟩ := HR1.out.pending (p' := s.pend ++ [⟨k, s.u (1 + k) / 64, ⟨.empty, 0, 0, 0⟩, false⟩]) hx1 (pv' := .slice (some ⟨gg, 0, none⟩) (s.pend.length + 1) cap') (by rw [qs_append, List.length_append]; exact hown1) (fun x hx => by
                simp [Value.ownBlock] at hx
                subst hx
                rcases hat with h | h
                · exact .inl h
                · exact .inr (by omega))
              have HRn := Lib.hid hRn
              clear hown1 hgrow1 hat hx1 hRn
              go_wp2
              go_meet
              exact ⟨rfl, some ⟨gg, 0, none⟩, cap', { s with pend := s.pend ++ [⟨k, s.u (1 + k) / 64, ⟨.empty, 0, 0, 0⟩, false⟩] }, T, L, tag', by simp, rfl, by simpa using HRn.out, HI.out.ask (by omega) hk3 _⟩
            · by_cases k345 : 3 ≤ kind ∧ kind ≤ 5
              · obtain ⟨k3a, k3b⟩ := k345
                have t0 : (kind == 0) = false := beq_eq_false_iff_ne.2 k0
                have t1 : (kind == 1) = false := beq_eq_false_iff_ne.2 k1
                have t2 : (kind == 2) = false := beq_eq_false_iff_ne.2 k2
                go_upto_if 114 with fail
                go_cut [114] from 114 to 117 (fun v114 wx => v114 = .bool true ∧ wx = wq)
                case first =>
                  go_wp2
                  all_goals
                    go_meet
                    first
                      | exact ⟨rfl, rfl⟩
                      | (have h3 : ¬ kind = 3 := beq_eq_false_iff_ne.1 (by assumption)
                         have h4 : ¬ kind = 4 := beq_eq_false_iff_ne.1 (by assumption)
                         have e5 : kind = 5 := by omega
                         subst e5
                         exact ⟨rfl, rfl⟩)
                case rest =>
                  obtain ⟨rfl, hwc⟩ := hcut
                  obtain rfl := hwc.symm
                  clear t0 t1 t2
                  by_cases hp0 : s.pend.length = 0
                  · have hp1 : (s.pend.length : Int) = 0 := by omega
                    go_wp2
                    go_roundg (ks.length - (q + 1))
                    case measure => omega
                    case rel => exact ⟨q + 1, by omega, rfl, by go_num, ao, pc, s, T, L, tag, by simp [hp0], rfl, HR1.out, HI.out.skip (by omega)⟩
                  · have hp1 : ¬ ((s.pend.length : Int) = 0) := by omega
                    obtain ⟨g, hao, hgq, hpc⟩ : ∃ g, ao = some ⟨g, 0, none⟩ ∧ g < wq.heap.size ∧ s.pend.length ≤ pc := by
                      rcases HR1.out.pend.2 with ⟨_, h0⟩ | ⟨g, cap, cur, hv, _, hg, hle, _⟩
                      · exact absurd h0 hp0
                      · cases hv; exact ⟨g, rfl, blk_lt hg, hle⟩
                    subst hao
                    obtain ⟨mm, hmm⟩ : ∃ mm : Nat, m % (s.pend.length : Int) = (mm : Int) := ⟨(m % (s.pend.length : Int)).toNat, by have := Int.emod_nonneg m hp1; omega⟩
                    have hml : mm < s.pend.length := by have := Int.emod_lt_of_pos m (show 0 < (s.pend.length : Int) by omega); omega
                    have hpl : s.pend.length ≤ q := HI.out.hpl
                    obtain ⟨⟨yh, yk, ⟨yn, ye, ya, yt⟩, yan⟩, hy⟩ : ∃ y, s.pend[mm] = y := ⟨_, rfl⟩
                    have hcells : ∀ j, j < 7 → ∀ u, (s.pend[mm]).cs[j]? = some u → wq.cell? ⟨g, mm * 7 + j, none⟩ = some u := fun j hj u hu => by
                      have := HR1.out.pend.cells (g := g) rfl (mm * 7 + j) u (by rw [qs_get _ mm hml j hj]; exact hu)
                      rwa [Addr.add_lit, Nat.zero_add] at this
                    rw [hy] at hcells
                    have p0 := hcells 0 (by omega) _ rfl
                    have p1 := hcells 1 (by omega) _ rfl
                    have p2 := hcells 2 (by omega) _ rfl
                    have p3 := hcells 3 (by omega) _ rfl
                    have p4 := hcells 4 (by omega) _ rfl
                    have p5 := hcells 5 (by omega) _ rfl
                    have p6 := hcells 6 (by omega) _ rfl
                    simp only [Nat.add_zero] at p0
                    have b4 := cell_of_cells Hbo.out 4
                    simp at b4
                    have Hy := Lib.hid hy
                    clear hcells hy
                    go_wp2_with fail
                    refine (mod_any m _ _ (by omega) (by omega)).mono ?_
                    rintro r w' ⟨rfl, hw⟩; obtain rfl := hw.symm
                    rw [hmm]
                    go_upto_region 35 with fail
                    have hRz := HR1.out.quiet ((Ext.refl (fun _ => False) wq).alloc (.cells #[.int .i64 yh, .int .i64 yk, .string yn, .int .i64 ye, .int .i64 ya, .int .i64 yt, .bool yan] 56))
                    have hbq := blk_alloc_at wq (.cells #[.int .i64 yh, .int .i64 yk, .string yn, .int .i64 ye, .int .i64 ya, .int .i64 yt, .bool yan] 56)
                    have hbz := (blk_alloc_past wq (.cells #[.int .i64 yh, .int .i64 yk, .string yn, .int .i64 ye, .int .i64 ya, .int .i64 yt, .bool yan] 56) ba hbaq).trans Hbo.out
                    have hgz : g < (wq.alloc (.cells #[.int .i64 yh, .int .i64 yk, .string yn, .int .i64 ye, .int .i64 ya, .int .i64 yt, .bool yan] 56)).heap.size := by simp; omega
                    clear p0 p1 p2 p3 p4 p5 p6 b4 Hbo
                    generalize hwz : wq.alloc (.cells #[.int .i64 yh, .int .i64 yk, .string yn, .int .i64 ye, .int .i64 ya, .int .i64 yt, .bool yan] 56) = wz at *
                    generalize hwqb : wq.heap.size = bq at *
                    have Hwqb := Lib.hid hwqb
                    clear hwqb
                    clear hwz
                    have Hbq := Lib.hid hbq
                    have Hbz := Lib.hid hbz
                    have HRz := Lib.hid hRz
                    have hbqlt := blk_lt hbq
                    clear hbq hbz hRz
                    obtain ⟨i0, hi, hz0, hz1, hz2⟩ := info_parts Try.info56
                    have o1 : (0 : Int) ≤ (mm : Int) := by omega
                    have o2 : (mm : Int) ≤ (pc : Int) := by omega
                    have o3 : IntKind.i64.wrap ((mm : Int) + 1) = (mm : Int) + 1 := IntWalk.i64_in _ (by omega)
                    have o4 : (0 : Int) ≤ (mm : Int) + 1 := by omega
                    have o5 : (mm : Int) + 1 ≤ (s.pend.length : Int) := by omega
                    have o6 : (s.pend.length : Int) ≤ (pc : Int) := by omega
                    have o7 : ((mm : Int) + 1).toNat = mm + 1 := by omega
                    have Hown0 : Hid ((wz.drew.alloc (.cells #[] 56)).ownsRow wz.heap.size 56 7 (.slice (some ⟨wz.heap.size, 0, none⟩) 0 0) 0 []) := World.ownsRow_made (base := wz.heap.size) (w := wz.drew) (e := 56) (size := 7) #[] 0 (Nat.le_refl _) (by simp [maxLen]) rfl
                    have Hn1 : Hid (∀ j u, (qs (s.pend.take mm))[j]? = some u → wz.cell? ((⟨g, 0, none⟩ : Addr).add j) = some u) := fun j u hu => by
                      have := qs_cells HRz.out.pend 0 (s.pend.take mm) (fun k hk => by simp at hk; exact ⟨by omega, by simp [List.getElem?_take, show k < mm by omega, show k < s.pend.length by omega]⟩) j u hu
                      simpa using this
                    obtain ⟨of2, hof, hn2⟩ : ∃ o : Nat, (if pc = mm + 1 then some (⟨g, 0, none⟩ : Addr) else some ⟨g, (mm + 1) * 7, none⟩) = some ⟨g, o, none⟩ ∧ ∀ j u, (qs (s.pend.drop (mm + 1)))[j]? = some u → wz.cell? ((⟨g, o, none⟩ : Addr).add j) = some u := by
                      by_cases hpm : pc = mm + 1
                      · refine ⟨0, if_pos hpm, fun j u hu => ?_⟩
                        rw [List.drop_eq_nil_of_le (by omega)] at hu
                        simp [qs] at hu
                      · exact ⟨(mm + 1) * 7, if_neg hpm, fun j u hu => qs_cells HRz.out.pend (mm + 1) (s.pend.drop (mm + 1)) (fun k hk => by simp at hk; exact ⟨by omega, by simp [List.getElem?_drop, show mm + 1 + k < s.pend.length by omega]⟩) j u hu⟩
                    have Hof := Lib.hid hof
                    have Hn2 := Lib.hid hn2
                    clear hof hn2
                    go_region_law (first
                      | (refine step_append_at rfl (.tmp 130) (.tmp 133) 44 rfl wz.heap.size 56 i0 _ 7 64 Try.underlying44 hi hz0 hz1 hz2 rfl (by decide) (.slice (some ⟨wz.heap.size, 0, none⟩) 0 0) 0 [] (by rfl) Hown0.out ⟨g, 0, none⟩ mm pc (qs (s.pend.take mm)) (by rfl) (by rw [qs_length, List.length_take]; congr 1; omega) (fun j u hu => (Ext.cell (((Ext.refl (fun _ => False) wz).drew).alloc (.cells #[] 56)) (p := (⟨g, 0, none⟩ : Addr).add j) (by rw [Addr.add_lit]; exact hgz) id).trans (Hn1.out j u hu)) (qs_one _) (by simp only [maxLen]; omega) (by omega) (by simp) ?_; intro v1 w1 own1 grow1; have hx1 : Ext (fun _ => False) wz w1 := (((Ext.refl (fun _ => False) wz).drew).alloc _).grown grow1 (fun x hx hl => absurd hx (by simp [Value.ownBlock]; omega)); have Hx1 := Lib.hid hx1; have Hown1 := Lib.hid own1; clear hx1 own1 grow1)
                      | (refine step_append_at rfl (.tmp 134) (.tmp 138) 44 rfl wz.heap.size 56 i0 _ 7 64 Try.underlying44 hi hz0 hz1 hz2 rfl (by decide) v1 (0 + mm) _ (by rfl) Hown1.out ⟨g, of2, none⟩ (s.pend.length - (mm + 1)) (pc - (mm + 1)) (qs (s.pend.drop (mm + 1))) (show Value.slice (if pc = mm + 1 then some (⟨g, 0, none⟩ : Addr) else some ⟨g, (mm + 1) * 7, none⟩) _ _ = _ from by rw [Hof.out]) (by rw [qs_length, List.length_drop]) (fun j u hu => (Hx1.out.cell (p := (⟨g, of2, none⟩ : Addr).add j) (by rw [Addr.add_lit]; exact hgz) id).trans (Hn2.out j u hu)) (qs_one _) (by simp only [maxLen]; omega) (by omega) Hx1.out.size ?_; intro v2 w2 own2 grow2; have hx2 : Ext (fun _ => False) wz w2 := Hx1.out.grown grow2 (fun x hx hl => absurd (Hown1.out.lt x hx).1 (by omega)); have Hx2 := Lib.hid hx2; have Hown2 := Lib.hid own2; clear hx2 own2 grow2))
                    rw [Hof.out]
                    obtain ⟨ao2, pc2, rfl⟩ := ownsRow_shape Hown2.out
                    obtain ⟨P', hP'⟩ : ∃ p, s.pend.take mm ++ s.pend.drop (mm + 1) = p := ⟨_, rfl⟩
                    have hPl : 0 + mm + (s.pend.length - (mm + 1)) = P'.length := by rw [← hP']; simp; omega
                    have hPm : ∀ y ∈ P', y ∈ s.pend := fun y hy => by
                      rw [← hP'] at hy
                      rcases List.mem_append.1 hy with hy | hy
                      · exact List.mem_of_mem_take hy
                      · exact List.mem_of_mem_drop hy
                    have hPs : P'.length < s.pend.length := by omega
                    have hown2 := Hown2.out
                    rw [List.nil_append, ← qs_append, hP', hPl] at hown2
                    rw [hPl]
                    obtain ⟨tag2, hR2⟩ := HRz.out.pending (p' := P') (Hx2.out.mono (fun _ _ h => h.elim)) (ownsRow_mono hown2 (Nat.zero_le _)) (fun x hx => .inr (hown2.lt x hx).1)
                    have hba2 := (Hx2.out.blk (blk_lt Hbz.out) id).trans Hbz.out
                    have hbq2 := (Hx2.out.blk (blk_lt Hbq.out) id).trans Hbq.out
                    have hyin := HI.out.hpend _ (List.getElem_mem hml)
                    rw [Hy.out] at hyin
                    simp only [] at hyin
                    obtain ⟨y1, y2, y3, y4⟩ := hyin
                    have Hy4 := Lib.hid y4
                    have HR2 := Lib.hid hR2
                    have HPm := Lib.hid hPm
                    have hv2b : (Value.slice ao2 P'.length pc2).ownBlock ≠ some bq := fun e => by have := (hown2.lt bq e).1; omega
                    have Hv2b := Lib.hid hv2b
                    have hba0 := cell_of_cells hba2 0
                    have q0 := cell_of_cells hbq2 0
                    have q1 := cell_of_cells hbq2 1
                    have q2 := cell_of_cells hbq2 2
                    have q3 := cell_of_cells hbq2 3
                    have q4 := cell_of_cells hbq2 4
                    have q5 := cell_of_cells hbq2 5
                    have q6 := cell_of_cells hbq2 6
                    simp at hba0 q0 q1 q2 q3 q4 q5 q6
                    have Hbq2 := Lib.hid hbq2
                    have hbq2l := blk_lt hbq2
                    have hnm : mm ≤ 1000 := by omega
                    clear hv2b hown2 Hown2 hR2 hPm hP' hPl hba2 hbq2 y4 Hn1 Hn2 Hof Hown0 Hown1 Hx1 o1 o2 o3 o4 o5 o6 o7
                    by_cases k5 : kind = 5
                    · have hPs' := hPs
                      have hba5 := hba0
                      rw [k5] at hba5
                      clear hba0 k5 k3a k3b
                      go_wp2
                      go_roundg (ks.length - (q + 1))
                      case measure => omega
                      case rel => exact ⟨q + 1, by omega, rfl, by go_num, ao2, pc2, { s with pend := P' }, T, L, tag2, rfl, rfl, HR2.out, HI.out.drop (by omega) HPm.out (by omega)⟩
                    cases yan with
                    | true =>
                      have hrx := HR2.out.cells_rs yh y1
                      have hres0 := HR2.out.res yh y1
                      change IsRes w2 (f4 r0 r1 r2 0 yh) (f4 m0 m1 m2 0 yh) _ at hres0
                      have w1' : (0 : Int) ≤ (yh : Int) := by omega
                      have w2' : (yh : Int) < 3 := by omega
                      generalize hrk : f4 r0 r1 r2 0 yh = rk at *
                      generalize hmk : f4 m0 m1 m2 0 yh = mk at *
                      have Hres := Lib.hid hres0
                      have Hrk := Lib.hid hrk
                      have Hmk := Lib.hid hmk
                      clear hres0 hrk hmk
                      go_upto_region 38 with fail
                      refine wp_region_tail 9 (by kernel_rfl) (by kernel_rfl) ?_
                      simp only [List.take_succ_cons, List.take_zero, List.drop_succ_cons, List.drop_zero]
                      repeat still_step
                      refine wpStill_nil ?_
                      go_wp2_with fail
                      refine (keep_any rk mk w2.drew (s.res yh) (Hres.out.ext (S := fun _ => False) ((Ext.refl _ w2).drew) id id) ⟨⟨yn, ye, ya, yt⟩, yk⟩).mono ?_
                      rintro r w3 ⟨rfl, hk3, hx3⟩
                      have Hk3 := Lib.hid hk3
                      have Hx3 := Lib.hid hx3
                      clear hk3 hx3 q0 q1 q2 q3 q4 q5 q6 hrx
                      go_wp2
                      go_meet
                      obtain rfl := Hrk.out
                      obtain rfl := Hmk.out
                      exact ⟨rfl, ao2, pc2, { { s with pend := P' } with res := fun j => if j = yh then keepL (s.res yh) ⟨⟨yn, ye, ya, yt⟩, yk⟩ else s.res j }, T, L, tag2, rfl, rfl, (HR2.out.quiet (w' := w2.drew) ((Ext.refl (fun _ => False) w2).drew)).resolver yh y1 Hx3.out Hk3.out,
                        (HI.out.keep (y := ⟨yh, yk, ⟨yn, ye, ya, yt⟩, true⟩) ⟨y1, Hy4.out (by first | rfl | trivial)⟩).drop (by omega) HPm.out (by simp only []; omega)⟩
                    | false =>
                      have hcx := HR2.out.cells_cs 0 (by omega)
                      simp only [f4, if_true] at hcx
                      have hk0 := HR2.out.clk0
                      have hb0 := HI.out.bound 0 (by omega)
                      have hlm : (slotL L nm).length ≤ 1024 := by rw [HR2.out.hl]; have := HI.out.hlen; simp only []; omega
                      have hrd : readB (s.u 0 / 64) = true := by simp [readB]; omega
                      go_wp2_with fail
                      refine (now_any c0 w2 (s.u 0) (s.tt 0) hk0 hb0.1 (by omega)).mono ?_
                      rintro r w' ⟨rfl, hw⟩; obtain rfl := hw.symm
                      clear hk0
                      go_wp2_with fail
                      refine (lookup_any rb mb _ L HR2.out.reg nm (s.u 0 / 64) hlm).mono ?_
                      rintro r w3 ⟨hr, hx3, L', hreg', hL', hfp'⟩
                      obtain ⟨tag3, hR3⟩ := HR2.out.registry hx3 hreg' hfp'
                      have hlk : lookupM (regM L) nm (s.u 0 / 64) = match s.l.getLast? with | none => (regM L, .zero, 6) | some x => (aput (regM L) nm (noteM s.l (s.u 0 / 64)), ⟨nm, s.l.length, x.a, x.t⟩, 0) := by
                        unfold lookupM
                        rw [hrd, ← slotL_eq, HR2.out.hl]
                        rfl
                      have hfb : ¬ fpR rb mb L bq := fun e => by have := Hfp.out bq e; omega
                      have hfb' : ¬ fpR rb mb L' bq := fun e => by
                        rcases hfp' bq e with e | e
                        · exact hfb e
                        · omega
                      have hbq3 := (hx3.blk hbq2l hfb).trans Hbq2.out
                      have hs3 := hx3.size
                      have hbq3l := blk_lt hbq3
                      have Hfb' := Lib.hid hfb'
                      cases hgl : s.l.getLast? with
                      | none =>
                        rw [hgl] at hlk
                        rw [hlk] at hr hL'
                        obtain rfl : r = .returned (.tuple #[.agg #[.string .empty, .int .i64 0, .int .i64 0, .int .i64 0], .int .i64 6]) := hr
                        have hsl : slotL L' nm = s.l := by rw [slotL_eq, hL', ← slotL_eq]; exact HR2.out.hl
                        rw [hsl] at hR3
                        have HR3 := Lib.hid hR3
                        clear hx3 hreg' hL' hfp' hR3 hlk hsl hbq3 hfb hfb' q0 q1 q2 q3 q4 q5 q6 hcx hgl
                        go_wp2
                        go_meet
                        exact ⟨rfl, ao2, pc2, { s with pend := P' }, T, L', tag3, rfl, rfl, HR3.out.quiet ((Ext.refl (fun _ => False) _).alloc _), HI.out.drop (by omega) HPm.out (by omega)⟩
                      | some xe =>
                        obtain ⟨xa, xt, xg⟩ := xe
                        rw [hgl] at hlk
                        rw [hlk] at hr hL'
                        obtain rfl : r = .returned (.tuple #[.agg #[.string nm, .int .i64 s.l.length, .int .i64 xa, .int .i64 xt], .int .i64 0]) := hr
                        have hsl : slotL L' nm = noteM s.l (s.u 0 / 64) := by rw [slotL_eq, hL', assoc_aput]; simp
                        rw [hsl] at hR3
                        have HR3 := Lib.hid hR3
                        have Hgl := Lib.hid hgl
                        have t0 := cell_of_cells hbq3 0
                        have t1 := cell_of_cells hbq3 1
                        have t2 := cell_of_cells hbq3 2
                        have t3 := cell_of_cells hbq3 3
                        have t4 := cell_of_cells hbq3 4
                        have t5 := cell_of_cells hbq3 5
                        have t6 := cell_of_cells hbq3 6
                        simp at t0 t1 t2 t3 t4 t5 t6
                        have f0 := free_of_cells hbq3 2
                        have f1 := free_of_cells hbq3 3
                        have f2 := free_of_cells hbq3 4
                        have f3 := free_of_cells hbq3 5
                        have f5 := free_of_cells hbq3 6
                        have Hbq3 := Lib.hid hbq3
                        have nb : ¬ (w3.heap.size = bq) := by omega
                        have nb' : ¬ (bq = w3.heap.size) := by omega
                        clear hx3 hreg' hL' hfp' hR3 hlk hsl hbq3 hfb hfb' q0 q1 q2 q3 q4 q5 q6 hcx hgl
                        have hext : Ext (fun b => b = bq) w3 (((((w3.setCell ⟨bq, 2, none⟩ (.string nm)).setCell ⟨bq, 3, none⟩ (.int .i64 s.l.length)).setCell ⟨bq, 4, none⟩ (.int .i64 xa)).setCell ⟨bq, 5, none⟩ (.int .i64 xt)).setCell ⟨bq, 6, none⟩ (.bool true)) := by
                          refine Ext.setCell (Ext.setCell (Ext.setCell (Ext.setCell (Ext.setCell (Ext.refl _ _) (p := ⟨bq, 2, none⟩) _ ?_) (p := ⟨bq, 3, none⟩) _ ?_) (p := ⟨bq, 4, none⟩) _ ?_) (p := ⟨bq, 5, none⟩) _ ?_) (p := ⟨bq, 6, none⟩) _ ?_ <;> exact fun _ => rfl
                        have hRS := (HR1.out.aside (Nat.le_of_eq Hwqb.out) HR3.out Hfb'.out Hv2b.out hext).quiet ((Ext.refl (fun _ => False) (((((w3.setCell ⟨bq, 2, none⟩ (.string nm)).setCell ⟨bq, 3, none⟩ (.int .i64 s.l.length)).setCell ⟨bq, 4, none⟩ (.int .i64 xa)).setCell ⟨bq, 5, none⟩ (.int .i64 xt)).setCell ⟨bq, 6, none⟩ (.bool true))).alloc (.cells #[.string nm, .int .i64 s.l.length, .int .i64 xa, .int .i64 xt] 28))
                        have hb5 : blk ((((((w3.setCell ⟨bq, 2, none⟩ (.string nm)).setCell ⟨bq, 3, none⟩ (.int .i64 s.l.length)).setCell ⟨bq, 4, none⟩ (.int .i64 xa)).setCell ⟨bq, 5, none⟩ (.int .i64 xt)).setCell ⟨bq, 6, none⟩ (.bool true)).alloc (.cells #[.string nm, .int .i64 s.l.length, .int .i64 xa, .int .i64 xt] 28)) bq = some (.cells #[.int .i64 yh, .int .i64 yk, .string nm, .int .i64 s.l.length, .int .i64 xa, .int .i64 xt, .bool true] 56 (0, 0)) := by
                          rw [blk_alloc_past _ _ _ (Nat.lt_of_lt_of_le hbq3l hext.size)]
                          simpa using blk_setCell_same (blk_setCell_same (blk_setCell_same (blk_setCell_same (blk_setCell_same Hbq3.out 2 (.string nm)) 3 (.int .i64 s.l.length)) 4 (.int .i64 xa)) 5 (.int .i64 xt)) 6 (.bool true)
                        have HRS := Lib.hid hRS
                        have Hb5 := Lib.hid hb5
                        clear hext hRS hb5
                        have hpq : P'.length ≤ 60 := by omega
                        go_upto_region 42 with fail
                        clear t0 t1 t2 t3 t4 t5 t6 f0 f1 f2 f3 f5
                        have hRS := HRS.out
                        have hb5 := Hb5.out
                        clear HRS Hb5
                        unfold nm at hRS hb5 ⊢
                        generalize ((((((w3.setCell ⟨bq, 2, none⟩ (.string { data := #[110] })).setCell ⟨bq, 3, none⟩ (.int .i64 s.l.length)).setCell ⟨bq, 4, none⟩ (.int .i64 xa)).setCell ⟨bq, 5, none⟩ (.int .i64 xt)).setCell ⟨bq, 6, none⟩ (.bool true)).alloc (.cells #[.string { data := #[110] }, .int .i64 s.l.length, .int .i64 xa, .int .i64 xt] 28)) = w5 at hRS hb5 ⊢
                        have t0 := cell_of_cells hb5 0
                        have t1 := cell_of_cells hb5 1
                        have t2 := cell_of_cells hb5 2
                        have t3 := cell_of_cells hb5 3
                        have t4 := cell_of_cells hb5 4
                        have t5 := cell_of_cells hb5 5
                        have t6 := cell_of_cells hb5 6
                        simp at t0 t1 t2 t3 t4 t5 t6
                        have HRS := Lib.hid hRS
                        clear hRS hb5
                        go_wp2_with (at_builtin; refine wpList_append_lies _ rfl _ _ 44 rfl 0 56 i0 _ 7 64 Try.underlying44 hi hz0 hz1 hz2 rfl (by decide) _ _ _ rfl (HRS.out.pend.alloc _) ⟨w5.heap.size, 0, none⟩ 1 1 [.int .i64 yh, .int .i64 yk, .string { data := #[110] }, .int .i64 s.l.length, .int .i64 xa, .int .i64 xt, .bool true] rfl rfl (cells_new _ _ rfl) (by simp [Value.oneCell']) (by omega) (show P'.length + 1 ≤ maxLen by simp only [maxLen]; omega) (show (P'.length + 1) * 64 ≤ 140737488355328 by omega) (by simp) (w5.heap.size + 1) (by simp) ?_; intro gg cap' w4 hown4 hgrow4 hat hltg)
                        have hx4 := ((Ext.refl (fun y => (Value.slice ao2 P'.length pc2).ownBlock = some y) _).alloc _).grown hgrow4 (fun y hy _ => hy)
                        obtain ⟨tag4, hR4⟩ := HRS.out.pending (p' := P' ++ [⟨yh, yk, ⟨nm, s.l.length, xa, xt⟩, true⟩]) hx4 (pv' := .slice (some ⟨gg, 0, none⟩) (P'.length + 1) cap') (by rw [qs_append, List.length_append]; exact hown4) (fun y hy => by
                          simp [Value.ownBlock] at hy
                          subst hy
                          rcases hat with h | h
                          · exact .inl h
                          · exact .inr (by omega))
                        have HR4 := Lib.hid hR4
                        clear hown4 hgrow4 hat hx4 hR4 t0 t1 t2 t3 t4 t5 t6
                        go_wp2
                        go_meet
                        exact ⟨rfl, some ⟨gg, 0, none⟩, cap', { s with l := noteM s.l (s.u 0 / 64), pend := P' ++ [⟨yh, yk, ⟨nm, s.l.length, xa, xt⟩, true⟩] }, T, L', tag4, by simp, by simp [note_length], by simpa using HR4.out,
                          (HI.out.drop (by omega) HPm.out (by omega)).answer (y := ⟨yh, yk, ⟨yn, ye, ya, yt⟩, false⟩) (x := ⟨xa, xt, xg⟩) (by simp only []; omega) ⟨y1, y2, y3⟩ Hgl.out⟩
              · have k3 : ¬ kind = 3 := by omega
                have k4 : ¬ kind = 4 := by omega
                have k5 : ¬ kind = 5 := by omega
                clear k345
                go_wp2
                go_meet
                exact ⟨rfl, ao, pc, s, T, L, tag, rfl, rfl, HR1.out, HI.out.skip (by omega)⟩
      case rest =>
        as_aux_lemma =>
          obtain ⟨rfl, ao, pc, s, T, L, tag, rfl, rfl, hR, hI⟩ := hcut
          clear HR HI e0 e1 e2 e3 e4 e5 e6 e7 e8 Hoky
          obtain rfl := HBl.out
          have HR := Lib.hid hR
          have HI := Lib.hid hI
          have hz4 : ∀ W : World, (zeroValue 4).run Try.prog W = .ok (.bool false) W := fun W => by kernel_rfl
          have Hz4 := Lib.hid hz4
          clear hR hI hz4
          go_wp2_with fail
          go_loopg [19] s.l.length (fun g v19 wx => ∃ (p : Nat) (cu : List (Int × Bool)), p ≤ s.l.length ∧ g = s.l.length - p ∧ v19 = .int .i64 ((p : Int) + 1) ∧ Rep w wx (mkB rb mb c0 c1 c2 c3 r0 m0 r1 m1 r2 m2 csB rsB cmB) L tag (.slice ao s.pend.length pc) { s with cut := cu } ∧ Inv (q + 1) T { s with cut := cu })
          case atStart => exact ⟨0, s.cut, Nat.zero_le _, rfl, rfl, HR.out, HI.out⟩
          case round =>
            obtain ⟨p, cu, hp, rfl, rfl, hR, hI⟩ := hrel
            clear HR HI
            by_cases hpl : p < s.l.length
            · obtain ⟨es, clock, hcm, hmap⟩ := hR.cmb
              have hlk : (Instr.lookup 45 (.map (some cmB)) (.int .i64 ((p : Int) + 1)) false).run Try.prog wr = .ok (.bool (cutF cu ((p : Int) + 1))) wr := run_lookup_int Try.underlying45 Try.underlying3 hcm hmap (Hz4.out _) _
              have hcx := hR.cells_cs 0 (by omega)
              simp only [f4, if_true] at hcx
              have hk0 := hR.clk0
              have hb0 := hI.bound 0 (by omega)
              have hll : s.l.length ≤ 60 := Nat.le_trans hI.hlen hI.hq
              have hinv : cutF cu ((p : Int) + 1) = true → mayL s.l ((p : Int) + 1) (s.u 0 / 64) = true := hI.hcut _
              have HR := Lib.hid hR
              have HI := Lib.hid hI
              have Hinv := Lib.hid hinv
              clear hinv
              cases hcut : cutF cu ((p : Int) + 1) with
              | true =>
                rw [hcut] at hlk
                obtain ⟨es', cl', hup, hmap'⟩ := run_update_int (P := Try.prog) (b := cmB) (clock := clock) Try.underlying45 Try.underlying3 hmap ((p : Int) + 1) true
                have hup1 := hup wr hcm
                have Hmap' := Lib.hid hmap'
                have Hcut := Lib.hid hcut
                clear hR hI hmap hup hmap' hcut hcm hk0
                go_wp2
                go_roundg (s.l.length - (p + 1))
                case measure => omega
                case rel => exact ⟨p + 1, iput cu ((p : Int) + 1) true, by omega, rfl, by go_num, HR.out.cutmap Hmap'.out, HI.out.cutput (fun _ => Hinv.out Hcut.out)⟩
              | false =>
                rw [hcut] at hlk
                clear hR hI hcut
                have Hcm := Lib.hid hcm
                have Hmap := Lib.hid hmap
                clear hcm hmap
                go_wp2_with fail
                refine (now_any c0 _ (s.u 0) (s.tt 0) hk0 hb0.1 (by omega)).mono ?_
                rintro r w' ⟨rfl, hw⟩; obtain rfl := hw.symm
                clear hk0
                go_wp2_with fail
                refine (maycut_any rb mb _ L HR.out.reg nm ((p : Int) + 1) (s.u 0 / 64) (by rw [HR.out.hl]; exact HI.out.hl) (by rw [HR.out.hl]; have := HI.out.hlen; have := HI.out.hq; simp only [] at *; omega) (by omega)).mono ?_
                rintro r w1 ⟨rfl, hx1⟩
                have hmay : mayCutM (regM L) nm ((p : Int) + 1) (s.u 0 / 64) = mayL s.l ((p : Int) + 1) (s.u 0 / 64) := by
                  show mayL ((assoc (regM L) nm).getD []) _ _ = _
                  rw [← slotL_eq, HR.out.hl]
                rw [hmay]
                clear hmay
                generalize hmv : mayL s.l ((p : Int) + 1) (s.u 0 / 64) = mv
                obtain ⟨es', cl', hup, hmap'⟩ := run_update_int (P := Try.prog) (b := cmB) (clock := clock) Try.underlying45 Try.underlying3 Hmap.out ((p : Int) + 1) mv
                have HR1 := Lib.hid (HR.out.quiet hx1)
                have hup1 := hup w1 ((hx1.blk (blk_lt Hcm.out) id).trans Hcm.out)
                have Hmap' := Lib.hid hmap'
                have Hmv := Lib.hid hmv
                clear hup hmap' hx1 hmv hlk hcx
                go_wp2
                go_roundg (s.l.length - (p + 1))
                case measure => omega
                case rel => exact ⟨p + 1, iput cu ((p : Int) + 1) mv, by omega, rfl, by go_num, HR1.out.cutmap Hmap'.out, HI.out.cutput (fun e => by rw [Hmv.out]; exact e)⟩
            · have HR := Lib.hid hR
              have HI := Lib.hid hI
              clear hR hI
              go_wp2_with fail
              go_loopg [194] 3 (fun g v194 wx => ∃ k : Nat, k ≤ 3 ∧ g = 3 - k ∧ v194 = .int .i64 k ∧ Rep w wx (mkB rb mb c0 c1 c2 c3 r0 m0 r1 m1 r2 m2 csB rsB cmB) L tag (.slice ao s.pend.length pc) { s with cut := cu })
              case atStart => exact ⟨0, Nat.zero_le _, rfl, rfl, HR.out⟩
              case round =>
                obtain ⟨k, hk, rfl, rfl, hR⟩ := hrel
                clear HR
                by_cases hk3 : k < 3
                · have hcx := hR.cells_cs (1 + k) (by omega)
                  have hrx := hR.cells_rs k hk3
                  have hkc := hR.clk (1 + k) (by omega)
                  have hbk := HI.out.bound (1 + k) (by omega)
                  have hsafe := HI.out.safe (k := k) hk3
                  have hres0 := hR.res k hk3
                  change blk wr (f4 c0 c1 c2 c3 (1 + k)) = _ at hkc
                  change IsRes wr (f4 r0 r1 r2 0 k) (f4 m0 m1 m2 0 k) _ at hres0
                  generalize f4 c0 c1 c2 c3 (1 + k) = ck at *
                  generalize f4 r0 r1 r2 0 k = rk at *
                  generalize f4 m0 m1 m2 0 k = mk at *
                  simp only [] at hsafe hkc hres0 hbk
                  obtain ⟨es, clock, hcm, hmap⟩ := hR.cmb
                  have hlk : ∀ (x : Int) (W : World), blk W cmB = some (.map es clock) → (Instr.lookup 45 (.map (some cmB)) (.int .i64 x) false).run Try.prog W = .ok (.bool (cutF cu x)) W := fun x W hW => run_lookup_int Try.underlying45 Try.underlying3 hW hmap (Hz4.out _) _
                  have HR := Lib.hid hR
                  have Hcm := Lib.hid hcm
                  have Hkc := Lib.hid hkc
                  have Hres := Lib.hid hres0
                  have Hsafe := Lib.hid hsafe
                  have hcmlt := blk_lt hcm
                  clear hR hcm hmap hkc hres0 hsafe
                  have hrslt : rsB < wr.heap.size := World.block_lt_of_cell? wr _ hrx
                  have nrs : ¬ (wr.heap.size = rsB) := fun e => by rw [e] at hrslt; exact absurd hrslt (Nat.lt_irrefl _)
                  have hcslt : csB < wr.heap.size := World.block_lt_of_cell? wr _ hcx
                  have ncs : ¬ (wr.heap.size = csB) := fun e => by rw [e] at hcslt; exact absurd hcslt (Nat.lt_irrefl _)
                  have n1 : (0 : Int) ≤ (k : Int) := by omega
                  have n2 : (k : Int) < 3 := by omega
                  have n3 : IntKind.i64.wrap (1 + (k : Int)) = 1 + (k : Int) := IntWalk.i64_in _ (by omega)
                  have n4 : (0 : Int) ≤ 1 + (k : Int) := by omega
                  have n5 : 1 + (k : Int) < 4 := by omega
                  have n6 : (1 + (k : Int)).toNat = 1 + k := by omega
                  go_upto_region 50 with fail
                  generalize hrv : resolveM (s.res k) nm (s.u (1 + k) / 64) = rv at *
                  have Hrv := Lib.hid hrv
                  clear hrv
                  obtain ⟨⟨rn, re, ra, rt⟩, rok⟩ := rv
                  go_cut [21, 22] (fun v21 v22 wx => ∃ xb : Nat, v21 = .pointer (some ⟨xb, 0, none⟩) ∧ v22 = .bool rok ∧ Ext (fun _ => False) wr wx ∧ blk wx xb = some (.cells #[.string rn, .int .i64 re, .int .i64 ra, .int .i64 rt] 28 (0, 0)))
                  case first =>
                    clear hlk
                    go_region_held3 (fun w' => w'.cell? ⟨rsB, k, none⟩ = some (.pointer (some ⟨rk, 0, none⟩)) ∧ w'.cell? ⟨csB, 1 + k, none⟩ = some (.pointer (some ⟨ck, 0, none⟩)))
                      (first | exact ⟨hrx, hcx⟩ | exact ⟨y0, y1⟩ | (simp only [cell?_setCell_if, nrs, ncs, false_and, if_false]; exact ⟨y0, y1⟩) | go_keep)
                      ((first
                        | (go_at_call 20; refine (now_any ck _ (s.u (1 + k)) (s.tt (1 + k)) ((Ext.blk (S := fun _ => False) (w := wr) (by repeat (first | exact Ext.refl _ _ | apply Ext.drewN | apply Ext.drew | apply Ext.alloc)) (blk_lt Hkc.out) id).trans Hkc.out) hbk.1 (by omega)).mono ?_; rintro r w' ⟨rfl, hw⟩; obtain rfl := hw.symm)
                        | (go_at_call 13; refine (resolve_any rk mk _ (s.res k) (Hres.out.ext (S := fun _ => False) (by repeat (first | exact Ext.refl _ _ | apply Ext.drewN | apply Ext.drew | apply Ext.alloc)) id id) nm (s.u (1 + k) / 64)).mono ?_; rintro r w1 ⟨hr, hx1⟩; rw [Hrv.out] at hr; obtain rfl : r = .returned (.tuple #[.agg #[.string rn, .int .i64 re, .int .i64 ra, .int .i64 rt], .bool rok]) := hr; have hxx : Ext (fun _ => False) wr w1 := Ext.trans (b := _) (by repeat (first | exact Ext.refl _ _ | apply Ext.drewN | apply Ext.drew | apply Ext.alloc)) hx1; have y0 := (hxx.cell (p := ⟨rsB, k, none⟩) hrslt id).trans hrx; have y1 := (hxx.cell (p := ⟨csB, 1 + k, none⟩) hcslt id).trans hcx; try (have hz := (hx1.blk (k := wr.heap.size) (by simp) id).trans (blk_alloc_at _ _); have z0 := cell_of_cells hz 0; have z1 := cell_of_cells hz 1; have z2 := cell_of_cells hz 2; have z3 := cell_of_cells hz 3; simp at z0 z1 z2 z3; have x0 := free_of_cells hz 0; have x1 := free_of_cells hz 1; have x2 := free_of_cells hz 2; have x3 := free_of_cells hz 3))))
                    all_goals (go_wp2_with fail; go_meet)
                    · exact ⟨_, rfl, rfl, hxx.alloc _, blk_alloc_at _ _⟩
                    · refine ⟨_, rfl, rfl, ?_, by simpa using blk_setCell_same (blk_setCell_same (blk_setCell_same (blk_setCell_same hz 0 (.string rn)) 1 (.int .i64 re)) 2 (.int .i64 ra)) 3 (.int .i64 rt)⟩
                      exact Ext.setCell (Ext.setCell (Ext.setCell (Ext.setCell hxx _ (fun h => absurd h (Nat.lt_irrefl _))) _ (fun h => absurd h (Nat.lt_irrefl _))) _ (fun h => absurd h (Nat.lt_irrefl _))) _ (fun h => absurd h (Nat.lt_irrefl _))
                    · refine ⟨_, rfl, rfl, ?_, by simpa using blk_setCell_same (blk_setCell_same (blk_setCell_same (blk_setCell_same hz 0 (.string rn)) 1 (.int .i64 re)) 2 (.int .i64 ra)) 3 (.int .i64 rt)⟩
                      exact Ext.setCell (Ext.setCell (Ext.setCell (Ext.setCell hxx _ (fun h => absurd h (Nat.lt_irrefl _))) _ (fun h => absurd h (Nat.lt_irrefl _))) _ (fun h => absurd h (Nat.lt_irrefl _))) _ (fun h => absurd h (Nat.lt_irrefl _))
                  case rest =>
                    obtain ⟨xb, rfl, rfl, hxw, hxb⟩ := hcut
                    have hcmw := (hxw.blk hcmlt id).trans Hcm.out
                    have x1 := cell_of_cells hxb 1
                    simp at x1
                    have HR1 := Lib.hid (HR.out.quiet hxw)
                    clear hxw hxb hrx hcx
                    cases rok with
                    | true =>
                      have hf : cutF cu re = false := Hsafe.out rfl
                      have hlk1 := hlk re wc hcmw
                      rw [hf] at hlk1
                      clear hlk hf hcmw
                      go_wp2
                      go_roundg (3 - (k + 1))
                      case measure => omega
                      case rel => exact ⟨k + 1, by omega, rfl, by go_num, HR1.out⟩
                    | false =>
                      clear hlk hcmw
                      go_wp2
                      go_roundg (3 - (k + 1))
                      case measure => omega
                      case rel => exact ⟨k + 1, by omega, rfl, by go_num, HR1.out⟩
                · have HR := Lib.hid hR
                  clear hR
                  go_wp2
                  go_roundg (ks.length - (q + 1))
                  case measure => omega
                  case rel => exact ⟨q + 1, by omega, rfl, by go_num, ao, pc, { s with cut := cu }, T, L, tag, rfl, rfl, HR.out, HI.out⟩
    · have Hx := Lib.hid hR.ext
      clear hR hI
      go_wp2
      go_ret
      exact ⟨rfl, Hx.out⟩
end Go.Proofs.Ytgmopnbejjfbjaa

