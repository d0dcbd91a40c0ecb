/-
  StoreFull: the walk. Conditions: n is a uint16.
-/
import Derived.Test.YthipbmppmgkklaaTJ
namespace Go.Proofs.Ythipbmppmgkklaa
open Go.RowKit Go.MapKept
open Go.ChangeMaps (setBlock)

theorem newRs_cases {k : Int} {x : Rs} (h : newRs k = x) : (k = 0 ∧ x = ⟨0, false, 0⟩) ∨ (k = 1 ∧ x = ⟨8, false, 0⟩) ∨ (k = 2 ∧ x = ⟨0, false, 0⟩) ∨ (k = 3 ∧ x = ⟨8, false, 0⟩) ∨ (¬ k = 0 ∧ ¬ k = 1 ∧ ¬ k = 2 ∧ ¬ k = 3 ∧ x = ⟨1, false, 0⟩) := by
  subst h
  unfold newRs
  by_cases h0 : k = 0
  · subst h0; exact .inl ⟨rfl, rfl⟩
  by_cases h1 : k = 1
  · subst h1; exact .inr (.inl ⟨rfl, rfl⟩)
  by_cases h2 : k = 2
  · subst h2; exact .inr (.inr (.inl ⟨rfl, rfl⟩))
  by_cases h3 : k = 3
  · subst h3; exact .inr (.inr (.inr (.inl ⟨rfl, rfl⟩)))
  · refine .inr (.inr (.inr (.inr ⟨h0, h1, h2, h3, ?_⟩)))
    rw [if_neg (by omega), if_neg (by omega)]
theorem run_field0 (a b c : Value) (w : World) : (Instr.field 31 (.agg #[a, b, c]) 0).run Try.prog w = .ok a w := by kernel_rfl
set_option maxRecDepth 100000 in
set_option maxHeartbeats 4000000 in
theorem full_any (w : World) (k v : Int) (n : Nat) (hn : n ≤ 65535) : Calls Try.prog 4 #[.int .i64 k, .int .i64 v, .int .u16 n] w (AwakePost w) := by
  have hfd := run_field0
  go_enter Try.func4, Try.ntmps4
  go_wp2_with fail
  refine (awake_any _).mono ?_
  rintro r w1 ⟨rfl, hx1⟩
  go_wp2_with fail
  refine (new_any w1).mono ?_
  rintro r w2 ⟨sb, mb, rfl, hs2, hx2, h1, h2⟩
  have hxw := hx1.trans hx2
  have hle := hx1.size
  have hmw : w.heap.size ≤ mb := by omega
  have Hs := Lib.hid hs2
  have Hx := Lib.hid hxw
  clear hs2 hx1 hx2 hxw hle h1 h2
  go_wp2_with fail
  go_loopg [9] 1024 (fun g v9 wr => ∃ j : Nat, j ≤ 1024 ∧ g = 1024 - j ∧ v9 = .int .i64 j ∧ IsStore wr sb mb (full j) ∧ Ext (fun _ => False) w wr)
  case atStart => exact ⟨0, by omega, rfl, rfl, Hs.out, Hx.out⟩
  case round =>
    obtain ⟨j, hj, rfl, rfl, hs, hx⟩ := hrel
    clear Hs Hx
    have Hs := Lib.hid hs
    have Hx := Lib.hid hx
    clear hs hx
    by_cases hjl : j < 1024
    · have hji : (j : Int) < 1024 := by omega
      go_wp2_with fail
      refine (key_any wr j hjl).mono ?_
      rintro r w3 ⟨rfl, hx3⟩
      have hs3 := Hs.out.ext hx3 id id
      have hx3' := Hx.out.trans hx3
      have Hs3 := Lib.hid hs3
      have Hx3 := Lib.hid hx3'
      clear hx3 hs3 hx3' Hs Hx
      go_wp2_with fail
      refine (do_any w3 sb mb (full j) Hs3.out (by rw [full_length]; omega) ⟨1, keyM j, j, 0⟩ (by rw [keyM_size]; omega)).mono ?_
      rw [put_full hjl]
      rintro r w4 ⟨rfl, hs4, hx4⟩
      have hx4' := Hx3.out.own hx4 hmw
      have Hs4 := Lib.hid hs4
      have Hx4 := Lib.hid hx4'
      clear hs4 hx4 hx4' Hs3 Hx3
      simp only [Rs.val]
      go_wp2
      go_roundg (1024 - (j + 1))
      case measure => omega
      case rel => exact ⟨j + 1, by omega, rfl, by go_num, Hs4.out, Hx4.out⟩
    · obtain rfl : j = 1024 := by omega
      clear hjl hj
      go_upto_region 10 with fail
      go_wp2_with fail
      refine (do_any wr sb mb (full 1024) Hs.out (by rw [full_length]; omega) ⟨k, bNew, v, 0⟩ (show bNew.size ≤ 9223372036854775807 by decide)).mono ?_
      rw [new_full]
      rintro r w3 ⟨rfl, hs3, hx3⟩
      have hx3' := Hx.out.own hx3 hmw
      have hl3 := hs3.lt
      have Hs3 := Lib.hid hs3
      have Hx3 := Lib.hid hx3'
      clear hs3 hx3 hx3' Hs Hx
      obtain ⟨x, hxe⟩ : ∃ x, newRs k = x := ⟨_, rfl⟩
      rw [hxe] at Hs3 ⊢
      have h5 := newRs_cases hxe
      obtain ⟨i, hie⟩ : ∃ i, n % 1024 = i := ⟨_, rfl⟩
      have hi : i < 1024 := by omega
      obtain ⟨mf, hadd, hmf⟩ := add_full i hi v
      have Hadd := Lib.hid hadd
      have Hmf := Lib.hid hmf
      have hcv : (n : Int) % 1024 = (i : Int) := by omega
      have Hi := Lib.hid hie
      clear hadd hmf hie
      clear hxe hfd
      rcases h5 with ⟨rfl, rfl⟩ | ⟨rfl, rfl⟩ | ⟨rfl, rfl⟩ | ⟨rfl, rfl⟩ | ⟨k0, k1, k2, k3, rfl⟩
      · simp only [Rs.val]
        go_upto_region 11 with fail
        have hb4 := Box.new w3 ⟨0, false, 0⟩
        have hs4 := Hs3.out.ext ((Ext.refl (fun _ => False) w3).alloc (.cells #[.int .i64 0, .bool false, .int .i64 0] 31)) id id
        have hx4 := Hx3.out.alloc (.cells #[.int .i64 0, .bool false, .int .i64 0] 31)
        clear Hs3 Hx3
        generalize w3.heap.size = B1 at *
        generalize w3.alloc (.cells #[.int .i64 0, .bool false, .int .i64 0] 31) = w5 at *
        obtain ⟨p0, p1, p2⟩ := hb4.reads
        simp only at p0 p1 p2
        have Hs := Lib.hid hs4
        have Hx := Lib.hid hx4
        have Hi' := Hi
        clear hb4 hs4 hx4
        go_upto_region 22 with fail
        clear p0 p1 p2
        go_wp2_with fail
        refine (key_any w5 _ hi).mono ?_
        rintro r w6 ⟨rfl, hx6⟩
        have hs6 := Hs.out.ext hx6 id id
        have hx6' := Hx.out.trans hx6
        have Hs6 := Lib.hid hs6
        have Hx6 := Lib.hid hx6'
        clear hs6 hx6 hx6' Hs Hx
        go_wp2_with fail
        refine (do_any w6 sb mb (full 1024) Hs6.out (by rw [full_length]; omega) ⟨3, keyM i, v, 0⟩ (by rw [keyM_size]; omega)).mono ?_
        rw [Hadd.out]
        rintro r w7 ⟨rfl, hs7, hx7⟩
        have hx7' := Hx6.out.own hx7 hmw
        have Hs7 := Lib.hid hs7
        have Hx7 := Lib.hid hx7'
        clear hs7 hx7 hx7' Hs6 Hx6
        simp only [Rs.val]
        go_upto_region 24 with fail
        have hb8 := Box.new w7 ⟨0, true, wrap64 ((i : Int) + v)⟩
        have hs8 := Hs7.out.ext ((Ext.refl (fun _ => False) w7).alloc (.cells #[.int .i64 0, .bool true, .int .i64 (wrap64 ((i : Int) + v))] 31)) id id
        have hx8 := Hx7.out.alloc (.cells #[.int .i64 0, .bool true, .int .i64 (wrap64 ((i : Int) + v))] 31)
        clear Hs7 Hx7
        generalize w7.heap.size = B2 at *
        generalize w7.alloc (.cells #[.int .i64 0, .bool true, .int .i64 (wrap64 ((i : Int) + v))] 31) = w8 at *
        obtain ⟨p0, p1, p2⟩ := hb8.reads
        simp only at p0 p1 p2
        have Hs := Lib.hid hs8
        have Hx := Lib.hid hx8
        clear hb8 hs8 hx8
        go_wp2_with fail
        refine (len_any w8 sb mb mf Hs.out).mono ?_
        rintro r w9 ⟨rfl, hw⟩; obtain rfl := hw.symm
        rw [Hmf.out]
        go_wp2
        go_ret
        exact ⟨rfl, Hx.out⟩
      · simp only [Rs.val]
        go_upto_region 11 with fail
        have hb4 := Box.new w3 ⟨8, false, 0⟩
        have hs4 := Hs3.out.ext ((Ext.refl (fun _ => False) w3).alloc (.cells #[.int .i64 8, .bool false, .int .i64 0] 31)) id id
        have hx4 := Hx3.out.alloc (.cells #[.int .i64 8, .bool false, .int .i64 0] 31)
        clear Hs3 Hx3
        generalize w3.heap.size = B1 at *
        generalize w3.alloc (.cells #[.int .i64 8, .bool false, .int .i64 0] 31) = w5 at *
        obtain ⟨p0, p1, p2⟩ := hb4.reads
        simp only at p0 p1 p2
        have Hs := Lib.hid hs4
        have Hx := Lib.hid hx4
        have Hi' := Hi
        clear hb4 hs4 hx4
        go_upto_region 22 with fail
        clear p0 p1 p2
        go_wp2_with fail
        refine (key_any w5 _ hi).mono ?_
        rintro r w6 ⟨rfl, hx6⟩
        have hs6 := Hs.out.ext hx6 id id
        have hx6' := Hx.out.trans hx6
        have Hs6 := Lib.hid hs6
        have Hx6 := Lib.hid hx6'
        clear hs6 hx6 hx6' Hs Hx
        go_wp2_with fail
        refine (do_any w6 sb mb (full 1024) Hs6.out (by rw [full_length]; omega) ⟨3, keyM i, v, 0⟩ (by rw [keyM_size]; omega)).mono ?_
        rw [Hadd.out]
        rintro r w7 ⟨rfl, hs7, hx7⟩
        have hx7' := Hx6.out.own hx7 hmw
        have Hs7 := Lib.hid hs7
        have Hx7 := Lib.hid hx7'
        clear hs7 hx7 hx7' Hs6 Hx6
        simp only [Rs.val]
        go_upto_region 24 with fail
        have hb8 := Box.new w7 ⟨0, true, wrap64 ((i : Int) + v)⟩
        have hs8 := Hs7.out.ext ((Ext.refl (fun _ => False) w7).alloc (.cells #[.int .i64 0, .bool true, .int .i64 (wrap64 ((i : Int) + v))] 31)) id id
        have hx8 := Hx7.out.alloc (.cells #[.int .i64 0, .bool true, .int .i64 (wrap64 ((i : Int) + v))] 31)
        clear Hs7 Hx7
        generalize w7.heap.size = B2 at *
        generalize w7.alloc (.cells #[.int .i64 0, .bool true, .int .i64 (wrap64 ((i : Int) + v))] 31) = w8 at *
        obtain ⟨p0, p1, p2⟩ := hb8.reads
        simp only at p0 p1 p2
        have Hs := Lib.hid hs8
        have Hx := Lib.hid hx8
        clear hb8 hs8 hx8
        go_wp2_with fail
        refine (len_any w8 sb mb mf Hs.out).mono ?_
        rintro r w9 ⟨rfl, hw⟩; obtain rfl := hw.symm
        rw [Hmf.out]
        go_wp2
        go_ret
        exact ⟨rfl, Hx.out⟩
      · simp only [Rs.val]
        go_upto_region 11 with fail
        have hb4 := Box.new w3 ⟨0, false, 0⟩
        have hs4 := Hs3.out.ext ((Ext.refl (fun _ => False) w3).alloc (.cells #[.int .i64 0, .bool false, .int .i64 0] 31)) id id
        have hx4 := Hx3.out.alloc (.cells #[.int .i64 0, .bool false, .int .i64 0] 31)
        clear Hs3 Hx3
        generalize w3.heap.size = B1 at *
        generalize w3.alloc (.cells #[.int .i64 0, .bool false, .int .i64 0] 31) = w5 at *
        obtain ⟨p0, p1, p2⟩ := hb4.reads
        simp only at p0 p1 p2
        have Hs := Lib.hid hs4
        have Hx := Lib.hid hx4
        have Hi' := Hi
        clear hb4 hs4 hx4
        go_upto_region 22 with fail
        clear p0 p1 p2
        go_wp2_with fail
        refine (key_any w5 _ hi).mono ?_
        rintro r w6 ⟨rfl, hx6⟩
        have hs6 := Hs.out.ext hx6 id id
        have hx6' := Hx.out.trans hx6
        have Hs6 := Lib.hid hs6
        have Hx6 := Lib.hid hx6'
        clear hs6 hx6 hx6' Hs Hx
        go_wp2_with fail
        refine (do_any w6 sb mb (full 1024) Hs6.out (by rw [full_length]; omega) ⟨3, keyM i, v, 0⟩ (by rw [keyM_size]; omega)).mono ?_
        rw [Hadd.out]
        rintro r w7 ⟨rfl, hs7, hx7⟩
        have hx7' := Hx6.out.own hx7 hmw
        have Hs7 := Lib.hid hs7
        have Hx7 := Lib.hid hx7'
        clear hs7 hx7 hx7' Hs6 Hx6
        simp only [Rs.val]
        go_upto_region 24 with fail
        have hb8 := Box.new w7 ⟨0, true, wrap64 ((i : Int) + v)⟩
        have hs8 := Hs7.out.ext ((Ext.refl (fun _ => False) w7).alloc (.cells #[.int .i64 0, .bool true, .int .i64 (wrap64 ((i : Int) + v))] 31)) id id
        have hx8 := Hx7.out.alloc (.cells #[.int .i64 0, .bool true, .int .i64 (wrap64 ((i : Int) + v))] 31)
        clear Hs7 Hx7
        generalize w7.heap.size = B2 at *
        generalize w7.alloc (.cells #[.int .i64 0, .bool true, .int .i64 (wrap64 ((i : Int) + v))] 31) = w8 at *
        obtain ⟨p0, p1, p2⟩ := hb8.reads
        simp only at p0 p1 p2
        have Hs := Lib.hid hs8
        have Hx := Lib.hid hx8
        clear hb8 hs8 hx8
        go_wp2_with fail
        refine (len_any w8 sb mb mf Hs.out).mono ?_
        rintro r w9 ⟨rfl, hw⟩; obtain rfl := hw.symm
        rw [Hmf.out]
        go_wp2
        go_ret
        exact ⟨rfl, Hx.out⟩
      · simp only [Rs.val]
        go_upto_region 11 with fail
        have hb4 := Box.new w3 ⟨8, false, 0⟩
        have hs4 := Hs3.out.ext ((Ext.refl (fun _ => False) w3).alloc (.cells #[.int .i64 8, .bool false, .int .i64 0] 31)) id id
        have hx4 := Hx3.out.alloc (.cells #[.int .i64 8, .bool false, .int .i64 0] 31)
        clear Hs3 Hx3
        generalize w3.heap.size = B1 at *
        generalize w3.alloc (.cells #[.int .i64 8, .bool false, .int .i64 0] 31) = w5 at *
        obtain ⟨p0, p1, p2⟩ := hb4.reads
        simp only at p0 p1 p2
        have Hs := Lib.hid hs4
        have Hx := Lib.hid hx4
        have Hi' := Hi
        clear hb4 hs4 hx4
        go_upto_region 22 with fail
        clear p0 p1 p2
        go_wp2_with fail
        refine (key_any w5 _ hi).mono ?_
        rintro r w6 ⟨rfl, hx6⟩
        have hs6 := Hs.out.ext hx6 id id
        have hx6' := Hx.out.trans hx6
        have Hs6 := Lib.hid hs6
        have Hx6 := Lib.hid hx6'
        clear hs6 hx6 hx6' Hs Hx
        go_wp2_with fail
        refine (do_any w6 sb mb (full 1024) Hs6.out (by rw [full_length]; omega) ⟨3, keyM i, v, 0⟩ (by rw [keyM_size]; omega)).mono ?_
        rw [Hadd.out]
        rintro r w7 ⟨rfl, hs7, hx7⟩
        have hx7' := Hx6.out.own hx7 hmw
        have Hs7 := Lib.hid hs7
        have Hx7 := Lib.hid hx7'
        clear hs7 hx7 hx7' Hs6 Hx6
        simp only [Rs.val]
        go_upto_region 24 with fail
        have hb8 := Box.new w7 ⟨0, true, wrap64 ((i : Int) + v)⟩
        have hs8 := Hs7.out.ext ((Ext.refl (fun _ => False) w7).alloc (.cells #[.int .i64 0, .bool true, .int .i64 (wrap64 ((i : Int) + v))] 31)) id id
        have hx8 := Hx7.out.alloc (.cells #[.int .i64 0, .bool true, .int .i64 (wrap64 ((i : Int) + v))] 31)
        clear Hs7 Hx7
        generalize w7.heap.size = B2 at *
        generalize w7.alloc (.cells #[.int .i64 0, .bool true, .int .i64 (wrap64 ((i : Int) + v))] 31) = w8 at *
        obtain ⟨p0, p1, p2⟩ := hb8.reads
        simp only at p0 p1 p2
        have Hs := Lib.hid hs8
        have Hx := Lib.hid hx8
        clear hb8 hs8 hx8
        go_wp2_with fail
        refine (len_any w8 sb mb mf Hs.out).mono ?_
        rintro r w9 ⟨rfl, hw⟩; obtain rfl := hw.symm
        rw [Hmf.out]
        go_wp2
        go_ret
        exact ⟨rfl, Hx.out⟩
      · simp only [Rs.val]
        go_upto_region 11 with fail
        have hb4 := Box.new w3 ⟨1, false, 0⟩
        have hs4 := Hs3.out.ext ((Ext.refl (fun _ => False) w3).alloc (.cells #[.int .i64 1, .bool false, .int .i64 0] 31)) id id
        have hx4 := Hx3.out.alloc (.cells #[.int .i64 1, .bool false, .int .i64 0] 31)
        clear Hs3 Hx3
        generalize w3.heap.size = B1 at *
        generalize w3.alloc (.cells #[.int .i64 1, .bool false, .int .i64 0] 31) = w5 at *
        obtain ⟨p0, p1, p2⟩ := hb4.reads
        simp only at p0 p1 p2
        have Hs := Lib.hid hs4
        have Hx := Lib.hid hx4
        have Hi' := Hi
        clear hb4 hs4 hx4
        go_upto_region 22 with fail
        clear p0 p1 p2
        go_wp2_with fail
        refine (key_any w5 _ hi).mono ?_
        rintro r w6 ⟨rfl, hx6⟩
        have hs6 := Hs.out.ext hx6 id id
        have hx6' := Hx.out.trans hx6
        have Hs6 := Lib.hid hs6
        have Hx6 := Lib.hid hx6'
        clear hs6 hx6 hx6' Hs Hx
        go_wp2_with fail
        refine (do_any w6 sb mb (full 1024) Hs6.out (by rw [full_length]; omega) ⟨3, keyM i, v, 0⟩ (by rw [keyM_size]; omega)).mono ?_
        rw [Hadd.out]
        rintro r w7 ⟨rfl, hs7, hx7⟩
        have hx7' := Hx6.out.own hx7 hmw
        have Hs7 := Lib.hid hs7
        have Hx7 := Lib.hid hx7'
        clear hs7 hx7 hx7' Hs6 Hx6
        simp only [Rs.val]
        go_upto_region 24 with fail
        have hb8 := Box.new w7 ⟨0, true, wrap64 ((i : Int) + v)⟩
        have hs8 := Hs7.out.ext ((Ext.refl (fun _ => False) w7).alloc (.cells #[.int .i64 0, .bool true, .int .i64 (wrap64 ((i : Int) + v))] 31)) id id
        have hx8 := Hx7.out.alloc (.cells #[.int .i64 0, .bool true, .int .i64 (wrap64 ((i : Int) + v))] 31)
        clear Hs7 Hx7
        generalize w7.heap.size = B2 at *
        generalize w7.alloc (.cells #[.int .i64 0, .bool true, .int .i64 (wrap64 ((i : Int) + v))] 31) = w8 at *
        obtain ⟨p0, p1, p2⟩ := hb8.reads
        simp only at p0 p1 p2
        have Hs := Lib.hid hs8
        have Hx := Lib.hid hx8
        clear hb8 hs8 hx8
        go_wp2_with fail
        refine (len_any w8 sb mb mf Hs.out).mono ?_
        rintro r w9 ⟨rfl, hw⟩; obtain rfl := hw.symm
        rw [Hmf.out]
        go_wp2
        go_ret
        exact ⟨rfl, Hx.out⟩
end Go.Proofs.Ythipbmppmgkklaa
