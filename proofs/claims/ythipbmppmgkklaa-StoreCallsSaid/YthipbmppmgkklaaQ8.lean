/-
  StoreInverts: the plain law and the walk. Conditions: the numbers are int64s.
-/
import Derived.Test.YthipbmppmgkklaaQ7
namespace Go.Proofs.Ythipbmppmgkklaa
open Go.RowKit Go.MapKept
open Go.ChangeMaps (setBlock)

theorem intM_enc (n : Int) (h1 : -9223372036854775808 ≤ n) (h2 : n ≤ 9223372036854775807) (t : List UInt8) : intM ⟨encInt n ++ t, 0⟩ = (n, ⟨t, 0⟩) := by
  unfold intM encInt
  rw [numberM_enc (by have := zz_le n h1 h2; omega)]
  simp only
  rw [unzz_zz]
theorem bitM_enc (f : Bool) (t : List UInt8) : bitM ⟨(if f then (1 : UInt8) else 0) :: t, 0⟩ = (if f then 1 else 0, ⟨t, 0⟩) := by
  cases f <;> rfl
theorem decOp_enc (k : Int) (key : ByteArray) (xv xo : Int) (h1 : -9223372036854775808 ≤ k ∧ k ≤ 9223372036854775807) (h2 : -9223372036854775808 ≤ xv ∧ xv ≤ 9223372036854775807) (h3 : -9223372036854775808 ≤ xo ∧ xo ≤ 9223372036854775807) (hk : key.size ≤ 1000) :
    decOpM ⟨encOpM ⟨k, key, xv, xo⟩, 0⟩ = (⟨k, key, xv, xo⟩, ⟨[], 0⟩) := by
  have hsz : key.data.toList.length = key.size := Array.length_toList
  have e1 : encOpM ⟨k, key, xv, xo⟩ = encInt k ++ (encNum key.data.toList.length ++ key.data.toList ++ (encInt xv ++ (encInt xo ++ []))) := by
    rw [hsz]; simp [encOpM]
  have a1 : intM ⟨encOpM ⟨k, key, xv, xo⟩, 0⟩ = (k, ⟨encNum key.data.toList.length ++ key.data.toList ++ (encInt xv ++ (encInt xo ++ [])), 0⟩) := by rw [e1]; exact intM_enc k h1.1 h1.2 _
  have a2 := textM_enc (d := key.data.toList) (by omega) (encInt xv ++ (encInt xo ++ []))
  have a3 := intM_enc xv h2.1 h2.2 (encInt xo ++ [])
  have a4 := intM_enc xo h3.1 h3.2 []
  unfold decOpM
  simp only [a1, a2, a3, a4]
  rfl
theorem decRes_enc (k : Int) (f : Bool) (xv : Int) (h1 : -9223372036854775808 ≤ k ∧ k ≤ 9223372036854775807) (h2 : -9223372036854775808 ≤ xv ∧ xv ≤ 9223372036854775807) :
    decResM ⟨encResM ⟨k, f, xv⟩, 0⟩ = (⟨k, f, xv⟩, ⟨[], 0⟩) := by
  have e1 : encResM ⟨k, f, xv⟩ = encInt k ++ ((if f then (1 : UInt8) else 0) :: (encInt xv ++ [])) := by simp [encResM]
  have a1 : intM ⟨encResM ⟨k, f, xv⟩, 0⟩ = (k, ⟨(if f then (1 : UInt8) else 0) :: (encInt xv ++ []), 0⟩) := by rw [e1]; exact intM_enc k h1.1 h1.2 _
  have a2 := bitM_enc f (encInt xv ++ [])
  have a3 := intM_enc xv h2.1 h2.2 []
  unfold decResM
  simp only [a1, a2, a3]
  cases f <;> rfl
theorem encOp_size (k : Int) (key : ByteArray) (xv xo : Int) (h1 : -9223372036854775808 ≤ k ∧ k ≤ 9223372036854775807) (h2 : -9223372036854775808 ≤ xv ∧ xv ≤ 9223372036854775807) (h3 : -9223372036854775808 ≤ xo ∧ xo ≤ 9223372036854775807) (hk : key.size ≤ 1000) :
    (⟨(encOpM ⟨k, key, xv, xo⟩).toArray⟩ : ByteArray).size ≤ 1000000 := by
  have l1 : (encInt k).length ≤ 9 := encNum_length _ (zz_le k h1.1 h1.2)
  have l2 : (encInt xv).length ≤ 9 := encNum_length _ (zz_le xv h2.1 h2.2)
  have l3 : (encInt xo).length ≤ 9 := encNum_length _ (zz_le xo h3.1 h3.2)
  have l4 : (encNum key.size).length ≤ 9 := encNum_length _ (by omega)
  have hsz : key.data.toList.length = key.size := Array.length_toList
  show (encOpM ⟨k, key, xv, xo⟩).toArray.size ≤ _
  rw [List.size_toArray]
  unfold encOpM
  simp only [List.length_append]
  omega
theorem encRes_size (k : Int) (f : Bool) (xv : Int) (h1 : -9223372036854775808 ≤ k ∧ k ≤ 9223372036854775807) (h2 : -9223372036854775808 ≤ xv ∧ xv ≤ 9223372036854775807) : (⟨(encResM ⟨k, f, xv⟩).toArray⟩ : ByteArray).size ≤ 1000000 := by
  have l1 : (encInt k).length ≤ 9 := encNum_length _ (zz_le k h1.1 h1.2)
  have l2 : (encInt xv).length ≤ 9 := encNum_length _ (zz_le xv h2.1 h2.2)
  show (encResM ⟨k, f, xv⟩).toArray.size ≤ _
  rw [List.size_toArray]
  unfold encResM
  simp only [List.length_append, List.length_cons, List.length_nil]
  omega
set_option maxRecDepth 100000 in
set_option maxHeartbeats 4000000 in
theorem inverts_core (w : World) (k : Int) (key : ByteArray) (xv xo : Int) (c : Int) (f : Bool) (rv : Int) (h1 : -9223372036854775808 ≤ k ∧ k ≤ 9223372036854775807) (h2 : -9223372036854775808 ≤ xv ∧ xv ≤ 9223372036854775807) (h3 : -9223372036854775808 ≤ xo ∧ xo ≤ 9223372036854775807)
    (h4 : -9223372036854775808 ≤ c ∧ c ≤ 9223372036854775807) (h5 : -9223372036854775808 ≤ rv ∧ rv ≤ 9223372036854775807) (hks : key.size ≤ 9223372036854775807) :
    Calls Try.prog 8 #[.agg #[.int .i64 k, .string key, .int .i64 xv, .int .i64 xo], .agg #[.int .i64 c, .bool f, .int .i64 rv]] w (AwakePost w) := by
  obtain ⟨w0, hw0⟩ : ∃ w0, w0 = (w.alloc (.cells #[.int .i64 k, .string key, .int .i64 xv, .int .i64 xo] 24)).alloc (.cells #[.int .i64 c, .bool f, .int .i64 rv] 31) := ⟨_, rfl⟩
  have hx0 : Ext (fun _ => False) w w0 := by rw [hw0]; exact ((Ext.refl _ w).alloc _).alloc _
  have ha0 : blk w0 w.heap.size = some (.cells #[.int .i64 k, .string key, .int .i64 xv, .int .i64 xo] 24 (0, 0)) := by rw [hw0]; exact (blk_alloc_past _ _ _ (by simp)).trans (blk_alloc_at _ _)
  have hb0 : blk w0 (w.heap.size + 1) = some (.cells #[.int .i64 c, .bool f, .int .i64 rv] 31 (0, 0)) := by rw [hw0]; simpa using blk_alloc_at (w.alloc (.cells #[.int .i64 k, .string key, .int .i64 xv, .int .i64 xo] 24)) (.cells #[.int .i64 c, .bool f, .int .i64 rv] 31)
  have Hx0 := Lib.hid hx0
  have Ha0 := Lib.hid ha0
  have Hb0 := Lib.hid hb0
  clear hx0 ha0 hb0
  go_enter Try.func8, Try.ntmps8
  go_upto_region 1 with fail
  rw [← hw0]
  clear hw0
  generalize w.heap.size + 1 = B at *
  generalize w.heap.size = A at *
  go_wp2_with fail
  refine (awake_any _).mono ?_
  rintro r w1 ⟨rfl, hx1⟩
  have Hx1 := Lib.hid (Hx0.out.trans hx1)
  have ha1 := (hx1.blk (blk_lt Ha0.out) id).trans Ha0.out
  have hb1 := (hx1.blk (blk_lt Hb0.out) id).trans Hb0.out
  obtain ⟨a0, a1, a2, a3⟩ := box4 ha1
  have hltA := blk_lt ha1
  have Ha1 := Lib.hid ha1
  have Hb1 := Lib.hid hb1
  clear hx1 ha1 hb1 Ha0 Hb0 Hx0
  by_cases hbig : (60 : Int) < key.size
  · go_wp2
    go_ret
    exact ⟨rfl, Hx1.out⟩
  · have hk : key.size ≤ 1000 := by omega
    have he := encodeOp_any w1 k key xv xo h1 h2 h3 hk
    have hd := fun (W : World) => decodeOp_any W ⟨(encOpM ⟨k, key, xv, xo⟩).toArray⟩ (encOp_size k key xv xo h1 h2 h3 hk)
    have e0 : (⟨(⟨(encOpM ⟨k, key, xv, xo⟩).toArray⟩ : ByteArray).data.toList, 0⟩ : RS) = ⟨encOpM ⟨k, key, xv, xo⟩, 0⟩ := by simp
    simp only [e0, decOp_enc k key xv xo h1 h2 h3 hk] at hd
    have hr := fun (W : World) => encodeResult_any W c f rv h4 h5
    have hq := fun (W : World) => decodeResult_any W ⟨(encResM ⟨c, f, rv⟩).toArray⟩ (encRes_size c f rv h4 h5)
    have e1 : (⟨(⟨(encResM ⟨c, f, rv⟩).toArray⟩ : ByteArray).data.toList, 0⟩ : RS) = ⟨encResM ⟨c, f, rv⟩, 0⟩ := by simp
    simp only [e1, decRes_enc c f rv h4 h5] at hq
    have He := Lib.hid he
    have Hd := Lib.hid hd
    have Hr := Lib.hid hr
    have Hq := Lib.hid hq
    clear he hd hr hq e0 e1
    go_wp2_with fail
    refine He.out.mono ?_
    rintro r w2 ⟨rfl, hx2⟩
    have Hx2 := Lib.hid hx2
    clear hx2
    go_wp2_with fail
    refine (Hd.out w2).mono ?_
    rintro r w3 ⟨hx3, hr3⟩
    have hr3 : r = .returned (.tuple #[.agg #[.int .i64 k, .string key, .int .i64 xv, .int .i64 xo], .int .i64 0]) := by
      rcases hr3 with ⟨_, e⟩ | ⟨h, _⟩
      · exact e
      · exact absurd rfl h
    subst hr3
    have Hx3 := Lib.hid (Hx2.out.trans hx3)
    have ha3 := (Hx3.out.blk (blk_lt Ha1.out) id).trans Ha1.out
    have hb3 := (Hx3.out.blk (blk_lt Hb1.out) id).trans Hb1.out
    obtain ⟨b0, b1, b2⟩ := box_cells hb3
    have hltB := blk_lt hb3
    obtain ⟨w4, hw4⟩ : ∃ w4, w4 = w3.alloc (.cells #[.int .i64 k, .string key, .int .i64 xv, .int .i64 xo] 24) := ⟨_, rfl⟩
    have hx4 : Ext (fun _ => False) w3 w4 := by rw [hw4]; exact (Ext.refl _ w3).alloc _
    have hc4 : blk w4 w3.heap.size = some (.cells #[.int .i64 k, .string key, .int .i64 xv, .int .i64 xo] 24 (0, 0)) := by rw [hw4]; exact blk_alloc_at _ _
    have Ha4 := Lib.hid ((hx4.blk (blk_lt ha3) id).trans ha3)
    have Hb4 := Lib.hid ((hx4.blk (blk_lt hb3) id).trans hb3)
    have Hc4 := Lib.hid hc4
    have Hx4 := Lib.hid ((Hx1.out.trans Hx3.out).trans hx4)
    clear hx3 hb3 ha3 a0 a1 a2 a3 b0 b1 b2 hltB hx4 hc4
    obtain ⟨b0, b1, b2⟩ := box_cells Hb4.out
    have hltB := blk_lt Hb4.out
    go_upto_region 6 with fail
    rw [← hw4]
    clear hw4
    generalize w3.heap.size = C at *
    go_wp2_with fail
    refine (Hr.out w4).mono ?_
    rintro r w5 ⟨rfl, hx5⟩
    have Hx5 := Lib.hid hx5
    clear hx5
    go_wp2_with fail
    refine (Hq.out w5).mono ?_
    rintro r w6 ⟨hx6, hr6⟩
    have hr6 : r = .returned (.tuple #[.agg #[.int .i64 c, .bool f, .int .i64 rv], .int .i64 0]) := by
      rcases hr6 with ⟨_, e⟩ | ⟨h, _⟩
      · exact e
      · exact absurd rfl h
    subst hr6
    obtain ⟨w7, hw7⟩ : ∃ w7, w7 = w6.alloc (.cells #[.int .i64 c, .bool f, .int .i64 rv] 31) := ⟨_, rfl⟩
    have hx7 : Ext (fun _ => False) w4 w7 := by rw [hw7]; exact (Hx5.out.trans hx6).alloc _
    have hd7 : blk w7 w6.heap.size = some (.cells #[.int .i64 c, .bool f, .int .i64 rv] 31 (0, 0)) := by rw [hw7]; exact blk_alloc_at _ _
    clear hx6 b0 b1 b2 hltB
    go_upto_region 7 with fail
    rw [← hw7]
    clear hw7
    generalize w6.heap.size = D at *
    have ha7 := (hx7.blk (blk_lt Ha4.out) id).trans Ha4.out
    have hb7 := (hx7.blk (blk_lt Hb4.out) id).trans Hb4.out
    have hc7 := (hx7.blk (blk_lt Hc4.out) id).trans Hc4.out
    obtain ⟨a0, a1, a2, a3⟩ := box4 ha7
    obtain ⟨b0, b1, b2⟩ := box_cells hb7
    obtain ⟨c0, c1, c2, c3⟩ := box4 hc7
    obtain ⟨d0, d1, d2⟩ := box_cells hd7
    have hl1 := blk_lt ha7
    have hl2 := blk_lt hb7
    have hl3 := blk_lt hc7
    have hl4 := blk_lt hd7
    have Hxf := Lib.hid (Hx4.out.trans hx7)
    clear ha7 hb7 hc7 hd7 hx7
    go_wp2_with fail
    go_ret
    exact ⟨ret_bool (by simp), Hxf.out⟩
end Go.Proofs.Ythipbmppmgkklaa
