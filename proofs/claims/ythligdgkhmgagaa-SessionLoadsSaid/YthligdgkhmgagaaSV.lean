/-
  Package session: the function that writes a client's row. Conditions: the slice is the caller's own; numbers not negative.
-/
import Derived.Test.YthligdgkhmgagaaSU
namespace Go.Proofs.Ythligdgkhmgagaa
open Go.RowKit Go.MapKept
open Go.ChangeMaps (setBlock)

set_option maxRecDepth 100000 in
set_option maxHeartbeats 2000000 in
theorem clo1_any (w : World) (v : Value) (l : List UInt8) (k n : Nat) (s : ByteArray) (hb : IsBytes w v l) (hl : l.length ≤ 1073740000) (hk : k ≤ 9223372036854775807) (hn : n ≤ 9223372036854775807) (hs : s.size ≤ 1000) :
    Calls Try.prog 43 #[v, .int .i64 k, .agg #[.int .i64 n, .string s]] w (AppPost w v (l ++ encC (k, ⟨n, s⟩))) := by
  have hvl : ∀ g, v.ownBlock = some g → g < w.heap.size := fun g e => by
    obtain ⟨cur, h⟩ := row_type hb e
    exact blk_lt h
  have Hvl := Lib.hid hvl
  have Hb := Lib.hid hb
  obtain ⟨ab, cb, rfl⟩ := hb.shape
  clear hb hvl
  go_enter Try.func43, Try.ntmps43
  go_upto_region 1 with fail
  have hbx := blk_alloc_at w (.cells #[.int .i64 n, .string s] 63)
  have hx1 : Ext (fun _ => False) w (w.alloc (.cells #[.int .i64 n, .string s] 63)) := (Ext.refl _ w).alloc _
  have hxs : (w.alloc (.cells #[.int .i64 n, .string s] 63)).heap.size = w.heap.size + 1 := by simp
  obtain ⟨xb, hxb⟩ : ∃ x, w.heap.size = x := ⟨_, rfl⟩
  rw [hxb] at hbx
  generalize w.alloc (.cells #[.int .i64 n, .string s] 63) = w1 at *
  rw [hxb]
  obtain ⟨d0, d1⟩ := cells_two hbx
  have hlt := blk_lt hbx
  have Hbx := Lib.hid hbx
  have Hx1 := Lib.hid hx1
  have Hxb := Lib.hid hxb
  have hs1 : w.heap.size < w1.heap.size := by omega
  clear hbx hx1 hxb hxs
  go_region_held3 (fun w' => w'.cell? ⟨xb, 0, none⟩ = some (.int .i64 n) ∧ w'.cell? ⟨xb, 1, none⟩ = some (.string s))
    (first | exact ⟨by assumption, by assumption⟩ | go_keep)
    (first
      | (go_at_call 45; refine (put2_any _ _ l _ _ k n (Hb.out.ext (S := fun _ => False) ((Hx1.out.alloc _).drew) (fun _ _ h => h)) (by omega) (by simp) (by simp) (fun e => (by have := Hvl.out _ e; (try simp at this); omega)) hk hn).mono ?_; rintro r w5 ⟨v5, rfl, hb5, hx5, ha5⟩; have hxx : Ext (fun b => (Value.slice ab l.length cb).ownBlock = some b) w1 w5 := (((Ext.refl _ w1).alloc _).drew).trans hx5; have hbx5 := (hxx.blk hlt (fun e => (by have := Hvl.out _ e; have := Hxb.out; omega))).trans Hbx.out; obtain ⟨y0, y1⟩ := cells_two hbx5; have Hbx5 := Lib.hid hbx5; have Hx5 := Lib.hid (((ext_any Hx1.out _).trans hxx : Ext (fun b => (Value.slice ab l.length cb).ownBlock = some b) w w5)); have ha5' : ∀ g, v5.ownBlock = some g → (Value.slice ab l.length cb).ownBlock = some g ∨ w.heap.size ≤ g := fun g e => (ha5 g e).imp id (fun h => (by (try simp at h); omega)); have Ha5 := Lib.hid ha5'; have Hb5 := Lib.hid hb5; have hne5 : v5.ownBlock ≠ some xb := fun e => (ha5 _ e).elim (fun h => (by have := Hvl.out _ h; have := Hxb.out; omega)) (fun h => (by (try simp at h); omega)); have Hne5 := Lib.hid hne5; have hl5 := Nat.lt_of_lt_of_le hlt hxx.size; clear hb5 hx5 ha5 ha5' hxx hne5 hbx5)
      | (go_at_call 44; refine (appendText_any _ _ _ s Hb5.out (by omega) (by have := encNum_length k (by omega); have := encNum_length n (by omega); rw [List.length_append, List.length_append]; omega)).mono ?_; rintro r w6 ⟨v6, rfl, hb6, hx6, ha6⟩; obtain ⟨z0, z1⟩ := cells_two ((hx6.blk hl5 Hne5.out).trans Hbx5.out); have H6 := Lib.hid (And.intro hb6 (And.intro hx6 ha6)); clear hb6 hx6 ha6))
  go_wp2
  go_ret
  have hP : AppPost w (.slice ab l.length cb) (l ++ encNum k ++ encNum n ++ (encNum s.size ++ s.data.toList)) (.returned v6) w6 := AppPost.trans Hx5.out Ha5.out ⟨v6, rfl, H6.out⟩
  simpa [encC] using hP
end Go.Proofs.Ythligdgkhmgagaa
