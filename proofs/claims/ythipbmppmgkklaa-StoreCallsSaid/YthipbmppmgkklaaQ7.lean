/-
  Package store: EncodeResult. Conditions: the numbers are int64s.
-/
import Derived.Test.YthipbmppmgkklaaQ6
namespace Go.Proofs.Ythipbmppmgkklaa
open Go.RowKit Go.MapKept
open Go.ChangeMaps (setBlock)

def encResM (x : Rs) : List UInt8 := encInt x.c ++ [if x.f then 1 else 0] ++ encInt x.v
set_option maxRecDepth 100000 in
set_option maxHeartbeats 4000000 in
theorem encodeResult_any (w : World) (k : Int) (f : Bool) (xv : Int) (h1 : -9223372036854775808 ≤ k ∧ k ≤ 9223372036854775807) (h2 : -9223372036854775808 ≤ xv ∧ xv ≤ 9223372036854775807) : Calls Try.prog 30 #[.agg #[.int .i64 k, .bool f, .int .i64 xv]] w (EncPost w (encResM ⟨k, f, xv⟩)) := by
  obtain ⟨w0, hw0⟩ : ∃ w0, w0 = w.alloc (.cells #[.int .i64 k, .bool f, .int .i64 xv] 31) := ⟨_, rfl⟩
  have hS : EnSt w w0 w.heap.size #[.int .i64 k, .bool f, .int .i64 xv] 31 (.slice none 0 0) [] := by
    rw [hw0]
    exact ⟨(Ext.refl _ w).alloc _, blk_alloc_at _ _, World.ownsRow_nil _ 0 _ 1, fun g e => by cases e⟩
  have HS := Lib.hid hS
  have hm : encResM ⟨k, f, xv⟩ = (([] ++ encInt k) ++ [if f then 1 else 0]) ++ encInt xv := rfl
  rw [hm]
  obtain ⟨h11, h12⟩ := h1
  obtain ⟨h21, h22⟩ := h2
  have l1 : (encInt k).length ≤ 9 := encNum_length _ (zz_le k h11 h12)
  obtain ⟨c0, c1, c2⟩ := box_cells hS.box
  obtain ⟨L1, hL1⟩ : ∃ L1, ([] ++ encInt k) ++ [if f then (1 : UInt8) else 0] = L1 := ⟨_, rfl⟩
  have hl1 : L1.length ≤ 2000 := by rw [← hL1]; simp; omega
  rw [hL1]
  have HL1 := Lib.hid hL1
  clear hS hm hL1
  go_enter Try.func30, Try.ntmps30
  go_upto_region 1 with fail
  rw [← hw0]
  clear hw0
  generalize w.heap.size = B at *
  go_cut [3] (fun v3 wx => EnSt w wx B #[.int .i64 k, .bool f, .int .i64 xv] 31 v3 L1)
  case first =>
    go_region_held3 (fun w' => w'.cell? ⟨B, 0, none⟩ = some (.int .i64 k) ∧ w'.cell? ⟨B, 1, none⟩ = some (.bool f))
      (first | (refine ⟨?_, ?_⟩ <;> (with_reducible assumption)) | go_keep)
      (first
        | (go_at_call 39; have q := appendInt_any w0.drew (.slice none 0 0) [] k (HS.out.keep ((Ext.refl (fun _ => False) w0).drew)).bytes h11 h12 (by simp); (with_reducible refine q.mono ?_); clear q; rintro r w5 ⟨v5, rfl, hb5, hx5, ha5⟩; have hI5 := (HS.out.keep ((Ext.refl (fun _ => False) w0).drew)).app (by decide) hb5 hx5 ha5; obtain ⟨c0, c1, c2⟩ := box_cells hI5.box; have HI5 := Lib.hid hI5; clear hb5 hx5 ha5 hI5)
        | (go_at_call 59; (with_reducible refine (appendBool_any _ v5 ([] ++ encInt k) f HI5.out.bytes (by simp; omega)).mono ?_); rintro r w6 ⟨v6, rfl, hb6, hx6, ha6⟩; have hI6 := HI5.out.app (by decide) hb6 hx6 ha6; obtain ⟨c0, c1, c2⟩ := box_cells hI6.box; have HI6 := Lib.hid hI6; clear hb6 hx6 ha6 hI6))
    all_goals (go_wp2_with fail)
    all_goals go_meet
    all_goals exact HL1.out ▸ HI6.out
  case rest =>
    clear HS c0 c1 c2
    obtain ⟨c0, c1, c2⟩ := box_cells hcut.box
    have hltB := blk_lt hcut.box
    have HS := Lib.hid hcut
    clear hcut
    go_wp2_with fail
    (with_reducible refine (appendInt_any wc u3 L1 xv HS.out.bytes h21 h22 (by omega)).mono ?_)
    rintro r w6 ⟨v6, rfl, hb6, hx6, ha6⟩
    have hI6 := HS.out.app (by decide) hb6 hx6 ha6
    have hcv := run_bytes_string hI6.bytes
    have HI6 := Lib.hid hI6
    clear hb6 hx6 ha6 hI6
    go_wp2
    go_ret
    exact ⟨by simp, HI6.out.ext⟩
end Go.Proofs.Ythipbmppmgkklaa
