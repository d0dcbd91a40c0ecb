/-
  Package store: EncodeOp. Conditions: the numbers are int64s, the key is small.
-/
import Derived.Test.YthipbmppmgkklaaQ5
namespace Go.Proofs.Ythipbmppmgkklaa
open Go.RowKit Go.MapKept
open Go.ChangeMaps (setBlock)

def encOpM (x : OpV) : List UInt8 := encInt x.k ++ (encNum x.key.size ++ x.key.data.toList) ++ encInt x.v ++ encInt x.o
def EncPost (w : World) (l : List UInt8) (r : Ending) (w' : World) : Prop := r = .returned (.string ⟨l.toArray⟩) ∧ Ext (fun _ => False) w w'
/-- while it is written: the parameter's box, the bytes so far -/
structure EnSt (w wi : World) (B : Nat) (cs : Array Value) (t : TypeId) (v : Value) (L : List UInt8) : Prop where
  ext : Ext (fun _ => False) w wi
  box : blk wi B = some (.cells cs t (0, 0))
  bytes : IsBytes wi v L
  own : ∀ g, v.ownBlock = some g → w.heap.size ≤ g
theorem EnSt.keep {w wi w' : World} {B : Nat} {cs : Array Value} {t : TypeId} {v : Value} {L : List UInt8} (h : EnSt w wi B cs t v L) (hx : Ext (fun _ => False) wi w') : EnSt w w' B cs t v L :=
  ⟨h.ext.trans hx, (hx.blk (blk_lt h.box) id).trans h.box, h.bytes.keep hx, h.own⟩
theorem EnSt.app {w wi w5 : World} {B : Nat} {cs : Array Value} {t : TypeId} {v v5 : Value} {L L' : List UInt8} (h : EnSt w wi B cs t v L) (ht : t ≠ 5) (hb : IsBytes w5 v5 L') (hx : Ext (fun b => v.ownBlock = some b) wi w5) (ha : ∀ g, v5.ownBlock = some g → v.ownBlock = some g ∨ wi.heap.size ≤ g) : EnSt w w5 B cs t v5 L' :=
  ⟨h.ext.trans' hx (fun k hk e => absurd hk (by have := h.own k e; omega)), (hx.blk (blk_lt h.box) (fun e => by
    obtain ⟨cur, hc⟩ := row_type h.bytes e
    rw [h.box] at hc; cases hc; exact ht rfl)).trans h.box, hb, fun g e => (ha g e).elim (h.own g) (fun h' => Nat.le_trans h.ext.size h')⟩
set_option maxRecDepth 100000 in
set_option maxHeartbeats 4000000 in
theorem encodeOp_any (w : World) (k : Int) (key : ByteArray) (xv xo : Int) (h1 : -9223372036854775808 ≤ k ∧ k ≤ 9223372036854775807) (h2 : -9223372036854775808 ≤ xv ∧ xv ≤ 9223372036854775807) (h3 : -9223372036854775808 ≤ xo ∧ xo ≤ 9223372036854775807) (hk : key.size ≤ 1000) : Calls Try.prog 28 #[.agg #[.int .i64 k, .string key, .int .i64 xv, .int .i64 xo]] w (EncPost w (encOpM ⟨k, key, xv, xo⟩)) := by
  obtain ⟨w0, hw0⟩ : ∃ w0, w0 = w.alloc (.cells #[.int .i64 k, .string key, .int .i64 xv, .int .i64 xo] 24) := ⟨_, rfl⟩
  have hS : EnSt w w0 w.heap.size #[.int .i64 k, .string key, .int .i64 xv, .int .i64 xo] 24 (.slice none 0 0) [] := by
    rw [hw0]
    exact ⟨(Ext.refl _ w).alloc _, blk_alloc_at _ _, World.ownsRow_nil _ 0 _ 1, fun g e => by cases e⟩
  have HS := Lib.hid hS
  have hm : encOpM ⟨k, key, xv, xo⟩ = (([] ++ encInt k) ++ (encNum key.size ++ key.data.toList)) ++ encInt xv ++ encInt xo := rfl
  rw [hm]
  obtain ⟨h11, h12⟩ := h1
  obtain ⟨h21, h22⟩ := h2
  obtain ⟨h31, h32⟩ := h3
  have l1 : (encInt k).length ≤ 9 := encNum_length _ (zz_le k h11 h12)
  have l2 : (encInt xv).length ≤ 9 := encNum_length _ (zz_le xv h21 h22)
  have l3 : (encNum key.size).length ≤ 9 := encNum_length _ (by omega)
  have l4 : key.data.toList.length = key.size := Array.length_toList
  obtain ⟨c0, c1, c2, c3⟩ := box4 hS.box
  obtain ⟨L1, hL1⟩ : ∃ L1, ([] ++ encInt k) ++ (encNum key.size ++ key.data.toList) = L1 := ⟨_, rfl⟩
  have hl1 : L1.length ≤ 2000 := by rw [← hL1]; simp; omega
  rw [hL1]
  have HL1 := Lib.hid hL1
  clear hS hm hL1
  go_enter Try.func28, Try.ntmps28
  go_upto_region 1 with fail
  rw [← hw0]
  clear hw0
  generalize w.heap.size = B at *
  go_cut [3] (fun v3 wx => EnSt w wx B #[.int .i64 k, .string key, .int .i64 xv, .int .i64 xo] 24 v3 L1)
  case first =>
    go_region_held3 (fun w' => w'.cell? ⟨B, 0, none⟩ = some (.int .i64 k) ∧ w'.cell? ⟨B, 1, none⟩ = some (.string key))
      (first | (refine ⟨?_, ?_⟩ <;> (with_reducible assumption)) | go_keep)
      (first
        | (go_at_call 39; have q := appendInt_any w0.drew (.slice none 0 0) [] k (HS.out.keep ((Ext.refl (fun _ => False) w0).drew)).bytes h11 h12 (by simp); (with_reducible refine q.mono ?_); clear q; rintro r w5 ⟨v5, rfl, hb5, hx5, ha5⟩; have hI5 := (HS.out.keep ((Ext.refl (fun _ => False) w0).drew)).app (by decide) hb5 hx5 ha5; obtain ⟨c0, c1, c2, c3⟩ := box4 hI5.box; have HI5 := Lib.hid hI5; clear hb5 hx5 ha5 hI5)
        | (go_at_call 40; (with_reducible refine (appendText_any _ v5 ([] ++ encInt k) key HI5.out.bytes (by omega) (by simp; omega)).mono ?_); rintro r w6 ⟨v6, rfl, hb6, hx6, ha6⟩; have hI6 := HI5.out.app (by decide) hb6 hx6 ha6; obtain ⟨c0, c1, c2, c3⟩ := box4 hI6.box; have HI6 := Lib.hid hI6; clear hb6 hx6 ha6 hI6))
    all_goals (go_wp2_with fail)
    all_goals go_meet
    all_goals exact HL1.out ▸ HI6.out
  case rest =>
    clear HS c0 c1 c2 c3
    obtain ⟨c0, c1, c2, c3⟩ := box4 hcut.box
    have HS := Lib.hid hcut
    clear hcut
    go_wp2_with fail
    go_region_law
      (first
        | (go_simp; go_at_call 39; have q := appendInt_any wc.drew u3 L1 xv (HS.out.keep ((Ext.refl (fun _ => False) wc).drew)).bytes h21 h22 (by omega); (with_reducible refine q.mono ?_); clear q; rintro r w5 ⟨v5, rfl, hb5, hx5, ha5⟩; have hI5 := (HS.out.keep ((Ext.refl (fun _ => False) wc).drew)).app (by decide) hb5 hx5 ha5; obtain ⟨c0, c1, c2, c3⟩ := box4 hI5.box; have HI5 := Lib.hid hI5; clear hb5 hx5 ha5 hI5)
        | (go_simp; go_at_call 39; (with_reducible refine (appendInt_any _ v5 (L1 ++ encInt xv) xo HI5.out.bytes h31 h32 (by simp; omega)).mono ?_); rintro r w6 ⟨v6, rfl, hb6, hx6, ha6⟩; have hI6 := HI5.out.app (by decide) hb6 hx6 ha6; obtain ⟨c0, c1, c2, c3⟩ := box4 hI6.box; have hcv := run_bytes_string hI6.bytes; have HI6 := Lib.hid hI6; clear hb6 hx6 ha6 hI6))
    all_goals go_wp2
    all_goals go_ret
    all_goals exact ⟨by simp only [List.append_assoc]; rfl, HI6.out.ext⟩
end Go.Proofs.Ythipbmppmgkklaa
