/-
  The laws on package names: step. Conditions: IsReg, IsRef45, small.
-/
import Derived.Test.YtgmopnbejjfbjaaR17
namespace Go.Proofs.Ytgmopnbejjfbjaa
open Go.RowKit Go.MapKept
open Go.ChangeMaps (setBlock)

structure NOp where
  k : Int
  n : ByteArray
  a : Int
  b : Int
  t : Int
def stepM (M : List (ByteArray × List Ep)) (x : NOp) : List (ByteArray × List Ep) := if x.k = 0 then (publishM M x.n x.a x.b x.t).1 else if x.k = 1 then (lookupM M x.n x.t).1 else M
def StepPost (w : World) (rb mb : Nat) (L : List (ByteArray × Slot)) (M' : List (ByteArray × List Ep)) (r : Ending) (w' : World) : Prop :=
  ∃ L' v', r = .returned (.tuple #[v', .bool true]) ∧ IsReg w' rb mb L' ∧ regM L' = M' ∧ IsRef45 w' v' M' ∧ Ext (fpR rb mb L) w w' ∧ ∀ b, fpR rb mb L' b → fpR rb mb L b ∨ w.heap.size ≤ b
theorem op_cells {w : World} {b : Nat} {v0 v1 v2 v3 v4 : Value} {t : TypeId} {f : Nat × Nat} (h : blk w b = some (.cells #[v0, v1, v2, v3, v4] t f)) : w.cell? ⟨b, 0, none⟩ = some v0 ∧ w.cell? ⟨b, 1, none⟩ = some v1 ∧ w.cell? ⟨b, 2, none⟩ = some v2 ∧ w.cell? ⟨b, 3, none⟩ = some v3 ∧ w.cell? ⟨b, 4, none⟩ = some v4 :=
  ⟨by simpa using cell_of_cells h 0, by simpa using cell_of_cells h 1, by simpa using cell_of_cells h 2, by simpa using cell_of_cells h 3, by simpa using cell_of_cells h 4⟩
/-- the registry's blocks are none of the reference's -/
theorem reg_apart {w : World} {rb mb : Nat} {L : List (ByteArray × Slot)} (h : IsReg w rb mb L) {e : TypeId} {size : Nat} {v : Value} {n : Nat} {xs : List Value} (hr : w.ownsRow 0 e size v n xs) (h1 : e ≠ 96) (h2 : e ≠ 100) : ∀ g, v.ownBlock = some g → ¬ fpR rb mb L g := fun g hg hf => by
  obtain ⟨cur, hc⟩ := row_type hr hg
  obtain ⟨g1, ⟨es, c, g2, _⟩, g3, _⟩ := h
  rcases hf with rfl | rfl | ⟨p, hp, hpg⟩
  · rw [g1] at hc; cases hc; exact h1 rfl
  · rw [g2] at hc; cases hc
  · obtain ⟨cur2, hc2⟩ := row_type (g3 p hp).1 hpg
    rw [hc2] at hc; cases hc; exact h2 rfl
theorem IsRef45.reg {w w' : World} {rb mb : Nat} {L : List (ByteArray × Slot)} {v : Value} {M : List (ByteArray × List Ep)} (h : IsRef45 w v M) (hR : IsReg w rb mb L) (hx : Ext (fpR rb mb L) w w') : IsRef45 w' v M := by
  obtain ⟨R, ⟨h1, h2⟩, h3⟩ := h
  exact ⟨R, ⟨ownsRow_ext h1 hx (reg_apart hR h1 (by decide) (by decide)), fun p hp => ownsRow_ext (h2 p hp) hx (reg_apart hR (h2 p hp) (by decide) (by decide))⟩, h3⟩
theorem Small.lens {M : List (ByteArray × List Ep)} (h : Small M) (n : ByteArray) : ((assoc M n).getD []).length ≤ 1000 := by
  cases ha : assoc M n with
  | none => simp
  | some l => exact (h.each _ (mem_of_assoc ha)).2.1
theorem Small.eps {M : List (ByteArray × List Ep)} (h : Small M) (n : ByteArray) : ∀ x ∈ (assoc M n).getD [], okEp x := by
  cases ha : assoc M n with
  | none => simp
  | some l => exact (h.each _ (mem_of_assoc ha)).2.2

set_option maxRecDepth 100000 in
set_option maxHeartbeats 2000000 in
theorem step_k0 (w : World) (rb mb : Nat) (L : List (ByteArray × Slot)) (v : Value) (hR : IsReg w rb mb L) (hr : IsRef45 w v (regM L)) (hM : Small (regM L)) (n : ByteArray) (a b t : Int) (hns : n.size ≤ 9223372036854775807) :
    Calls Try.prog 31 #[.pointer (some ⟨rb, 0, none⟩), v, .agg #[.int .i64 0, .string n, .int .i64 a, .int .i64 b, .int .i64 t]] w (StepPost w rb mb L (publishM (regM L) n a b t).1) := by
  have hlen := hM.len
  have hpub := fun (W : World) (hx : Ext (fun _ => False) w W) => publish_any rb mb W L (hR.ext hx (fun _ _ h => h)) n a b t hns
  have hrpub := fun (W : World) (hx : Ext (fun _ => False) w W) => rpublish_any W v (regM L) (hr.keep hx) hM.nodup (by omega) (fun n => by have := hM.lens n; omega) n a b t hns
  have Hpub := Lib.hid hpub
  have Hrpub := Lib.hid hrpub
  have HR := Lib.hid hR
  clear hpub hrpub hR hr hM hlen
  generalize publishM (regM L) n a b t = m at *
  obtain ⟨w0, hw0⟩ : ∃ w0, w0 = w.alloc (.cells #[.int .i64 0, .string n, .int .i64 a, .int .i64 b, .int .i64 t] 82) := ⟨_, rfl⟩
  have hb0 : blk w0 w.heap.size = some (.cells #[.int .i64 0, .string n, .int .i64 a, .int .i64 b, .int .i64 t] 82 (0, 0)) := by rw [hw0]; exact blk_alloc_at _ _
  have hx0 : Ext (fun _ => False) w w0 := by rw [hw0]; exact (Ext.refl _ w).alloc _
  go_enter Try.func31, Try.ntmps31
  go_upto_region 1 with fail
  rw [← hw0]
  clear hw0
  obtain ⟨o0, o1, o2, o3, o4⟩ := op_cells hb0
  have Hb0 := Lib.hid hb0
  have Hx0 := Lib.hid hx0
  clear hb0 hx0
  go_wp2_with fail
  refine (Hrpub.out w0 Hx0.out).mono ?_
  rintro r w1 ⟨v', rfl, hr1, hx1⟩
  have hb1 := (hx1.blk (blk_lt Hb0.out) id).trans Hb0.out
  obtain ⟨o0, o1, o2, o3, o4⟩ := op_cells hb1
  have Hx1 := Lib.hid (Hx0.out.trans hx1)
  have Hr1 := Lib.hid hr1
  clear hx1 hr1 hb1
  go_wp2_with fail
  refine (Hpub.out w1 Hx1.out).mono ?_
  rintro r w2 ⟨rfl, hx2, L', hL', hm', hfp⟩
  have HR1 := HR.out.ext Hx1.out (fun _ _ h => h)
  have hfin : StepPost w rb mb L m.1 (.returned (.tuple #[v', .bool true])) w2 :=
    ⟨L', v', rfl, hL', hm', Hr1.out.reg HR1 hx2, (ext_any Hx1.out _).trans' hx2 (fun k hk e => e), fun k hk => (hfp k hk).imp id (fun h => Nat.le_trans Hx1.out.size h)⟩
  have Hfin := Lib.hid hfin
  clear hfin HR1 hL' hm' hfp hx2 o0 o1 o2 o3 o4
  go_wp2
  exact bodyPost_ret (v := .tuple #[v', .bool true]) (by simp [results, Try.results31, go_sem]) rfl Hfin.out
set_option maxRecDepth 100000 in
set_option maxHeartbeats 2000000 in
theorem step_k1 (w : World) (rb mb : Nat) (L : List (ByteArray × Slot)) (v : Value) (hR : IsReg w rb mb L) (hr : IsRef45 w v (regM L)) (hM : Small (regM L)) (n : ByteArray) (a b t : Int) :
    Calls Try.prog 31 #[.pointer (some ⟨rb, 0, none⟩), v, .agg #[.int .i64 1, .string n, .int .i64 a, .int .i64 b, .int .i64 t]] w (StepPost w rb mb L (lookupM (regM L) n t).1) := by
  have hlen := hM.len
  have hls := hM.lens n
  have hlook := fun (W : World) (hx : Ext (fun _ => False) w W) => lookup_any rb mb W L (hR.ext hx (fun _ _ h => h)) n t (by rw [slotL_eq]; omega)
  have hrlook := fun (W : World) (hx : Ext (fun _ => False) w W) => rlookup_any W v (regM L) (hr.keep hx) hM.nodup (by omega) n t (by omega)
  have Hlook := Lib.hid hlook
  have Hrlook := Lib.hid hrlook
  have HR := Lib.hid hR
  clear hlook hrlook hR hr hM hlen hls
  generalize lookupM (regM L) n t = m at *
  obtain ⟨M', ⟨en, ee, ea, et⟩, code⟩ := m
  obtain ⟨w0, hw0⟩ : ∃ w0, w0 = w.alloc (.cells #[.int .i64 1, .string n, .int .i64 a, .int .i64 b, .int .i64 t] 82) := ⟨_, rfl⟩
  have hb0 : blk w0 w.heap.size = some (.cells #[.int .i64 1, .string n, .int .i64 a, .int .i64 b, .int .i64 t] 82 (0, 0)) := by rw [hw0]; exact blk_alloc_at _ _
  have hx0 : Ext (fun _ => False) w w0 := by rw [hw0]; exact (Ext.refl _ w).alloc _
  go_enter Try.func31, Try.ntmps31
  go_upto_region 1 with fail
  rw [← hw0]
  clear hw0
  obtain ⟨o0, o1, o2, o3, o4⟩ := op_cells hb0
  have Hb0 := Lib.hid hb0
  have Hx0 := Lib.hid hx0
  clear hb0 hx0
  go_wp2_with fail
  refine (Hrlook.out w0 Hx0.out).mono ?_
  rintro r w1 ⟨v', rfl, hr1, hx1⟩
  have hb1 := (hx1.blk (blk_lt Hb0.out) id).trans Hb0.out
  obtain ⟨o0, o1, o2, o3, o4⟩ := op_cells hb1
  have Hx1 := Lib.hid (Hx0.out.trans hx1)
  have Hr1 := Lib.hid hr1
  simp only [Ent.v]
  clear hx1 hr1
  go_upto_region 8 with fail
  obtain ⟨w2, hw2⟩ : ∃ w2, w2 = w1.alloc (.cells #[.string en, .int .i64 ee, .int .i64 ea, .int .i64 et] 28) := ⟨_, rfl⟩
  have hb2 : blk w2 w1.heap.size = some (.cells #[.string en, .int .i64 ee, .int .i64 ea, .int .i64 et] 28 (0, 0)) := by rw [hw2]; exact blk_alloc_at _ _
  have hx2 : Ext (fun _ => False) w1 w2 := by rw [hw2]; exact (Ext.refl _ w1).alloc _
  rw [← hw2]
  have hge := Hx1.out.size
  have hfp : ∀ k, w.heap.size ≤ k → ¬ fpR rb mb L k := fun k hk hf => by have := HR.out.lt hf; omega
  have hb12 := (hx2.blk (blk_lt hb1) id).trans hb1
  obtain ⟨o0, o1, o2, o3, o4⟩ := op_cells hb12
  obtain ⟨x0, x1, x2, x3⟩ := box4 hb2
  have HX2 := Lib.hid (Hx1.out.trans hx2)
  have Hr2 := Lib.hid (Hr1.out.keep hx2)
  have Hb2 := Lib.hid hb2
  have Hfp := Lib.hid hfp
  have hX := blk_lt hb2
  generalize w1.heap.size = X at *
  clear hw2 hb2 hx2 hb12 hfp hb1
  go_wp2_with fail
  refine (Hlook.out w2 HX2.out).mono ?_
  rintro r w3 ⟨rfl, hx3, L', hL', hm', hfp'⟩
  have hb3 := (hx3.blk hX (Hfp.out X hge)).trans Hb2.out
  obtain ⟨x0, x1, x2, x3⟩ := box4 hb3
  have HR2 := HR.out.ext HX2.out (fun _ _ h => h)
  have hfin : ∀ w4, Ext (fun _ => False) w3 w4 → StepPost w rb mb L M' (.returned (.tuple #[v', .bool true])) w4 := fun w4 hx4 =>
    ⟨L', v', rfl, hL'.ext hx4 (fun _ _ h => h), hm', (Hr2.out.reg HR2 hx3).keep hx4, ((ext_any HX2.out _).trans' hx3 (fun k hk e => e)).trans' hx4 (fun _ _ h => h.elim), fun k hk => (hfp' k hk).imp id (fun h => Nat.le_trans HX2.out.size h)⟩
  have Hfin := Lib.hid hfin
  have hlt3 := blk_lt hb3
  simp only [Ent.v]
  clear hfin HR2 hL' hm' hfp' hx3 o0 o1 o2 o3 o4 hb3
  go_wp2_with fail
  exact bodyPost_ret (v := .tuple #[v', .bool true]) (by simp [results, Try.results31, go_sem]) rfl (Hfin.out _ ((Ext.refl _ w3).alloc _))
set_option maxRecDepth 100000 in
set_option maxHeartbeats 2000000 in
theorem step_k2 (w : World) (rb mb : Nat) (L : List (ByteArray × Slot)) (v : Value) (hR : IsReg w rb mb L) (hr : IsRef45 w v (regM L)) (hM : Small (regM L)) (n : ByteArray) (a b t : Int) (ha : -9223372036854775808 ≤ a) :
    Calls Try.prog 31 #[.pointer (some ⟨rb, 0, none⟩), v, .agg #[.int .i64 2, .string n, .int .i64 a, .int .i64 b, .int .i64 t]] w (StepPost w rb mb L (regM L)) := by
  have hlen := hM.len
  have hls := hM.lens n
  have hcut := fun (W : World) (hx : Ext (fun _ => False) w W) => maycut_any rb mb W L (hR.ext hx (fun _ _ h => h)) n a t (by rw [slotL_eq]; exact hM.eps n) (by rw [slotL_eq]; omega) ha
  have hrcut := fun (W : World) (hx : Ext (fun _ => False) w W) => rmaycut_any W v (regM L) (hr.keep hx) hM.nodup (by omega) n a t (hM.eps n) (by omega) ha
  have hfin : ∀ w4, Ext (fun _ => False) w w4 → StepPost w rb mb L (regM L) (.returned (.tuple #[v, .bool true])) w4 := fun w4 hx4 =>
    ⟨L, v, rfl, hR.ext hx4 (fun _ _ h => h), rfl, hr.keep hx4, ext_any hx4 _, fun k hk => .inl hk⟩
  have Hcut := Lib.hid hcut
  have Hrcut := Lib.hid hrcut
  have Hfin := Lib.hid hfin
  clear hcut hrcut hfin hR hr hM hlen hls
  generalize mayCutM (regM L) n a t = B at *
  obtain ⟨w0, hw0⟩ : ∃ w0, w0 = w.alloc (.cells #[.int .i64 2, .string n, .int .i64 a, .int .i64 b, .int .i64 t] 82) := ⟨_, rfl⟩
  have hb0 : blk w0 w.heap.size = some (.cells #[.int .i64 2, .string n, .int .i64 a, .int .i64 b, .int .i64 t] 82 (0, 0)) := by rw [hw0]; exact blk_alloc_at _ _
  have hx0 : Ext (fun _ => False) w w0 := by rw [hw0]; exact (Ext.refl _ w).alloc _
  go_enter Try.func31, Try.ntmps31
  go_upto_region 1 with fail
  rw [← hw0]
  clear hw0
  obtain ⟨o0, o1, o2, o3, o4⟩ := op_cells hb0
  have Hb0 := Lib.hid hb0
  have Hx0 := Lib.hid hx0
  clear hb0 hx0
  go_upto_region 11 with fail
  go_region_held3 (fun w' => w'.cell? ⟨w.heap.size, 1, none⟩ = some (.string n) ∧ w'.cell? ⟨w.heap.size, 2, none⟩ = some (.int .i64 a) ∧ w'.cell? ⟨w.heap.size, 4, none⟩ = some (.int .i64 t))
    (first | exact ⟨by assumption, by assumption, by assumption⟩ | go_keep)
    (first
      | (go_at_call 22; have q3 := Hcut.out w0.drew Hx0.out.drew; (with_reducible refine q3.mono ?_); clear q3; rintro r w5 ⟨rfl, hx5⟩; obtain ⟨y0, y1, y2, y3, y4⟩ := op_cells ((hx5.blk (blk_lt Hb0.out) id).trans Hb0.out); have Hx5 := Lib.hid (Hx0.out.drew.trans hx5); have Hb5 := Lib.hid ((hx5.blk (blk_lt Hb0.out) id).trans Hb0.out); clear hx5)
      | (go_at_call 55; have q3 := Hrcut.out w5 Hx5.out; (with_reducible refine q3.mono ?_); clear q3; rintro r w6 ⟨rfl, hx6⟩; obtain ⟨z0, z1, z2, z3, z4⟩ := op_cells ((hx6.blk (blk_lt Hb5.out) id).trans Hb5.out); have Hx6 := Lib.hid (Hx5.out.trans hx6); clear hx6))
  go_wp2
  exact bodyPost_ret (v := .tuple #[v, .bool true]) (by simp [results, Try.results31, go_sem]) rfl (Hfin.out _ Hx6.out)
set_option maxRecDepth 100000 in
set_option maxHeartbeats 2000000 in
theorem step_kx (w : World) (rb mb : Nat) (L : List (ByteArray × Slot)) (v : Value) (hR : IsReg w rb mb L) (hr : IsRef45 w v (regM L)) (k : Int) (h0 : (k == 0) = false) (h1 : (k == 1) = false) (h2 : (k == 2) = false) (n : ByteArray) (a b t : Int) :
    Calls Try.prog 31 #[.pointer (some ⟨rb, 0, none⟩), v, .agg #[.int .i64 k, .string n, .int .i64 a, .int .i64 b, .int .i64 t]] w (StepPost w rb mb L (regM L)) := by
  have hfin : ∀ w4, Ext (fun _ => False) w w4 → StepPost w rb mb L (regM L) (.returned (.tuple #[v, .bool true])) w4 := fun w4 hx4 =>
    ⟨L, v, rfl, hR.ext hx4 (fun _ _ h => h), rfl, hr.keep hx4, ext_any hx4 _, fun k hk => .inl hk⟩
  have Hfin := Lib.hid hfin
  clear hfin hR hr
  obtain ⟨w0, hw0⟩ : ∃ w0, w0 = w.alloc (.cells #[.int .i64 k, .string n, .int .i64 a, .int .i64 b, .int .i64 t] 82) := ⟨_, rfl⟩
  have hb0 : blk w0 w.heap.size = some (.cells #[.int .i64 k, .string n, .int .i64 a, .int .i64 b, .int .i64 t] 82 (0, 0)) := by rw [hw0]; exact blk_alloc_at _ _
  have hx0 : Ext (fun _ => False) w w0 := by rw [hw0]; exact (Ext.refl _ w).alloc _
  go_enter Try.func31, Try.ntmps31
  go_upto_region 1 with fail
  rw [← hw0]
  clear hw0
  obtain ⟨o0, o1, o2, o3, o4⟩ := op_cells hb0
  have Hx0 := Lib.hid hx0
  clear hb0 hx0
  go_wp2
  exact bodyPost_ret (v := .tuple #[v, .bool true]) (by simp [results, Try.results31, go_sem]) rfl (Hfin.out _ Hx0.out)
theorem step_any (w : World) (rb mb : Nat) (L : List (ByteArray × Slot)) (v : Value) (hR : IsReg w rb mb L) (hr : IsRef45 w v (regM L)) (hM : Small (regM L)) (x : NOp) (hns : x.n.size ≤ 9223372036854775807) (ha : -9223372036854775808 ≤ x.a) :
    Calls Try.prog 31 #[.pointer (some ⟨rb, 0, none⟩), v, .agg #[.int .i64 x.k, .string x.n, .int .i64 x.a, .int .i64 x.b, .int .i64 x.t]] w (StepPost w rb mb L (stepM (regM L) x)) := by
  obtain ⟨k, n, a, b, t⟩ := x
  unfold stepM
  simp only
  by_cases h0 : k = 0
  · subst h0; simpa using step_k0 w rb mb L v hR hr hM n a b t hns
  · by_cases h1 : k = 1
    · subst h1; simpa using step_k1 w rb mb L v hR hr hM n a b t
    · rw [if_neg h0, if_neg h1]
      by_cases h2 : k = 2
      · subst h2; exact step_k2 w rb mb L v hR hr hM n a b t ha
      · exact step_kx w rb mb L v hR hr k (by simpa using h0) (by simpa using h1) (by simpa using h2) n a b t
end Go.Proofs.Ytgmopnbejjfbjaa
