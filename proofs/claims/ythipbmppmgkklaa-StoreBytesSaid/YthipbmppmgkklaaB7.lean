/-
  StoreBytes: the walk. Conditions: the numbers are int64s.
-/
import Derived.Test.YthipbmppmgkklaaB6
import Derived.Test.YthipbmppmgkklaaQ8
namespace Go.Proofs.Ythipbmppmgkklaa
open Go.RowKit Go.MapKept
open Go.ChangeMaps (setBlock)

/-- the two parameters' boxes -/
structure TwoB (w wi : World) (A B : Nat) (x : OpV) (y : Rs) : Prop where
  ext : Ext (fun _ => False) w wi
  a : blk wi A = some (.cells #[.int .i64 x.k, .string x.key, .int .i64 x.v, .int .i64 x.o] 24 (0, 0))
  b : blk wi B = some (.cells #[.int .i64 y.c, .bool y.f, .int .i64 y.v] 31 (0, 0))
theorem TwoB.keep {w wi w' : World} {A B : Nat} {x : OpV} {y : Rs} (h : TwoB w wi A B x y) (hx : Ext (fun _ => False) wi w') : TwoB w w' A B x y :=
  ⟨h.ext.trans hx, (hx.blk (blk_lt h.a) id).trans h.a, (hx.blk (blk_lt h.b) id).trans h.b⟩
theorem ksort_nil : ksort leS ([] : KM) = [] := List.eq_nil_of_length_eq_zero (ksort_length [])
def opZ : OpV := ⟨0, { data := #[] }, 0, 0⟩
def rsZ : Rs := ⟨0, false, 0⟩
/-- what decoding answers: the value, the program's error, the reference's word -/
structure Dec {α : Type} (v z : α) (c : Int) (x : α) (e : Int) (ok : Bool) : Prop where
  yes : c = 0 → x = v ∧ e = 0 ∧ ok = true
  no : ¬ c = 0 → x = z ∧ e = 11 ∧ ok = false
theorem dec_some {α : Type} (v z : α) (c : Int) : ∃ x e ok, Dec v z c x e ok := by
  by_cases h : c = 0
  · exact ⟨v, 0, true, fun _ => ⟨rfl, rfl, rfl⟩, fun h' => absurd h h'⟩
  · exact ⟨z, 11, false, fun h' => absurd h' h, fun _ => ⟨rfl, rfl, rfl⟩⟩
theorem Dec.both {α : Type} {v z : α} {c : Int} {x : α} {e : Int} {ok : Bool} (h : Dec v z c x e ok) : (e = 0 ∧ ok = true) ∨ (e = 11 ∧ ok = false) := by
  by_cases hc : c = 0
  · exact .inl (h.yes hc).2
  · exact .inr (h.no hc).2
theorem dec_op {w : World} {m : OpV × RS} {x : OpV} {e : Int} {ok : Bool} (h : Dec m.1 opZ (endM m.2) x e ok) {r : Ending} {w' : World} (hp : DecOpPost w m r w') : r = .returned (.tuple #[x.val, .int .i64 e]) ∧ Ext (fun _ => False) w w' := by
  obtain ⟨hx, ⟨hc, hr⟩ | ⟨hc, hr⟩⟩ := hp
  · obtain ⟨rfl, rfl, rfl⟩ := h.yes hc; exact ⟨hr, hx⟩
  · obtain ⟨rfl, rfl, rfl⟩ := h.no hc; exact ⟨hr, hx⟩
theorem dec_rop {w : World} {m : OpV × RS} {x : OpV} {e : Int} {ok : Bool} (h : Dec m.1 opZ (endM m.2) x e ok) {r : Ending} {w' : World} (hp : RDecOpPost w m r w') : r = .returned (.tuple #[x.val, .bool ok]) ∧ Ext (fun _ => False) w w' := by
  obtain ⟨hx, ⟨hc, hr⟩ | ⟨hc, hr⟩⟩ := hp
  · obtain ⟨rfl, rfl, rfl⟩ := h.yes hc; exact ⟨hr, hx⟩
  · obtain ⟨rfl, rfl, rfl⟩ := h.no hc; exact ⟨hr, hx⟩
theorem dec_res {w : World} {m : Rs × RS} {x : Rs} {e : Int} {ok : Bool} (h : Dec m.1 rsZ (endM m.2) x e ok) {r : Ending} {w' : World} (hp : DecResPost w m r w') : r = .returned (.tuple #[x.val, .int .i64 e]) ∧ Ext (fun _ => False) w w' := by
  obtain ⟨hx, ⟨hc, hr⟩ | ⟨hc, hr⟩⟩ := hp
  · obtain ⟨rfl, rfl, rfl⟩ := h.yes hc; exact ⟨hr, hx⟩
  · obtain ⟨rfl, rfl, rfl⟩ := h.no hc; exact ⟨hr, hx⟩
theorem dec_rres {w : World} {m : Rs × RS} {x : Rs} {e : Int} {ok : Bool} (h : Dec m.1 rsZ (endM m.2) x e ok) {r : Ending} {w' : World} (hp : RDecResPost w m r w') : r = .returned (.tuple #[x.val, .bool ok]) ∧ Ext (fun _ => False) w w' := by
  obtain ⟨hx, ⟨hc, hr⟩ | ⟨hc, hr⟩⟩ := hp
  · obtain ⟨rfl, rfl, rfl⟩ := h.yes hc; exact ⟨hr, hx⟩
  · obtain ⟨rfl, rfl, rfl⟩ := h.no hc; exact ⟨hr, hx⟩
/-- the law's part ahead of the last two statements: what is decoded lies in four boxes -/
structure FourB (w wi : World) (A B C D E F : Nat) (x : OpV) (y : Rs) (p : OpV) (q : Rs) : Prop where
  base : TwoB w wi A B x y
  c : blk wi C = some (.cells #[.int .i64 p.k, .string p.key, .int .i64 p.v, .int .i64 p.o] 24 (0, 0))
  d : blk wi D = some (.cells #[.int .i64 p.k, .string p.key, .int .i64 p.v, .int .i64 p.o] 24 (0, 0))
  e : blk wi E = some (.cells #[.int .i64 q.c, .bool q.f, .int .i64 q.v] 31 (0, 0))
  f : blk wi F = some (.cells #[.int .i64 q.c, .bool q.f, .int .i64 q.v] 31 (0, 0))
set_option maxRecDepth 100000 in
set_option maxHeartbeats 4000000 in
theorem bytes_core (w : World) (k : Int) (key : ByteArray) (xv xo : Int) (c : Int) (f : Bool) (rv : Int) (body : ByteArray) (h1 : -9223372036854775808 ≤ k ∧ k ≤ 9223372036854775807) (h2 : -9223372036854775808 ≤ xv ∧ xv ≤ 9223372036854775807) (h3 : -9223372036854775808 ≤ xo ∧ xo ≤ 9223372036854775807)
    (h4 : -9223372036854775808 ≤ c ∧ c ≤ 9223372036854775807) (h5 : -9223372036854775808 ≤ rv ∧ rv ≤ 9223372036854775807) (hks : key.size ≤ 9223372036854775807) (hbs : body.size ≤ 9223372036854775807) :
    Calls Try.prog 9 #[.agg #[.int .i64 k, .string key, .int .i64 xv, .int .i64 xo], .agg #[.int .i64 c, .bool f, .int .i64 rv], .string body] w (AwakePost w) := by
  obtain ⟨w0, hw0⟩ : ∃ w0, w0 = (w.alloc (.cells #[.int .i64 k, .string key, .int .i64 xv, .int .i64 xo] 24)).alloc (.cells #[.int .i64 c, .bool f, .int .i64 rv] 31) := ⟨_, rfl⟩
  have hT0 : TwoB w w0 w.heap.size (w.heap.size + 1) ⟨k, key, xv, xo⟩ ⟨c, f, rv⟩ := by
    rw [hw0]
    exact ⟨((Ext.refl _ w).alloc _).alloc _, (blk_alloc_past _ _ _ (by simp)).trans (blk_alloc_at _ _), by simpa using blk_alloc_at (w.alloc (.cells #[.int .i64 k, .string key, .int .i64 xv, .int .i64 xo] 24)) (.cells #[.int .i64 c, .bool f, .int .i64 rv] 31)⟩
  have HT0 := Lib.hid hT0
  clear hT0
  go_enter Try.func9, Try.ntmps9
  go_upto_region 1 with fail
  rw [← hw0]
  clear hw0
  generalize w.heap.size + 1 = B at *
  generalize w.heap.size = A at *
  go_wp2_with fail
  refine (awake_any _).mono ?_
  rintro r w1 ⟨rfl, hx1⟩
  have HT1 := Lib.hid (HT0.out.keep hx1)
  clear hx1 HT0
  obtain ⟨a0, a1, a2, a3⟩ := box4 HT1.out.a
  simp only at a0 a1 a2 a3
  have hltA := blk_lt HT1.out.a
  by_cases hbig : (60 : Int) < key.size
  · go_wp2
    go_ret
    exact ⟨rfl, HT1.out.ext⟩
  by_cases hbig2 : (60 : Int) < body.size
  · go_wp2
    go_ret
    exact ⟨rfl, HT1.out.ext⟩
  have hk : key.size ≤ 1000 := by omega
  have hb6 : body.size ≤ 1000000 := by omega
  have he := fun (W : World) => encodeOp_any W k key xv xo h1 h2 h3 hk
  have hre := fun (W : World) => rencodeOp_any W k key xv xo h1 h2 h3 hk
  have hr := fun (W : World) => encodeResult_any W c f rv h4 h5
  have hrr := fun (W : World) => rencodeResult_any W c f rv h4 h5
  have hd := fun (W : World) => decodeOp_any W body hb6
  have hrd := fun (W : World) => rdecodeOp_any W body hb6
  have hq := fun (W : World) => decodeResult_any W body hb6
  have hrq := fun (W : World) => rdecodeResult_any W body hb6
  have hap := fun (W : World) (sb mb : Nat) (h : IsStore W sb mb []) => apply_any W sb mb [] h Good.nil (by simp) body hb6
  have hrap := fun (W : World) (v : Value) (h : IsRows W v []) => rapply_any W v [] (by rw [ksort_nil]; exact h) Good.nil (by simp) body hb6
  generalize decOpM ⟨body.data.toList, 0⟩ = m1 at *
  generalize decResM ⟨body.data.toList, 0⟩ = m2 at *
  generalize applyM [] body.data.toList = ap at *
  obtain ⟨apm, apl⟩ := ap
  obtain ⟨x, e, ok, hdx⟩ := dec_some m1.1 opZ (endM m1.2)
  obtain ⟨y, e', ok', hdy⟩ := dec_some m2.1 rsZ (endM m2.2)
  have hd' := fun W => (hd W).mono (fun r w' hp => dec_op hdx hp)
  have hrd' := fun W => (hrd W).mono (fun r w' hp => dec_rop hdx hp)
  have hq' := fun W => (hq W).mono (fun r w' hp => dec_res hdy hp)
  have hrq' := fun W => (hrq W).mono (fun r w' hp => dec_rres hdy hp)
  have hxe := hdx.both
  have hye := hdy.both
  unfold EncPost at he hre hr hrr
  unfold ApPost at hap
  unfold RApPost at hrap
  simp only at hap hrap
  generalize (⟨(encOpM ⟨k, key, xv, xo⟩).toArray⟩ : ByteArray) = EO at *
  generalize (⟨(encResM ⟨c, f, rv⟩).toArray⟩ : ByteArray) = ER at *
  generalize (⟨apl.toArray⟩ : ByteArray) = AL at *
  obtain ⟨xk2, key2, xv2, xo2⟩ := x
  obtain ⟨yc, yf, yv⟩ := y
  simp only [OpV.val, Rs.val] at hd' hrd' hq' hrq'
  have He := Lib.hid he
  have Hre := Lib.hid hre
  have Hr := Lib.hid hr
  have Hrr := Lib.hid hrr
  have Hd := Lib.hid hd'
  have Hrd := Lib.hid hrd'
  have Hq := Lib.hid hq'
  have Hrq := Lib.hid hrq'
  have Hap := Lib.hid hap
  have Hrap := Lib.hid hrap
  have Hxe := Lib.hid hxe
  have Hye := Lib.hid hye
  clear he hre hr hrr hd hd' hrd hrd' hq hq' hrq hrq' hap hrap hxe hye hdx hdy m1 m2
  go_wp2_with fail
  refine (Hd.out w1).mono ?_
  rintro r w2 ⟨rfl, hx2⟩
  have HT2 := Lib.hid (HT1.out.keep hx2)
  clear hx2 HT1 Hd a0 a1 a2 a3 hltA
  go_upto_region 6 with fail
  obtain ⟨w3, hw3⟩ : ∃ w3, w3 = w2.alloc (.cells #[.int .i64 xk2, .string key2, .int .i64 xv2, .int .i64 xo2] 24) := ⟨_, rfl⟩
  have hb3 : blk w3 w2.heap.size = some (.cells #[.int .i64 xk2, .string key2, .int .i64 xv2, .int .i64 xo2] 24 (0, 0)) := by rw [hw3]; exact blk_alloc_at _ _
  have hx3 : Ext (fun _ => False) w2 w3 := by rw [hw3]; exact (Ext.refl _ w2).alloc _
  rw [← hw3]
  have HT3 := Lib.hid (HT2.out.keep hx3)
  have HC3 := Lib.hid hb3
  generalize w2.heap.size = C at *
  clear hw3 hb3 hx3 HT2
  go_wp2_with fail
  refine (Hrd.out w3).mono ?_
  rintro r w4 ⟨rfl, hx4⟩
  have HT4 := Lib.hid (HT3.out.keep hx4)
  have HC4 := Lib.hid ((hx4.blk (blk_lt HC3.out) id).trans HC3.out)
  clear hx4 HT3 HC3 Hrd
  go_upto_region 7 with fail
  obtain ⟨w5, hw5⟩ : ∃ w5, w5 = w4.alloc (.cells #[.int .i64 xk2, .string key2, .int .i64 xv2, .int .i64 xo2] 24) := ⟨_, rfl⟩
  have hb5 : blk w5 w4.heap.size = some (.cells #[.int .i64 xk2, .string key2, .int .i64 xv2, .int .i64 xo2] 24 (0, 0)) := by rw [hw5]; exact blk_alloc_at _ _
  have hx5 : Ext (fun _ => False) w4 w5 := by rw [hw5]; exact (Ext.refl _ w4).alloc _
  rw [← hw5]
  have HT5 := Lib.hid (HT4.out.keep hx5)
  have HC5 := Lib.hid ((hx5.blk (blk_lt HC4.out) id).trans HC4.out)
  have HD5 := Lib.hid hb5
  generalize w4.heap.size = D at *
  clear hw5 hb5 hx5 HT4 HC4
  go_wp2_with fail
  refine (Hq.out w5).mono ?_
  rintro r w6 ⟨rfl, hx6⟩
  have HT6 := Lib.hid (HT5.out.keep hx6)
  have HC6 := Lib.hid ((hx6.blk (blk_lt HC5.out) id).trans HC5.out)
  have HD6 := Lib.hid ((hx6.blk (blk_lt HD5.out) id).trans HD5.out)
  clear hx6 HT5 HC5 HD5 Hq
  go_upto_region 8 with fail
  obtain ⟨w7, hw7⟩ : ∃ w7, w7 = w6.alloc (.cells #[.int .i64 yc, .bool yf, .int .i64 yv] 31) := ⟨_, rfl⟩
  have hb7 : blk w7 w6.heap.size = some (.cells #[.int .i64 yc, .bool yf, .int .i64 yv] 31 (0, 0)) := by rw [hw7]; exact blk_alloc_at _ _
  have hx7 : Ext (fun _ => False) w6 w7 := by rw [hw7]; exact (Ext.refl _ w6).alloc _
  rw [← hw7]
  have HT7 := Lib.hid (HT6.out.keep hx7)
  have HC7 := Lib.hid ((hx7.blk (blk_lt HC6.out) id).trans HC6.out)
  have HD7 := Lib.hid ((hx7.blk (blk_lt HD6.out) id).trans HD6.out)
  have HE7 := Lib.hid hb7
  generalize w6.heap.size = E at *
  clear hw7 hb7 hx7 HT6 HC6 HD6
  go_wp2_with fail
  refine (Hrq.out w7).mono ?_
  rintro r w8 ⟨rfl, hx8⟩
  have HT8 := Lib.hid (HT7.out.keep hx8)
  have HC8 := Lib.hid ((hx8.blk (blk_lt HC7.out) id).trans HC7.out)
  have HD8 := Lib.hid ((hx8.blk (blk_lt HD7.out) id).trans HD7.out)
  have HE8 := Lib.hid ((hx8.blk (blk_lt HE7.out) id).trans HE7.out)
  clear hx8 HT7 HC7 HD7 HE7 Hrq
  go_upto_region 9 with fail
  obtain ⟨w9, hw9⟩ : ∃ w9, w9 = w8.alloc (.cells #[.int .i64 yc, .bool yf, .int .i64 yv] 31) := ⟨_, rfl⟩
  have hb9 : blk w9 w8.heap.size = some (.cells #[.int .i64 yc, .bool yf, .int .i64 yv] 31 (0, 0)) := by rw [hw9]; exact blk_alloc_at _ _
  have hx9 : Ext (fun _ => False) w8 w9 := by rw [hw9]; exact (Ext.refl _ w8).alloc _
  rw [← hw9]
  have HT9 := Lib.hid (HT8.out.keep hx9)
  obtain ⟨c0, c1, c2, c3⟩ := box4 ((hx9.blk (blk_lt HC8.out) id).trans HC8.out)
  obtain ⟨d0, d1, d2, d3⟩ := box4 ((hx9.blk (blk_lt HD8.out) id).trans HD8.out)
  obtain ⟨e0, e1, e2⟩ := box_cells ((hx9.blk (blk_lt HE8.out) id).trans HE8.out)
  obtain ⟨f0, f1, f2⟩ := box_cells hb9
  have k1 := blk_lt ((hx9.blk (blk_lt HC8.out) id).trans HC8.out)
  have k2 := blk_lt ((hx9.blk (blk_lt HD8.out) id).trans HD8.out)
  have k3 := blk_lt ((hx9.blk (blk_lt HE8.out) id).trans HE8.out)
  have k4 := blk_lt hb9
  generalize w8.heap.size = F at *
  clear hw9 hb9 hx9 HT8 HC8 HD8 HE8
  go_cut [83] (fun v83 wx => v83 = .bool false ∧ wx = w9)
  case first =>
    rcases Hxe.out with ⟨rfl, rfl⟩ | ⟨rfl, rfl⟩
    all_goals rcases Hye.out with ⟨rfl, rfl⟩ | ⟨rfl, rfl⟩
    all_goals go_wp2
    all_goals go_meet
    all_goals exact ⟨rfl, rfl⟩
  case rest =>
    obtain ⟨rfl, hw⟩ := hcut
    obtain rfl := hw.symm
    clear hw
    clear c0 c1 c2 c3 d0 d1 d2 d3 e0 e1 e2 f0 f1 f2 k1 k2 k3 k4 Hxe Hye
    go_upto_region 11 with fail
    have hro : IsRows (w9.alloc (.cells #[] 89)) (.slice (some ⟨w9.heap.size, 0, none⟩) 0 0) [] := ownsRow_empty 2 (blk_alloc_at w9 (.cells #[] 89))
    have hrap := Hrap.out _ _ hro
    have HT := Lib.hid (HT9.out.keep ((Ext.refl (fun _ => False) w9).alloc (.cells #[] 89)))
    have Hra := Lib.hid hrap
    clear hro hrap HT9 Hrap
    go_wp2_with fail
    refine Hra.out.mono ?_
    rintro r w10 ⟨v10, rfl, hr10, hx10⟩
    obtain ⟨a10, n10, c10, rfl, _⟩ := row_shape' hr10
    have HT10 := Lib.hid (HT.out.keep hx10)
    clear hr10 hx10 HT Hra
    go_upto_region 12 with fail
    obtain ⟨a0, a1, a2, a3⟩ := box4 HT10.out.a
    obtain ⟨b0, b1, b2⟩ := box_cells HT10.out.b
    simp only at a0 a1 a2 a3 b0 b1 b2
    have hltA := blk_lt HT10.out.a
    have hltB := blk_lt HT10.out.b
    go_region_held3 (fun w' => w'.cell? ⟨A, 0, none⟩ = some (.int .i64 k) ∧ w'.cell? ⟨A, 1, none⟩ = some (.string key) ∧ w'.cell? ⟨A, 2, none⟩ = some (.int .i64 xv) ∧ w'.cell? ⟨A, 3, none⟩ = some (.int .i64 xo) ∧ w'.cell? ⟨B, 0, none⟩ = some (.int .i64 c) ∧ w'.cell? ⟨B, 1, none⟩ = some (.bool f) ∧ w'.cell? ⟨B, 2, none⟩ = some (.int .i64 rv) ∧ A < w'.heap.size ∧ B < w'.heap.size)
      (first | exact ⟨by assumption, by assumption, by assumption, by assumption, by assumption, by assumption, by assumption, by assumption, by assumption⟩ | go_keep)
      (first
        | (go_at_call 28; (with_reducible refine (He.out _).mono ?_); rintro r w11 ⟨rfl, hx11⟩; have hT11 := (HT10.out.keep ((Ext.refl (fun _ => False) w10).drew)).keep hx11; obtain ⟨a0, a1, a2, a3⟩ := box4 hT11.a; obtain ⟨b0, b1, b2⟩ := box_cells hT11.b; simp only at a0 a1 a2 a3 b0 b1 b2; have hltA := blk_lt hT11.a; have hltB := blk_lt hT11.b; have HT11 := Lib.hid hT11; clear hx11 hT11)
        | (go_at_call 22; (with_reducible refine (Hre.out _).mono ?_); rintro r w12 ⟨rfl, hx12⟩; have hT12 := HT11.out.keep hx12; obtain ⟨a0, a1, a2, a3⟩ := box4 hT12.a; obtain ⟨b0, b1, b2⟩ := box_cells hT12.b; simp only at a0 a1 a2 a3 b0 b1 b2; have hltA := blk_lt hT12.a; have hltB := blk_lt hT12.b; have HT12 := Lib.hid hT12; clear hx12 hT12)
        | (go_at_call 30; (with_reducible refine (Hr.out _).mono ?_); rintro r w13 ⟨rfl, hx13⟩; have hT13 := HT12.out.keep hx13; obtain ⟨a0, a1, a2, a3⟩ := box4 hT13.a; obtain ⟨b0, b1, b2⟩ := box_cells hT13.b; simp only at a0 a1 a2 a3 b0 b1 b2; have hltA := blk_lt hT13.a; have hltB := blk_lt hT13.b; have HT13 := Lib.hid hT13; clear hx13 hT13)
        | (go_at_call 23; (with_reducible refine (Hrr.out _).mono ?_); rintro r w14 ⟨rfl, hx14⟩; have hT14 := HT13.out.keep hx14; obtain ⟨a0, a1, a2, a3⟩ := box4 hT14.a; obtain ⟨b0, b1, b2⟩ := box_cells hT14.b; simp only at a0 a1 a2 a3 b0 b1 b2; have hltA := blk_lt hT14.a; have hltB := blk_lt hT14.b; have HT14 := Lib.hid hT14; clear hx14 hT14)
        | (go_at_call 15; (with_reducible refine (new_any _).mono ?_); rintro r w15 ⟨sb, mb, rfl, hs15, hx15, hsb, hmb⟩; have hT15 := HT14.out.keep hx15; obtain ⟨a0, a1, a2, a3⟩ := box4 hT15.a; obtain ⟨b0, b1, b2⟩ := box_cells hT15.b; simp only at a0 a1 a2 a3 b0 b1 b2; have hltA := blk_lt hT15.a; have hltB := blk_lt hT15.b; have HT15 := Lib.hid hT15; have Hs15 := Lib.hid hs15; have Hmb := Lib.hid (And.intro HT14.out (And.intro hx15 hmb)); clear hx15 hT15 hs15 hsb hmb)
        | (go_at_call 21; (with_reducible refine (Hap.out _ sb mb Hs15.out).mono ?_); rintro r w16 ⟨rfl, _, hx16⟩; have hX := (Hmb.out.1.ext.trans Hmb.out.2.1).trans' hx16 (fun k' hk' (e' : k' = mb) => absurd Hmb.out.2.2 (by have := Hmb.out.1.ext.size; omega)); have hA : ¬ A = mb := (fun e' => by have := blk_lt Hmb.out.1.a; have := Hmb.out.2.2; omega); have hB : ¬ B = mb := (fun e' => by have := blk_lt Hmb.out.1.b; have := Hmb.out.2.2; omega); have hTa := (hx16.blk hltA hA).trans HT15.out.a; have hTb := (hx16.blk hltB hB).trans HT15.out.b; obtain ⟨a0, a1, a2, a3⟩ := box4 hTa; obtain ⟨b0, b1, b2⟩ := box_cells hTb; simp only at a0 a1 a2 a3 b0 b1 b2; have hltA := blk_lt hTa; have hltB := blk_lt hTb; have HX := Lib.hid hX; clear hx16 hX hA hB hTa hTb))
    all_goals go_wp2
    all_goals go_ret
    all_goals exact ⟨rfl, HX.out⟩
end Go.Proofs.Ythipbmppmgkklaa
