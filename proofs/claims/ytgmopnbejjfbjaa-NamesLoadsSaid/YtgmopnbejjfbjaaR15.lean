/-
  The reference of package names: Save. Conditions: IsRef45; the registry is small.
-/
import Derived.Test.YtgmopnbejjfbjaaR14
namespace Go.Proofs.Ytgmopnbejjfbjaa
open Go.RowKit Go.MapKept
open Go.ChangeMaps (setBlock)

def encE (x : Ep) : List UInt8 := encNum x.a.toNat ++ encNum x.t.toNat ++ encNum x.g.toNat
def encN (p : ByteArray × List Ep) : List UInt8 := encNum p.1.size ++ p.1.data.toList ++ encNum p.2.length ++ p.2.flatMap encE
def saveM (M : List (ByteArray × List Ep)) : List UInt8 := encNum M.length ++ (ksort leS M).flatMap encN
theorem encNum_length (n : Nat) (h : n ≤ 18446744073709551615) : (encNum n).length ≤ 9 := by
  have := nbytes_le n h
  unfold encNum; rw [List.length_cons, beB_length]; omega
theorem flat_length {α : Type} {l : List α} {f : α → List UInt8} {B : Nat} (h : ∀ k ∈ l, (f k).length ≤ B) : (l.flatMap f).length ≤ l.length * B := by
  induction l with
  | nil => simp
  | cons x r ih =>
    rw [List.flatMap_cons, List.length_append, List.length_cons, Nat.succ_mul]
    have := h x (by simp)
    have := ih (fun k hk => h k (List.mem_cons_of_mem _ hk))
    omega
theorem flat_step {α : Type} {f : α → List UInt8} {l : List α} {i : Nat} {p : α} (h : l[i]? = some p) (a : List UInt8) : a ++ (l.take (i + 1)).flatMap f = a ++ (l.take i).flatMap f ++ f p := by
  rw [List.take_add_one, h]; simp
theorem flat_take_le {α : Type} {f : α → List UInt8} {l : List α} {B N : Nat} (h : ∀ k ∈ l, (f k).length ≤ B) (hN : l.length ≤ N) (i : Nat) : ((l.take i).flatMap f).length ≤ N * B :=
  Nat.le_trans (flat_length (B := B) (fun k hk => h k (List.mem_of_mem_take hk))) (Nat.mul_le_mul_right _ (by rw [List.length_take]; omega))
theorem encE_length {x : Ep} (h : okEp x) : (encE x).length ≤ 27 := by
  unfold okEp at h
  have h1 := encNum_length x.a.toNat (by omega)
  have h2 := encNum_length x.t.toNat (by omega)
  have h3 := encNum_length x.g.toNat (by omega)
  simp only [encE, List.length_append]
  omega
theorem size_len (s : ByteArray) : s.data.toList.length = s.size := Array.length_toList
structure Small (M : List (ByteArray × List Ep)) : Prop where
  nodup : (M.map Prod.fst).Nodup
  len : M.length ≤ 1000
  each : ∀ p ∈ M, p.1.size ≤ 1000 ∧ p.2.length ≤ 1000 ∧ ∀ x ∈ p.2, okEp x
theorem encN_length {p : ByteArray × List Ep} (h : p.1.size ≤ 1000 ∧ p.2.length ≤ 1000 ∧ ∀ x ∈ p.2, okEp x) : (encN p).length ≤ 28018 := by
  obtain ⟨h1, h2, h3⟩ := h
  have a1 := encNum_length p.1.size (by omega)
  have a2 := encNum_length p.2.length (by omega)
  have a3 := flat_length (f := encE) (B := 27) (l := p.2) (fun x hx => encE_length (h3 x hx))
  have a4 := size_len p.1
  simp only [encN, List.length_append]
  omega
theorem rnumber_of (w : World) (v : Value) (l : List UInt8) (n : Nat) {x : Int} (hx : x = n) (hb : IsBytes w v l) (hn : n ≤ 18446744073709551615) (hl : l.length ≤ 1073741824) :
    Calls Try.prog 73 #[v, .int .u64 x] w (FreshPost w (l ++ encNum n)) := by subst hx; exact rnumber_any w v l n hb hn hl
theorem u64_nat (n : Nat) (h : n ≤ 18446744073709551615) : IntKind.u64.wrap (n : Int) = n := IntWalk.u64_in _ (by omega)
def SavePost (w : World) (M : List (ByteArray × List Ep)) (r : Ending) (w' : World) : Prop := r = .returned (.string ⟨(saveM M).toArray⟩) ∧ Ext (fun _ => False) w w'
theorem cs_len : ∀ x : Ep, x.cs.length = 3 := fun _ => rfl
theorem Small.row {M : List (ByteArray × List Ep)} (h : Small M) {R : List (ByteArray × Slot)} (hR : R.map valN = ksort leS M) {i : Nat} {p : ByteArray × Slot} (hp : R[i]? = some p) : p.1.size ≤ 1000 ∧ p.2.l.length ≤ 1000 ∧ ∀ x ∈ p.2.l, okEp x := by
  have h1 : valN p ∈ ksort leS M := by rw [← hR]; exact List.mem_map.2 ⟨p, List.mem_of_getElem? hp, rfl⟩
  exact h.each _ ((ksort_perm M).mem_iff.1 h1)
set_option maxRecDepth 100000 in
set_option maxHeartbeats 4000000 in
theorem rsave_any (w : World) (v : Value) (M : List (ByteArray × List Ep)) (hr : IsRef45 w v M) (hM : Small M) : Calls Try.prog 53 #[v] w (SavePost w M) := by
  obtain ⟨R, hr, hR⟩ := hr
  have hlen := ref_length hR
  have hsv : saveM M = encNum R.length ++ R.flatMap (fun p => encN (valN p)) := by
    unfold saveM; rw [← hR, hlen, List.flatMap_map]
  have hrow := fun i p (hp : R[i]? = some p) => hM.row hR hp
  have hRl : R.length ≤ 1000 := by rw [hlen]; exact hM.len
  have hflat := flat_take_le (f := fun p => encN (valN p)) (l := R) (B := 28018) (N := 1000) (fun p hp => by
    obtain ⟨i, hi, rfl⟩ := List.getElem_of_mem hp
    exact encN_length (hrow i _ (List.getElem?_eq_getElem hi))) hRl
  unfold SavePost
  rw [hsv]
  obtain ⟨a1, c1, rfl⟩ := ownsRow_shape hr.1
  obtain ⟨N, hN⟩ : ∃ N, R.length = N := ⟨_, rfl⟩
  have hr1 := hr.1
  rw [hN] at hRl hr1 ⊢
  have HN := Lib.hid hN
  have Hr1 := Lib.hid hr1
  have Hr2 := Lib.hid hr.2
  have Hrow := Lib.hid hrow
  have Hflat := Lib.hid hflat
  have hlN := encNum_length N (by omega)
  clear hN hr hr1 hrow hflat hsv hlen hR hM
  go_enter Try.func53, Try.ntmps53
  go_wp2_with fail
  refine (rnumber_any _ _ [] N (World.ownsRow_nil w 0 _ 1) (by omega) (by simp)).mono ?_
  rintro r w2 ⟨v2, rfl, hv2, hx2, _⟩
  rw [List.nil_append] at hv2
  have Hx2 := Lib.hid hx2
  have Hv2 := Lib.hid hv2
  clear hv2 hx2
  go_wp2_with fail
  go_loopg [3, 4] N (fun q v3 v4 wr => ∃ j : Nat, j ≤ N ∧ q = N - j ∧ v4 = .int .i64 j ∧ IsBytes wr v3 (encNum N ++ (R.take j).flatMap (fun p => encN (valN p))) ∧ Ext (fun _ => False) w wr)
  case atStart => exact ⟨0, Nat.zero_le _, rfl, rfl, by simpa using Hv2.out, Hx2.out⟩
  case round =>
    obtain ⟨j, hj, rfl, rfl, hB, hx⟩ := hrel
    clear Hx2 Hv2
    by_cases hjN : j < N
    · obtain ⟨g, rfl, hgl⟩ := row_form Hr1.out (by omega)
      obtain ⟨p, hp⟩ : ∃ p, R[j]? = some p := ⟨_, List.getElem?_eq_getElem (by rw [HN.out]; exact hjN)⟩
      have hrw := row_at (f := cellsN) cellsN_len Hr1.out j hp
      have e0 := hrw 0 (by omega) rfl
      have e1 := hrw 1 (by omega) rfl
      obtain ⟨q1, q2, q3⟩ := Hrow.out j p hp
      have hse := Hr2.out p (List.mem_of_getElem? hp)
      have hst := flat_step (f := fun p => encN (valN p)) hp (encNum N)
      obtain ⟨nm, ⟨sv, l⟩⟩ := p
      simp only [Nat.add_zero] at e0 e1 q1 q2 q3 hse
      obtain ⟨ae, ce, rfl⟩ := ownsRow_shape hse
      have hlen : (encNum N ++ (R.take j).flatMap (fun p => encN (valN p))).length ≤ 28018009 := by
        have := Hflat.out j
        rw [List.length_append]; omega
      generalize encNum N ++ (R.take j).flatMap (fun p => encN (valN p)) = L at *
      have He0 := Lib.hid e0
      have He1 := Lib.hid e1
      have Hst := Lib.hid hst
      have HB := Lib.hid hB
      have Hx := Lib.hid hx
      have Hse := Lib.hid hse
      have H3 := Lib.hid q3
      have j0 : (0 : Int) ≤ (j : Int) := by omega
      have j1 : (j : Int) < (N : Int) := by omega
      have d0 := (hx.cell (p := ⟨g, j * 2, none⟩) hgl id).trans e0
      have d1 := (hx.cell (p := ⟨g, j * 2 + 1, none⟩) hgl id).trans e1
      have hgl' : g < wr.heap.size := Nat.lt_of_lt_of_le hgl hx.size
      obtain ⟨n, hn⟩ : ∃ n, l.length = n := ⟨_, rfl⟩
      rw [hn] at q2 Hse d1 He1
      have Hn := Lib.hid hn
      clear hst hB hx hse q3 e0 e1 hp hn hrw
      go_upto_region 5 with fail
      go_region_held3 (fun w' => w'.cell? ⟨g, j * 2, none⟩ = some (.string nm) ∧ w'.cell? ⟨g, j * 2 + 1, none⟩ = some (.slice ae n ce))
        (first | exact ⟨by assumption, by assumption⟩ | go_keep)
        (first
          | (go_at_call 74; (with_reducible refine (rtext_any _ u3 L nm (HB.out.keep ((Ext.refl _ _).drew)) (by omega) (by omega)).mono ?_); rintro r w5 ⟨v5, rfl, hb5, hx5, _⟩; have y0 := (hx5.cell (p := ⟨g, j * 2, none⟩) hgl' id).trans d0; have y1 := (hx5.cell (p := ⟨g, j * 2 + 1, none⟩) hgl' id).trans d1; have Hx5 := Lib.hid hx5; have Hb5 := Lib.hid hb5; clear hx5 hb5)
          | (go_at_call 73; (with_reducible refine (rnumber_of _ v5 _ n (u64_nat n (by omega)) Hb5.out (by omega) (by have := encNum_length nm.size (by omega); have := size_len nm; rw [List.length_append, List.length_append]; omega)).mono ?_); rintro r w6 ⟨v6, rfl, hb6, hx6, _⟩; have z0 := (hx6.cell (p := ⟨g, j * 2, none⟩) (Nat.lt_of_lt_of_le hgl' Hx5.out.size) id).trans y0; have z1 := (hx6.cell (p := ⟨g, j * 2 + 1, none⟩) (Nat.lt_of_lt_of_le hgl' Hx5.out.size) id).trans y1; have Hx6 := Lib.hid hx6; have Hb6 := Lib.hid hb6; clear hx6 hb6))
      have hX6 : Ext (fun _ => False) wr w6 := ((Ext.refl _ wr).drew.trans Hx5.out).trans Hx6.out
      have Hxw6 := Lib.hid (Hx.out.trans hX6)
      have hl2 : (L ++ (encNum nm.size ++ nm.data.toList) ++ encNum n).length ≤ 28019027 := by
        have := encNum_length nm.size (by omega)
        have := encNum_length n (by omega)
        have := size_len nm
        rw [List.length_append, List.length_append, List.length_append]; omega
      obtain ⟨L2, hL2⟩ : ∃ L2, L ++ (encNum nm.size ++ nm.data.toList) ++ encNum n = L2 := ⟨_, rfl⟩
      rw [hL2] at Hb6 hl2
      have HL2 := Lib.hid hL2
      clear hX6 hL2 d0 d1 y0 y1 z0 z1 Hx HB Hx5 Hb5 Hx6 hgl'
      go_wp2_with fail
      go_loopg [3, 5] n (fun q v3 v5 wr => ∃ k : Nat, k ≤ n ∧ q = n - k ∧ v5 = .int .i64 k ∧ IsBytes wr v3 (L2 ++ (l.take k).flatMap encE) ∧ Ext (fun _ => False) w wr)
      case atStart => exact ⟨0, Nat.zero_le _, rfl, rfl, by simpa using Hb6.out, Hxw6.out⟩
      case round =>
        obtain ⟨k, hk, rfl, rfl, hB, hx⟩ := hrel
        clear Hb6 Hxw6
        have d1 := (hx.cell (p := ⟨g, j * 2 + 1, none⟩) hgl id).trans He1.out
        by_cases hkN : k < n
        · obtain ⟨ge, rfl, hge⟩ := row_form Hse.out (by omega)
          obtain ⟨x, hx0⟩ : ∃ x, l[k]? = some x := ⟨_, List.getElem?_eq_getElem (by rw [Hn.out]; exact hkN)⟩
          have hrw := row_at (f := Ep.cs) cs_len Hse.out k hx0
          have c0 := (hx.cell (p := ⟨ge, k * 3 + 0, none⟩) hge id).trans (hrw 0 (by omega) rfl)
          have c1 := (hx.cell (p := ⟨ge, k * 3 + 1, none⟩) hge id).trans (hrw 1 (by omega) rfl)
          have c2 := (hx.cell (p := ⟨ge, k * 3 + 2, none⟩) hge id).trans (hrw 2 (by omega) rfl)
          have okx := H3.out x (List.mem_of_getElem? hx0)
          have hst2 := flat_step (f := encE) hx0 L2
          obtain ⟨xa, xt, xg⟩ := x
          simp only [okEp] at okx
          obtain ⟨b1, b2, b3, b4, b5, b6⟩ := okx
          obtain ⟨an, rfl⟩ := Int.eq_ofNat_of_zero_le (show 0 ≤ xa by omega)
          obtain ⟨tn, rfl⟩ := Int.eq_ofNat_of_zero_le (show 0 ≤ xt by omega)
          obtain ⟨gn, rfl⟩ := Int.eq_ofNat_of_zero_le b5
          have hl3 : (L2 ++ (l.take k).flatMap encE).length ≤ 28046027 := by
            have := flat_take_le (f := encE) (l := l) (B := 27) (N := 1000) (fun x hx => encE_length (H3.out x hx)) (by rw [Hn.out]; exact q2) k
            rw [List.length_append]; omega
          simp only [Nat.add_zero] at c0
          simp only [encE, Int.toNat_natCast] at hst2
          generalize L2 ++ (l.take k).flatMap encE = L3 at *
          have Hst2 := Lib.hid hst2
          have HB := Lib.hid hB
          have Hx := Lib.hid hx
          have i0 : (0 : Int) ≤ (k : Int) := by omega
          have i1 : (k : Int) < (n : Int) := by omega
          clear hst2 hB hx hx0 hrw
          go_upto_region 10 with fail
          have hbx := blk_alloc_at wr (.cells #[.int .i64 an, .int .i64 tn, .int .i64 gn] 110)
          have hxb : Ext (fun _ => False) wr (wr.alloc (.cells #[.int .i64 an, .int .i64 tn, .int .i64 gn] 110)) := (Ext.refl _ wr).alloc _
          generalize hxB : wr.heap.size = xb at *
          generalize wr.alloc (.cells #[.int .i64 an, .int .i64 tn, .int .i64 gn] 110) = wb at *
          have HBb := Lib.hid (HB.out.keep hxb)
          have Hxwb := Lib.hid (Hx.out.trans hxb)
          obtain ⟨x0, x1, x2⟩ := box_cells hbx
          have Hbx := Lib.hid hbx
          clear hbx hxb HB Hx c0 c1 c2 d1 hxB
          go_region_held3 (fun w' => w'.cell? ⟨xb, 0, none⟩ = some (.int .i64 an) ∧ w'.cell? ⟨xb, 1, none⟩ = some (.int .i64 tn) ∧ w'.cell? ⟨xb, 2, none⟩ = some (.int .i64 gn))
            (first | exact ⟨by assumption, by assumption, by assumption⟩ | go_keep)
            (first
              | (go_at_call 73; (with_reducible refine (rnumber_of _ u3 L3 an (u64_nat an (by omega)) (HBb.out.keep ((Ext.refl _ _).drew)) (by omega) (by omega)).mono ?_); rintro r w5 ⟨v5, rfl, hb5, hx5, _⟩; obtain ⟨y0, y1, y2⟩ := box_cells ((hx5.blk (blk_lt (w := World.drew _) Hbx.out) id).trans Hbx.out); have Hx5 := Lib.hid hx5; have Hb5 := Lib.hid hb5; clear hx5 hb5)
              | (go_at_call 73; (with_reducible refine (rnumber_of _ v5 _ tn (u64_nat tn (by omega)) Hb5.out (by omega) (by have := encNum_length an (by omega); rw [List.length_append]; omega)).mono ?_); rintro r w6 ⟨v6, rfl, hb6, hx6, _⟩; obtain ⟨z0, z1, z2⟩ := box_cells ((hx6.blk (Nat.lt_of_lt_of_le (blk_lt Hbx.out) Hx5.out.size) id).trans ((Hx5.out.blk (blk_lt (w := World.drew _) Hbx.out) id).trans Hbx.out)); have Hx6 := Lib.hid hx6; have Hb6 := Lib.hid hb6; clear hx6 hb6)
              | (go_at_call 73; (with_reducible refine (rnumber_of _ v6 _ gn (u64_nat gn (by omega)) Hb6.out (by omega) (by have := encNum_length an (by omega); have := encNum_length tn (by omega); rw [List.length_append, List.length_append]; omega)).mono ?_); rintro r w7 ⟨v7, rfl, hb7, hx7, _⟩; obtain ⟨t0, t1, t2⟩ := box_cells ((hx7.blk (Nat.lt_of_lt_of_le (blk_lt Hbx.out) (Nat.le_trans Hx5.out.size Hx6.out.size)) id).trans ((Hx6.out.blk (Nat.lt_of_lt_of_le (blk_lt Hbx.out) Hx5.out.size) id).trans ((Hx5.out.blk (blk_lt (w := World.drew _) Hbx.out) id).trans Hbx.out))); have Hx7 := Lib.hid hx7; have Hb7 := Lib.hid hb7; clear hx7 hb7))
          have HBn : Hid (IsBytes w7 v7 (L2 ++ (l.take (k + 1)).flatMap encE)) := Lib.hid (by rw [Hst2.out]; have := Hb7.out; simp only [List.append_assoc] at this ⊢; exact this)
          have hX7 : Ext (fun _ => False) wb w7 := (((Ext.refl _ wb).drew.trans Hx5.out).trans Hx6.out).trans Hx7.out
          have HXn := Lib.hid (Hxwb.out.trans hX7)
          clear hX7 x0 x1 x2 y0 y1 y2 z0 z1 z2 t0 t1 t2
          go_wp2
          go_roundg (n - (k + 1))
          case measure => omega
          case rel => exact ⟨k + 1, by omega, rfl, by go_num, HBn.out, HXn.out⟩
        · rw [List.take_of_length_le (by rw [Hn.out]; omega)] at hB
          have HBn : Hid (IsBytes wr u3 (encNum N ++ (R.take (j + 1)).flatMap (fun p => encN (valN p)))) := Lib.hid (by
            rw [Hst.out]
            have e : L ++ encN (valN (nm, ⟨.slice ae l.length ce, l⟩)) = L2 ++ l.flatMap encE := by
              rw [← HL2.out, ← Hn.out]; simp only [encN, valN, List.append_assoc]
            rw [e]
            exact hB)
          have Hx := Lib.hid hx
          clear hB hx
          go_wp2
          go_roundg (N - (j + 1))
          case measure => omega
          case rel => exact ⟨j + 1, by omega, rfl, by go_num, HBn.out, Hx.out⟩
    · rw [List.take_of_length_le (by rw [HN.out]; omega)] at hB
      obtain ⟨LT, hLT⟩ : ∃ LT, encNum N ++ R.flatMap (fun p => encN (valN p)) = LT := ⟨_, rfl⟩
      rw [hLT] at hB
      obtain ⟨ab, cb, rfl⟩ := hB.shape
      have HB := Lib.hid hB
      have Hx := Lib.hid hx
      have HLT := Lib.hid hLT
      clear hB hx hLT
      go_wp2_with fail
      rw [run_bytes_string HB.out]
      go_wp2
      go_ret
      exact ⟨by rw [HLT.out]; rfl, Hx.out⟩
end Go.Proofs.Ytgmopnbejjfbjaa
