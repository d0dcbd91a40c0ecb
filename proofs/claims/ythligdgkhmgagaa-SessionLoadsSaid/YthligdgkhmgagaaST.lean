/-
  The reference of package session: Save. Conditions: IsRef; lengths bounded.
-/
import Derived.Test.YthligdgkhmgagaaWS
import Derived.Test.YthligdgkhmgagaaSO
import Derived.Deep.RegionHeld3
namespace Go.Proofs.Ythligdgkhmgagaa
open Go.RowKit Go.MapKept
open Go.ChangeMaps (setBlock)

def encC (p : Int × Ans) : List UInt8 := encNum p.1.toNat ++ encNum p.2.n.toNat ++ (encNum p.2.s.size ++ p.2.s.data.toList)
def encS (p : Int × Int) : List UInt8 := encNum p.1.toNat ++ encInt p.2
def saveM (T : Tbl) : List UInt8 := encNum T.cl.length ++ (sC T).flatMap encC ++ encNum T.gen.toNat ++ encNum T.st.length ++ (sS T).flatMap encS
theorem encNum_length (n : Nat) (h : n ≤ 18446744073709551615) : (encNum n).length ≤ 9 := by
  have := nbytes_le n h
  simp [encNum, beB_length]; omega
theorem flat_length {α : Type} {l : List α} {f : α → List UInt8} {B : Nat} (h : ∀ k ∈ l, (f k).length ≤ B) : (l.flatMap f).length ≤ l.length * B := by
  induction l with
  | nil => simp
  | cons a r ih =>
    have h1 := h a (by simp)
    have h2 := ih (fun k hk => h k (by simp [hk]))
    simp only [List.flatMap_cons, List.length_append, List.length_cons, Nat.succ_mul]
    omega
/-- what the two Saves ask of a table -/
structure Small (T : Tbl) : Prop where
  ok : TOk T
  cl : T.cl.length ≤ 1000
  st : T.st.length ≤ 1000
  body : ∀ p ∈ T.cl, p.2.s.size ≤ 1000
theorem Small.cmem {T : Tbl} (h : Small T) {i : Nat} {p : Int × Ans} (hp : (sC T)[i]? = some p) : 0 ≤ p.1 ∧ p.1 ≤ 4611686018427387904 ∧ 0 ≤ p.2.n ∧ p.2.n ≤ 4611686018427387904 ∧ p.2.s.size ≤ 1000 := by
  have hm : p ∈ T.cl := (ksort_perm T.cl).mem_iff.1 (List.mem_of_getElem? hp)
  have := h.ok.good.key p hm
  have := h.body p hm
  omega
theorem Small.smem {T : Tbl} (h : Small T) {i : Nat} {p : Int × Int} (hp : (sS T)[i]? = some p) : 0 ≤ p.1 ∧ p.1 ≤ 4611686018427387904 ∧ InR p.2 := by
  have hm : p ∈ T.st := (ksort_perm T.st).mem_iff.1 (List.mem_of_getElem? hp)
  have := h.ok.skey p hm
  exact ⟨by omega, by omega, this.2.2⟩
theorem encC_length {T : Tbl} (h : Small T) : ∀ p ∈ sC T, (encC p).length ≤ 1027 := fun p hp => by
  obtain ⟨i, hi⟩ := List.getElem?_of_mem hp
  have := h.cmem hi
  have h1 := encNum_length p.1.toNat (by omega)
  have h2 := encNum_length p.2.n.toNat (by omega)
  have h3 := encNum_length p.2.s.size (by omega)
  have h4 : p.2.s.data.toList.length = p.2.s.size := by simp
  simp only [encC, List.length_append]
  omega
theorem encS_length {T : Tbl} (h : Small T) : ∀ p ∈ sS T, (encS p).length ≤ 18 := fun p hp => by
  obtain ⟨i, hi⟩ := List.getElem?_of_mem hp
  have := h.smem hi
  have h1 := encNum_length p.1.toNat (by omega)
  have h2 := encNum_length (zz p.2) (zz_le _ this.2.2.1 this.2.2.2)
  simp only [encS, encInt, List.length_append]
  omega
theorem rnumber_of (w : World) (v : Value) (l : List UInt8) (n : Nat) {x : Int} (hx : x = n) (hb : IsBytes w v l) (hn : n ≤ 18446744073709551615) (hl : l.length ≤ 1073741824) :
    Calls Try.prog 62 #[v, .int .u64 x] w (FreshPost w (l ++ encNum n)) := by subst hx; exact rnumber_any w v l n hb hn hl
theorem u64_nat (n : Nat) (h : n ≤ 18446744073709551615) : IntKind.u64.wrap (n : Int) = n := IntWalk.u64_in _ (by omega)
def SavePost (w : World) (T : Tbl) (r : Ending) (w' : World) : Prop := r = .returned (.string ⟨(saveM T).toArray⟩) ∧ Ext (fun _ => False) w w'
theorem flat_step {α : Type} {f : α → List UInt8} {l : List α} {i : Nat} {p : α} (h : l[i]? = some p) (a : List UInt8) : a ++ (l.take (i + 1)).flatMap f = a ++ (l.take i).flatMap f ++ f p := by
  rw [List.take_add_one, h]; simp
theorem flat_take_le {α : Type} {f : α → List UInt8} {l : List α} {B N : Nat} (h : ∀ k ∈ l, (f k).length ≤ B) (hN : l.length ≤ N) (i : Nat) : ((l.take i).flatMap f).length ≤ N * B :=
  Nat.le_trans (flat_length (B := B) (fun k hk => h k (List.mem_of_mem_take hk))) (Nat.mul_le_mul_right _ (by rw [List.length_take]; omega))
set_option maxRecDepth 100000 in
set_option maxHeartbeats 4000000 in
theorem rsave_any (w : World) (v : Value) (T : Tbl) (hr : IsRef w v T) (hT : Small T) : Calls Try.prog 32 #[v] w (SavePost w T) := by
  obtain ⟨vc, vs, rfl, hc, hs⟩ := hr
  obtain ⟨a1, c1, rfl⟩ := ownsRow_shape hc
  obtain ⟨a2, c2, rfl⟩ := ownsRow_shape hs
  have hSc : (sC T).length = T.cl.length := ksort_length _
  have hSs : (sS T).length = T.st.length := ksort_length _
  have hsv : saveM T = encNum (sC T).length ++ (sC T).flatMap encC ++ encNum T.gen.toNat ++ encNum (sS T).length ++ (sS T).flatMap encS := by unfold saveM; rw [hSc, hSs]
  have hC := fun i p (hp : (sC T)[i]? = some p) => hT.cmem hp
  have hS := fun i p (hp : (sS T)[i]? = some p) => hT.smem hp
  have hlC := flat_take_le (encC_length hT) (N := 1000) (by rw [hSc]; exact hT.cl)
  have hlS := flat_take_le (encS_length hT) (N := 1000) (by rw [hSs]; exact hT.st)
  have hNc : (sC T).length ≤ 1000 := by rw [hSc]; exact hT.cl
  have hNs : (sS T).length ≤ 1000 := by rw [hSs]; exact hT.st
  obtain ⟨hg0, hg1⟩ := hT.ok.gen
  unfold SavePost
  rw [hsv]
  generalize sC T = SC at *
  generalize sS T = SS at *
  generalize T.gen = G at *
  obtain ⟨Gn, rfl⟩ := Int.eq_ofNat_of_zero_le hg0
  rw [Int.toNat_natCast]
  have Hc := Lib.hid hc
  have Hs := Lib.hid hs
  have HC := Lib.hid hC
  have HS := Lib.hid hS
  have HlC := Lib.hid hlC
  have HlS := Lib.hid hlS
  clear hc hs hSc hSs hsv hC hS hlC hlS hT
  go_enter Try.func32, Try.ntmps32
  go_wp2_with fail
  obtain ⟨w1, hw1⟩ : ∃ w1, w1 = w.alloc (.cells #[.slice a1 SC.length c1, .int .i64 Gn, .slice a2 SS.length c2] 39) := ⟨_, rfl⟩
  have hb1 : blk w1 w.heap.size = some (.cells #[.slice a1 SC.length c1, .int .i64 Gn, .slice a2 SS.length c2] 39 (0, 0)) := by rw [hw1]; exact blk_alloc_at _ _
  have hx1 : Ext (fun _ => False) w w1 := by rw [hw1]; exact (Ext.refl _ w).alloc _
  rw [← hw1]
  clear hw1
  refine (rnumber_any _ _ [] SC.length (World.ownsRow_nil w1 0 _ 1) (by omega) (by simp)).mono ?_
  rintro r w2 ⟨v2, rfl, hv2, hx2, _⟩
  rw [List.nil_append] at hv2
  have hxw2 := hx1.trans hx2
  have hb2 := (hx2.blk (blk_lt hb1) id).trans hb1
  have Hb2 := Lib.hid hb2
  have Hx2 := Lib.hid hxw2
  have Hv2 := Lib.hid hv2
  clear hb1 hx1 hb2 hxw2 hv2 hx2
  go_wp2_with fail
  go_loopg [3, 4] SC.length (fun q v3 v4 wr => ∃ j : Nat, j ≤ SC.length ∧ q = SC.length - j ∧ v4 = .int .i64 j ∧ IsBytes wr v3 (encNum SC.length ++ (SC.take j).flatMap encC) ∧ Ext (fun _ => False) w wr ∧ blk wr w.heap.size = some (.cells #[.slice a1 SC.length c1, .int .i64 Gn, .slice a2 SS.length c2] 39 (0, 0)))
  case atStart => exact ⟨0, Nat.zero_le _, rfl, rfl, by simpa using Hv2.out, Hx2.out, Hb2.out⟩
  case round =>
    obtain ⟨j, hj, rfl, rfl, hB, hx, hb⟩ := hrel
    clear Hb2 Hx2 Hv2
    obtain ⟨d0, d1, d2⟩ := box_cells hb
    by_cases hjN : j < SC.length
    · obtain ⟨g, rfl, hgl⟩ := row_form Hc.out (by omega)
      obtain ⟨p, hp⟩ : ∃ p, SC[j]? = some p := ⟨_, List.getElem?_eq_getElem hjN⟩
      have e0 := row_at cellsC_len (ownsRow_keep Hc.out hx) j hp 0 (by omega) rfl
      have e1 := row_at cellsC_len (ownsRow_keep Hc.out hx) j hp 1 (by omega) rfl
      have e2 := row_at cellsC_len (ownsRow_keep Hc.out hx) j hp 2 (by omega) rfl
      obtain ⟨q1, q2, q3, q4, q5⟩ := HC.out j p hp
      have hst := flat_step (f := encC) hp (encNum SC.length)
      obtain ⟨k, n, s⟩ := p
      simp only [Nat.add_zero] at e0 e1 e2 q1 q2 q3 q4 q5
      obtain ⟨kn, rfl⟩ := Int.eq_ofNat_of_zero_le q1
      obtain ⟨nn, rfl⟩ := Int.eq_ofNat_of_zero_le q3
      have hlen : (encNum SC.length ++ (SC.take j).flatMap encC).length ≤ 1027009 := by
        have := HlC.out j
        have := encNum_length SC.length (by omega)
        rw [List.length_append]; omega
      simp only [encC, Int.toNat_natCast] at hst
      generalize encNum SC.length ++ (SC.take j).flatMap encC = L at *
      have Hst := Lib.hid hst
      have HB := Lib.hid hB
      have Hx := Lib.hid hx
      have Hb := Lib.hid hb
      have hgl' : g < wr.heap.size := Nat.lt_of_lt_of_le hgl hx.size
      clear hst hB hx hb hp
      go_upto_region 6 with fail
      have hbx := blk_alloc_at wr (.cells #[.int .i64 kn, .int .i64 nn, .string s] 74)
      have hxb : Ext (fun _ => False) wr (wr.alloc (.cells #[.int .i64 kn, .int .i64 nn, .string s] 74)) := (Ext.refl _ wr).alloc _
      generalize hxB : wr.heap.size = xb at *
      generalize wr.alloc (.cells #[.int .i64 kn, .int .i64 nn, .string s] 74) = wb at *
      have hBb := HB.out.keep hxb
      have hbb := (hxb.blk (blk_lt Hb.out) id).trans Hb.out
      have hxwb := Hx.out.trans hxb
      obtain ⟨x0, x1, x2⟩ := box_cells hbx
      have HBb := Lib.hid hBb
      have Hbb := Lib.hid hbb
      have Hxwb := Lib.hid hxwb
      have Hbx := Lib.hid hbx
      clear hBb hbb hxwb hbx hxb HB Hx Hb d0 d1 d2 e0 e1 e2 hxB
      go_region_held3 (fun w' => w'.cell? ⟨xb, 0, none⟩ = some (.int .i64 kn) ∧ w'.cell? ⟨xb, 1, none⟩ = some (.int .i64 nn) ∧ w'.cell? ⟨xb, 2, none⟩ = some (.string s))
        (first | exact ⟨by assumption, by assumption, by assumption⟩ | go_keep)
        (first
          | (go_at_call 62; (with_reducible refine (rnumber_of _ u3 L kn (u64_nat kn (by omega)) (HBb.out.keep ((Ext.refl _ _).drew)) (by omega) (by omega)).mono ?_); rintro r w5 ⟨v5, rfl, hb5, hx5, _⟩; obtain ⟨y0, y1, y2⟩ := box_cells ((hx5.blk (blk_lt (w := World.drew _) Hbx.out) id).trans Hbx.out); have Hx5 := Lib.hid hx5; have Hb5 := Lib.hid hb5; clear hx5 hb5)
          | (go_at_call 62; (with_reducible refine (rnumber_of _ _ _ nn (u64_nat nn (by omega)) Hb5.out (by omega) (by have := encNum_length kn (by omega); rw [List.length_append]; omega)).mono ?_); rintro r w6 ⟨v6, rfl, hb6, hx6, _⟩; obtain ⟨z0, z1, z2⟩ := box_cells ((hx6.blk (Nat.lt_of_lt_of_le (blk_lt Hbx.out) Hx5.out.size) id).trans ((Hx5.out.blk (blk_lt (w := World.drew _) Hbx.out) id).trans Hbx.out)); have Hx6 := Lib.hid hx6; have Hb6 := Lib.hid hb6; clear hx6 hb6)
          | (go_at_call 63; refine (rtext_any _ _ _ s Hb6.out (by omega) (by have := encNum_length kn (by omega); have := encNum_length nn (by omega); rw [List.length_append, List.length_append]; omega)).mono ?_; rintro r w7 ⟨v7, rfl, hb7, hx7, _⟩; obtain ⟨t0, t1, t2⟩ := box_cells ((hx7.blk (Nat.lt_of_lt_of_le (blk_lt Hbx.out) (Nat.le_trans Hx5.out.size Hx6.out.size)) id).trans ((Hx6.out.blk (Nat.lt_of_lt_of_le (blk_lt Hbx.out) Hx5.out.size) id).trans ((Hx5.out.blk (blk_lt (w := World.drew _) Hbx.out) id).trans Hbx.out))); have Hx7 := Lib.hid hx7; have Hb7 := Lib.hid hb7; clear hx7 hb7))
      have HBn : Hid (IsBytes w7 v7 (encNum SC.length ++ (SC.take (j + 1)).flatMap encC)) := Lib.hid (by rw [Hst.out]; have := Hb7.out; simp only [List.append_assoc] at this ⊢; exact this)
      have hX7 : Ext (fun _ => False) wb w7 := (((Ext.refl _ wb).drew.trans Hx5.out).trans Hx6.out).trans Hx7.out
      have HXn := Lib.hid (Hxwb.out.trans hX7)
      have Hbn := Lib.hid ((hX7.blk (blk_lt Hbb.out) id).trans Hbb.out)
      clear hX7 x0 x1 x2 y0 y1 y2 z0 z1 z2 t0 t1 t2
      go_wp2
      go_roundg (SC.length - (j + 1))
      case measure => omega
      case rel => exact ⟨j + 1, by omega, rfl, by go_num, HBn.out, HXn.out, Hbn.out⟩
    · have hje : (SC.take j).flatMap encC = SC.flatMap encC := by rw [List.take_of_length_le (by omega)]
      rw [hje] at hB
      have hlen : (encNum SC.length ++ SC.flatMap encC).length ≤ 1027009 := by
        have := HlC.out j
        rw [hje] at this
        have := encNum_length SC.length (by omega)
        rw [List.length_append]; omega
      have hl1 := encNum_length Gn (by omega)
      have hl2 := encNum_length SS.length (by omega)
      obtain ⟨L, hL⟩ : ∃ L, encNum SC.length ++ SC.flatMap encC = L := ⟨_, rfl⟩
      rw [hL] at hB hlen
      have HL := Lib.hid hL
      clear hL
      have HB := Lib.hid hB
      have Hx := Lib.hid hx
      have Hb := Lib.hid hb
      clear hje hB hx hb HC HlC hj
      go_upto_region 7 with fail
      go_region_held3 (fun w' => w'.cell? ⟨w.heap.size, 1, none⟩ = some (.int .i64 Gn) ∧ w'.cell? ⟨w.heap.size, 2, none⟩ = some (.slice a2 SS.length c2))
        (first | exact ⟨by assumption, by assumption⟩ | go_keep)
        (first
          | (go_at_call 62; (with_reducible refine (rnumber_of _ u3 L Gn (u64_nat Gn (by omega)) (HB.out.keep ((Ext.refl _ _).drew)) (by omega) (by omega)).mono ?_); rintro r w5 ⟨v5, rfl, hb5, hx5, _⟩; obtain ⟨y0, y1, y2⟩ := box_cells ((hx5.blk (blk_lt (w := World.drew _) Hb.out) id).trans Hb.out); have Hx5 := Lib.hid hx5; have Hb5 := Lib.hid hb5; clear hx5 hb5)
          | (go_at_call 62; (with_reducible refine (rnumber_of _ _ _ SS.length (u64_nat _ (by omega)) Hb5.out (by omega) (by rw [List.length_append]; omega)).mono ?_); rintro r w6 ⟨v6, rfl, hb6, hx6, _⟩; obtain ⟨z0, z1, z2⟩ := box_cells ((hx6.blk (Nat.lt_of_lt_of_le (blk_lt Hb.out) Hx5.out.size) id).trans ((Hx5.out.blk (blk_lt (w := World.drew _) Hb.out) id).trans Hb.out)); have Hx6 := Lib.hid hx6; have Hb6 := Lib.hid hb6; clear hx6 hb6))
      have hX6 : Ext (fun _ => False) wr w6 := ((Ext.refl _ wr).drew.trans Hx5.out).trans Hx6.out
      have HX6 := Lib.hid (Hx.out.trans hX6)
      have Hbn := Lib.hid ((hX6.blk (blk_lt Hb.out) id).trans Hb.out)
      have hlen2 : (L ++ encNum Gn ++ encNum SS.length).length ≤ 1027027 := by rw [List.length_append, List.length_append]; omega
      obtain ⟨M, hM⟩ : ∃ M, L ++ encNum Gn ++ encNum SS.length = M := ⟨_, rfl⟩
      rw [hM] at Hb6 hlen2
      have HM := Lib.hid hM
      clear hM
      clear hX6 d0 d1 d2 y0 y1 y2 z0 z1 z2 Hx Hb HB Hx5 Hb5 Hx6
      go_wp2_with fail
      go_loopg [3, 6] SS.length (fun q v3 v6 wr => ∃ j : Nat, j ≤ SS.length ∧ q = SS.length - j ∧ v6 = .int .i64 j ∧ IsBytes wr v3 (M ++ (SS.take j).flatMap encS) ∧ Ext (fun _ => False) w wr ∧ blk wr w.heap.size = some (.cells #[.slice a1 SC.length c1, .int .i64 Gn, .slice a2 SS.length c2] 39 (0, 0)))
      case atStart => exact ⟨0, Nat.zero_le _, rfl, rfl, by simpa using Hb6.out, HX6.out, Hbn.out⟩
      case round =>
        obtain ⟨i, hi, rfl, rfl, hB, hx, hb⟩ := hrel
        clear Hb6 HX6 Hbn
        obtain ⟨d0, d1, d2⟩ := box_cells hb
        by_cases hiN : i < SS.length
        · obtain ⟨g, rfl, hgl⟩ := row_form Hs.out (by omega)
          obtain ⟨p, hp⟩ : ∃ p, SS[i]? = some p := ⟨_, List.getElem?_eq_getElem hiN⟩
          have e0 := row_at cellsS_len (ownsRow_keep Hs.out hx) i hp 0 (by omega) rfl
          have e1 := row_at cellsS_len (ownsRow_keep Hs.out hx) i hp 1 (by omega) rfl
          obtain ⟨q1, q2, q3⟩ := HS.out i p hp
          have hst := flat_step (f := encS) hp M
          obtain ⟨k, n⟩ := p
          simp only [Nat.add_zero] at e0 e1 q1 q2 q3
          obtain ⟨q3, q4⟩ := q3
          obtain ⟨kn, rfl⟩ := Int.eq_ofNat_of_zero_le q1
          have hlen3 : (M ++ (SS.take i).flatMap encS).length ≤ 1045027 := by
            have := HlS.out i
            rw [List.length_append]; omega
          simp only [encS, Int.toNat_natCast] at hst
          generalize M ++ (SS.take i).flatMap encS = L3 at *
          have Hst := Lib.hid hst
          have HB := Lib.hid hB
          have Hx := Lib.hid hx
          have Hb := Lib.hid hb
          have hgl' : g < wr.heap.size := Nat.lt_of_lt_of_le hgl hx.size
          have i1 : (i : Int) < (SS.length : Int) := by omega
          have i0 : (0 : Int) ≤ (i : Int) := by omega
          clear hst hB hx hb hp
          go_upto_region 11 with fail
          go_region_held3 (fun w' => w'.cell? ⟨w.heap.size, 2, none⟩ = some (.slice (some ⟨g, 0, none⟩) SS.length c2) ∧ w'.cell? ⟨g, i * 2, none⟩ = some (.int .i64 kn) ∧ w'.cell? ⟨g, i * 2 + 1, none⟩ = some (.int .i64 n))
            (first | exact ⟨by assumption, by assumption, by assumption⟩ | go_keep)
            (first
              | (go_at_call 62; (with_reducible refine (rnumber_of _ u3 L3 kn (u64_nat kn (by omega)) (HB.out.keep ((Ext.refl _ _).drew)) (by omega) (by omega)).mono ?_); rintro r w5 ⟨v5, rfl, hb5, hx5, _⟩; obtain ⟨y0, y1, y2⟩ := box_cells ((hx5.blk (blk_lt (w := World.drew _) Hb.out) id).trans Hb.out); have y3 := (hx5.cell (p := ⟨g, i * 2, none⟩) hgl' id).trans e0; have y4 := (hx5.cell (p := ⟨g, i * 2 + 1, none⟩) hgl' id).trans e1; have Hx5 := Lib.hid hx5; have Hb5 := Lib.hid hb5; clear hx5 hb5)
              | (go_at_call 64; refine (rint_any _ _ _ n Hb5.out q3 q4 (by have := encNum_length kn (by omega); rw [List.length_append]; omega)).mono ?_; rintro r w6 ⟨v6, rfl, hb6, hx6, _⟩; have z2 := (hx6.cell (p := ⟨w.heap.size, 2, none⟩) (Nat.lt_of_lt_of_le (blk_lt Hb.out) Hx5.out.size) id).trans y2; have z3 := (hx6.cell (p := ⟨g, i * 2, none⟩) (Nat.lt_of_lt_of_le hgl' Hx5.out.size) id).trans y3; have z4 := (hx6.cell (p := ⟨g, i * 2 + 1, none⟩) (Nat.lt_of_lt_of_le hgl' Hx5.out.size) id).trans y4; have Hx6 := Lib.hid hx6; have Hb6 := Lib.hid hb6; clear hx6 hb6))
          have HBn : Hid (IsBytes w6 v6 (M ++ (SS.take (i + 1)).flatMap encS)) := Lib.hid (by rw [Hst.out]; have := Hb6.out; simp only [List.append_assoc] at this ⊢; exact this)
          have hX6 : Ext (fun _ => False) wr w6 := ((Ext.refl _ wr).drew.trans Hx5.out).trans Hx6.out
          have HXn := Lib.hid (Hx.out.trans hX6)
          have Hbn := Lib.hid ((hX6.blk (blk_lt Hb.out) id).trans Hb.out)
          clear hX6 d0 d1 d2 e0 e1 y0 y1 y2 y3 y4 z2 z3 z4
          go_wp2
          go_roundg (SS.length - (i + 1))
          case measure => omega
          case rel => exact ⟨i + 1, by omega, rfl, by go_num, HBn.out, HXn.out, Hbn.out⟩
        · rw [List.take_of_length_le (by omega)] at hB
          obtain ⟨LT, hLT⟩ : ∃ LT, M ++ SS.flatMap encS = LT := ⟨_, rfl⟩
          rw [hLT] at hB
          obtain ⟨ab, cb, rfl⟩ := hB.shape
          have HB := Lib.hid hB
          have Hx := Lib.hid hx
          have HLT := Lib.hid hLT
          clear hB hx hb hLT
          go_wp2_with fail
          rw [run_bytes_string HB.out]
          go_wp2
          go_ret
          exact ⟨by rw [HL.out, HM.out, HLT.out]; rfl, Hx.out⟩
end Go.Proofs.Ythligdgkhmgagaa
