/-
  The reference of package store: Save. Conditions: IsRows; the keys are small, the values int64s.
-/
import Derived.Test.YthipbmppmgkklaaC3
import Derived.Test.YthipbmppmgkklaaWS
namespace Go.Proofs.Ythipbmppmgkklaa
open Go.RowKit Go.MapKept
open Go.ChangeMaps (setBlock)

def encP (p : ByteArray × Int) : List UInt8 := encNum p.1.size ++ p.1.data.toList ++ encInt p.2
def rowsM (R : KM) : List UInt8 := encNum R.length ++ R.flatMap encP
theorem size_len (s : ByteArray) : s.data.toList.length = s.size := Array.length_toList
theorem keysM_sort (m : KM) : keysM m = (ksort leS m).map fun p => p.1.data.toList := by
  unfold keysM ksort
  exact (List.map_mergeSort (r := fun p q : ByteArray × Int => leS p.1 q.1) (s := fun x y => decide (x ≤ y)) (f := fun p : ByteArray × Int => p.1.data.toList) (fun a _ b _ => rfl)).symm
/-- the saved text is the reference's -/
theorem saveM_rows {m : KM} (hn : (m.map Prod.fst).Nodup) : saveM m = rowsM (ksort leS m) := by
  unfold saveM rowsM
  rw [ksort_length, keysM_sort, List.flatMap_map]
  congr 1
  have h : ∀ p ∈ ksort leS m, encPair p.1.data.toList (valAt m p.1.data.toList) = encP p := fun p hp => by
    have hv : assoc m p.1 = some p.2 := by rw [assoc_k]; exact kget_of_mem hn ((ksort_perm m).mem_iff.1 hp)
    unfold encPair valAt encP
    have e : (⟨p.1.data.toList.toArray⟩ : ByteArray) = p.1 := bytes_ext (by simp)
    rw [e, hv, size_len]; rfl
  revert h
  generalize ksort leS m = S
  intro h
  induction S with
  | nil => rfl
  | cons p r ih => rw [List.flatMap_cons, List.flatMap_cons, h p (by simp), ih (fun q hq => h q (by simp [hq]))]
theorem encP_length {p : ByteArray × Int} (h : p.1.size ≤ 1000) (hv : InR p.2) : (encP p).length ≤ 1018 := by
  have a := encNum_length p.1.size (by omega)
  have b := encNum_length (zz p.2) (zz_le p.2 hv.1 hv.2)
  have c := size_len p.1
  simp only [encP, encInt, List.length_append]; omega
theorem flat_len {α : Type} {l : List α} {f : α → List UInt8} {B : Nat} (h : ∀ k ∈ l, (f k).length ≤ B) : (l.flatMap f).length ≤ l.length * B := by
  induction l with
  | nil => simp
  | cons x r ih =>
    rw [List.flatMap_cons, List.length_append, List.length_cons, Nat.succ_mul]
    have := h x (by simp)
    have := ih (fun k hk => h k (List.mem_cons_of_mem _ hk))
    omega
theorem flat_step {α : Type} {f : α → List UInt8} {l : List α} {i : Nat} {p : α} (h : l[i]? = some p) (a : List UInt8) : a ++ (l.take (i + 1)).flatMap f = a ++ (l.take i).flatMap f ++ f p := by
  rw [List.take_add_one, h]; simp
theorem flat_take_le {α : Type} {f : α → List UInt8} {l : List α} {B N : Nat} (h : ∀ k ∈ l, (f k).length ≤ B) (hN : l.length ≤ N) (i : Nat) : ((l.take i).flatMap f).length ≤ N * B :=
  Nat.le_trans (flat_len (B := B) (fun k hk => h k (List.mem_of_mem_take hk))) (Nat.mul_le_mul_right _ (by rw [List.length_take]; omega))
def RSavePost (w : World) (R : KM) (r : Ending) (w' : World) : Prop := r = .returned (.string ⟨(rowsM R).toArray⟩) ∧ Ext (fun _ => False) w w'
set_option maxRecDepth 100000 in
set_option maxHeartbeats 4000000 in
theorem rsave_any (w : World) (v : Value) (R : KM) (hr : IsRows w v R) (hRl : R.length ≤ 10000) (hrow : ∀ p ∈ R, p.1.size ≤ 1000 ∧ InR p.2) : Calls Try.prog 48 #[v] w (RSavePost w R) := by
  have hflat := flat_take_le (f := encP) (l := R) (B := 1018) (N := 10000) (fun p hp => encP_length (hrow p hp).1 (hrow p hp).2) hRl
  unfold RSavePost rowsM
  obtain ⟨a1, c1, rfl⟩ := ownsRow_shape hr
  unfold IsRows at hr
  obtain ⟨N, hN⟩ : ∃ N, R.length = N := ⟨_, rfl⟩
  rw [hN] at hRl hr ⊢
  have HN := Lib.hid hN
  have Hr1 := Lib.hid hr
  have Hrow := Lib.hid hrow
  have Hflat := Lib.hid hflat
  have hlN := encNum_length N (by omega)
  clear hN hr hrow hflat
  go_enter Try.func48, Try.ntmps48
  go_wp2_with fail
  refine (rnumber_any _ _ [] N (World.ownsRow_nil w 0 _ 1) (by omega) (by simp)).mono ?_
  rintro r w2 ⟨v2, rfl, hv2, hx2, _⟩
  rw [List.nil_append] at hv2
  have Hx2 := Lib.hid hx2
  have Hv2 := Lib.hid hv2
  clear hv2 hx2
  go_wp2_with fail
  go_loopg [3, 4] N (fun q v3 v4 wr => ∃ j : Nat, j ≤ N ∧ q = N - j ∧ v4 = .int .i64 j ∧ IsBytes wr v3 (encNum N ++ (R.take j).flatMap encP) ∧ Ext (fun _ => False) w wr)
  case atStart => exact ⟨0, Nat.zero_le _, rfl, rfl, by simpa using Hv2.out, Hx2.out⟩
  case round =>
    obtain ⟨j, hj, rfl, rfl, hB, hx⟩ := hrel
    clear Hx2 Hv2
    by_cases hjN : j < N
    · obtain ⟨g, rfl, hgl⟩ := row_form Hr1.out (by omega)
      obtain ⟨p, hp⟩ : ∃ p, R[j]? = some p := ⟨_, List.getElem?_eq_getElem (by rw [HN.out]; exact hjN)⟩
      have hrw := row_at (f := cellsP) cellsP_len Hr1.out j hp
      have e0 := hrw 0 (by omega) rfl
      have e1 := hrw 1 (by omega) rfl
      obtain ⟨q1, q2⟩ := Hrow.out p (List.mem_of_getElem? hp)
      have hst := flat_step (f := encP) hp (encNum N)
      obtain ⟨nm, x⟩ := p
      simp only [Nat.add_zero] at e0 e1 q1 q2
      obtain ⟨x1, x2⟩ := q2
      have hlen : (encNum N ++ (R.take j).flatMap encP).length ≤ 10180009 := by
        have := Hflat.out j
        rw [List.length_append]; omega
      generalize encNum N ++ (R.take j).flatMap encP = L at *
      have Hst := Lib.hid hst
      have HB := Lib.hid hB
      have Hx := Lib.hid hx
      have j0 : (0 : Int) ≤ (j : Int) := by omega
      have j1 : (j : Int) < (N : Int) := by omega
      have d0 := (hx.cell (p := ⟨g, j * 2, none⟩) hgl id).trans e0
      have d1 := (hx.cell (p := ⟨g, j * 2 + 1, none⟩) hgl id).trans e1
      have hgl' : g < wr.heap.size := Nat.lt_of_lt_of_le hgl hx.size
      clear hst hB hx e0 e1 hp hrw
      go_upto_region 5 with fail
      go_region_held3 (fun w' => w'.cell? ⟨g, j * 2, none⟩ = some (.string nm) ∧ w'.cell? ⟨g, j * 2 + 1, none⟩ = some (.int .i64 x))
        (first | exact ⟨by assumption, by assumption⟩ | go_keep)
        (first
          | (go_at_call 45; (with_reducible refine (rtext_any _ u3 L nm (HB.out.keep ((Ext.refl _ _).drew)) (by omega) (by omega)).mono ?_); rintro r w5 ⟨v5, rfl, hb5, hx5, _⟩; have y0 := (hx5.cell (p := ⟨g, j * 2, none⟩) hgl' id).trans d0; have y1 := (hx5.cell (p := ⟨g, j * 2 + 1, none⟩) hgl' id).trans d1; have Hx5 := Lib.hid hx5; have Hb5 := Lib.hid hb5; clear hx5 hb5)
          | (go_at_call 46; (with_reducible refine (rint_any _ v5 _ x Hb5.out x1 x2 (by have := encNum_length nm.size (by omega); have := size_len nm; rw [List.length_append, List.length_append]; omega)).mono ?_); rintro r w6 ⟨v6, rfl, hb6, hx6, _⟩; have z0 := (hx6.cell (p := ⟨g, j * 2, none⟩) (Nat.lt_of_lt_of_le hgl' Hx5.out.size) id).trans y0; have z1 := (hx6.cell (p := ⟨g, j * 2 + 1, none⟩) (Nat.lt_of_lt_of_le hgl' Hx5.out.size) id).trans y1; have Hx6 := Lib.hid hx6; have Hb6 := Lib.hid hb6; clear hx6 hb6))
      have hX6 : Ext (fun _ => False) wr w6 := ((Ext.refl _ wr).drew.trans Hx5.out).trans Hx6.out
      have HXn := Lib.hid (Hx.out.trans hX6)
      have HBn : Hid (IsBytes w6 v6 (encNum N ++ (R.take (j + 1)).flatMap encP)) := Lib.hid (by rw [Hst.out]; have := Hb6.out; simp only [encP, List.append_assoc] at this ⊢; exact this)
      clear hX6 d0 d1 y0 y1 z0 z1 Hx HB Hx5 Hb5 Hx6 Hb6 hgl'
      go_wp2
      go_roundg (N - (j + 1))
      case measure => omega
      case rel => exact ⟨j + 1, by omega, rfl, by go_num, HBn.out, HXn.out⟩
    · rw [List.take_of_length_le (by rw [HN.out]; omega)] at hB
      obtain ⟨LT, hLT⟩ : ∃ LT, encNum N ++ R.flatMap encP = LT := ⟨_, rfl⟩
      rw [hLT] at hB
      obtain ⟨ab, cb, rfl⟩ := hB.shape
      have HB := Lib.hid hB
      have Hx := Lib.hid hx
      have HLT := Lib.hid hLT
      clear hB hx hLT
      go_wp2_with fail
      rw [run_bytes_string HB.out]
      go_wp2
      go_ret
      exact ⟨by rw [HLT.out]; rfl, Hx.out⟩
end Go.Proofs.Ythipbmppmgkklaa
