/-
  Package store: Save returns the bytes of the model. Conditions: as IsStore says; the keys' lengths bounded.
-/
import Derived.Test.YthipbmppmgkklaaTE
namespace Go.Proofs.Ythipbmppmgkklaa
open Go.RowKit Go.MapKept
open Go.ChangeMaps (setBlock)

def encPair (k : List UInt8) (v : Int) : List UInt8 := encNum k.length ++ k ++ encInt v
def valAt (m : KM) (k : List UInt8) : Int := (assoc m ⟨k.toArray⟩).getD 0
def saveM (m : KM) : List UInt8 := encNum m.length ++ (keysM m).flatMap (fun k => encPair k (valAt m k))
theorem encNum_length (n : Nat) (h : n ≤ 18446744073709551615) : (encNum n).length ≤ 9 := by
  have := nbytes_le n h
  simp [encNum, beB_length]; omega
theorem encPair_length (k : List UInt8) (v : Int) (hk : k.length ≤ 1000) (h1 : -9223372036854775808 ≤ v) (h2 : v ≤ 9223372036854775807) : (encPair k v).length ≤ 1018 := by
  have a := encNum_length k.length (by omega)
  have b := encNum_length (zz v) (zz_le v h1 h2)
  simp only [encPair, encInt, List.length_append]; omega
theorem flat_length {l : List (List UInt8)} {f : List UInt8 → List UInt8} {B : Nat} (h : ∀ k ∈ l, (f k).length ≤ B) : (l.flatMap f).length ≤ l.length * B := by
  induction l with
  | nil => simp
  | cons a r ih =>
    have h1 := h a (by simp)
    have h2 := ih (fun k hk => h k (by simp [hk]))
    simp only [List.flatMap_cons, List.length_append, List.length_cons]
    rw [Nat.add_mul]; omega
theorem keysM_mem {m : KM} {k : List UInt8} (h : k ∈ keysM m) : ∃ p ∈ m, p.1.data.toList = k := by
  have := (List.mergeSort_perm _ _).mem_iff.1 h
  simpa using this
theorem mem_of_assoc' {α : Type} {l : List (ByteArray × α)} {s : ByteArray} {v : α} (h : assoc l s = some v) : (s, v) ∈ l := by
  induction l with
  | nil => cases h
  | cons q r ih =>
    obtain ⟨a, b⟩ := q
    simp only [assoc] at h
    split at h
    · rename_i e; cases h; subst e; simp
    · exact List.mem_cons_of_mem _ (ih h)
theorem assoc_mem' {m : KM} {k : ByteArray} : (assoc m k).getD 0 = 0 ∨ ∃ p ∈ m, p.2 = (assoc m k).getD 0 := by
  cases h : assoc m k with
  | none => exact .inl rfl
  | some v => exact .inr ⟨(k, v), mem_of_assoc' h, rfl⟩
theorem ownsRow_shape {w : World} {base : Nat} {e : TypeId} {size : Nat} {v : Value} {n : Nat} {xs : List Value} (h : w.ownsRow base e size v n xs) : ∃ ao cap, v = .slice ao n cap := by
  rcases h.2 with ⟨h1, h2⟩ | ⟨g, c, cur, h1, _⟩
  · exact ⟨none, 0, by rw [h1, h2]⟩
  · exact ⟨_, _, h1⟩
def SavePost (w : World) (m : KM) (r : Ending) (w' : World) : Prop := r = .returned (.string ⟨(saveM m).toArray⟩) ∧ Ext (fun _ => False) w w'
set_option maxRecDepth 100000 in
set_option maxHeartbeats 2000000 in
theorem save_any (w : World) (sb mb : Nat) (m : KM) (hs : IsStore w sb mb m) (hk : ∀ p ∈ m, p.1.size ≤ 1000) (hv : ∀ p ∈ m, -9223372036854775808 ≤ p.2 ∧ p.2 ≤ 9223372036854775807) (hm : m.length ≤ 10000) :
    Calls Try.prog 14 #[.pointer (some ⟨sb, 0, none⟩)] w (SavePost w m) := by
  have ⟨hc, es, clock, hb, hl, _⟩ := hs
  have hln : ∀ (ty : TypeId) (W : World), blk W mb = some (.map es clock) → (Builtin.len_ #[76] ty #[.map (some mb)]).run Try.prog W = .ok (.int .i64 m.length) W := fun ty W h => run_len_map hl ty W h
  have hc0 := cell_of_cells hc 0
  simp at hc0
  have hlt := hs.lt
  have Hs := Lib.hid hs
  have Hk := Lib.hid hk
  have Hv := Lib.hid hv
  have Hl := Lib.hid hl
  have Hb := Lib.hid hb
  clear hs hk hv hc hl
  have hnil : IsBytes w (.slice none 0 0) [] := World.ownsRow_nil w 0 5 1
  go_enter Try.func14, Try.ntmps14
  go_wp2_with fail
  refine (appendNumber_any w _ [] m.length hnil (by omega) (by simp)).mono ?_
  rintro r w1 ⟨v1, rfl, hb1, hx1, ha1⟩
  rw [List.nil_append] at hb1
  have hx1' : Ext (fun _ => False) w w1 := hx1.mono (fun k _ e => by cases e)
  have ha1' : ∀ g, v1.ownBlock = some g → w.heap.size ≤ g := fun g hg => (ha1 g hg).elim (fun e => by cases e) id
  have Hb1 := Lib.hid hb1
  have Hx1 := Lib.hid hx1'
  have Ha1 := Lib.hid ha1'
  clear hnil hb1 hx1 ha1 hx1' ha1' hln hb hc0
  go_wp2_with fail
  refine (keys_any w1 sb mb m (Hs.out.ext Hx1.out id id) (fun p hp => by have := Hk.out p hp; omega) (by omega)).mono ?_
  rintro r w2 ⟨v2, rfl, hr2, hn2, hx2⟩
  obtain ⟨ao, cap, rfl⟩ := ownsRow_shape hr2
  have hB0 : IsBytes w2 v1 (encNum m.length) := Hb1.out.ext hx2 (fun _ _ h => h)
  have hX0 : Ext (fun _ => False) w w2 := Hx1.out.trans hx2
  have hd0 : ∀ g, (Value.slice ao m.length cap).ownBlock = some g → v1.ownBlock ≠ some g := fun g hg e => by
    have h1 := (World.ownsRow.lt hr2 g hg).1
    have h2 := (World.ownsRow.lt Hb1.out g e).2
    omega
  have hr2' := ownsRow_mono hr2 (Nat.zero_le _)
  have HB0 := Lib.hid hB0
  have HX0 := Lib.hid hX0
  have Hd0 := Lib.hid hd0
  have Hr2 := Lib.hid hr2'
  clear hr2 hn2 hx2 hB0 hX0 hd0 hr2' Hb1 Hx1
  go_wp2_with fail
  obtain ⟨wst, hwst⟩ : ∃ W : World, W = w2 := ⟨_, rfl⟩
  go_loopg [3, 16] m.length (fun g v3 v16 wr => ∃ j : Nat, j ≤ m.length ∧ g = m.length - j ∧ v16 = .int .i64 j ∧ IsBytes wr v3 (encNum m.length ++ ((keysM m).take j).flatMap (fun k => encPair k (valAt m k))) ∧ Ext (fun _ => False) w wr ∧ (∀ g, v3.ownBlock = some g → w.heap.size ≤ g) ∧
    wr.ownsRow 0 9 1 (.slice ao m.length cap) m.length ((keysM m).map encStr) ∧ (∀ g, (Value.slice ao m.length cap).ownBlock = some g → v3.ownBlock ≠ some g))
  case atStart => exact ⟨0, Nat.zero_le _, rfl, rfl, by simpa using HB0.out, HX0.out, Ha1.out, Hr2.out, Hd0.out⟩
  case round =>
    obtain ⟨j, hj, rfl, rfl, hB, hX, hA, hR, hD⟩ := hrel
    clear HB0 HX0 Ha1 Hr2 Hd0 hwst wst
    by_cases hjl : j < m.length
    · obtain ⟨g, rfl⟩ : ∃ g, ao = some ⟨g, 0, none⟩ := by
        rcases hR.2 with ⟨_, h⟩ | ⟨g, c, cur, h, _⟩
        · omega
        · cases h; exact ⟨g, rfl⟩
      have hkl : j < (keysM m).length := by rw [keysM_length]; exact hjl
      obtain ⟨key, hkey⟩ : ∃ k, (keysM m)[j] = k := ⟨_, rfl⟩
      have hcell : wr.cell? ⟨g, j, none⟩ = some (.string ⟨key.toArray⟩) := by
        have := World.ownsRow.cells hR (g := g) rfl j (encStr key) (by rw [List.getElem?_map, List.getElem?_eq_getElem hkl, hkey]; rfl)
        rwa [Addr.add_lit, Nat.zero_add] at this
      obtain ⟨p, hp, hpk⟩ := keysM_mem (hkey ▸ List.getElem_mem hkl)
      have hkb : key.length ≤ 1000 := by have := Hk.out p hp; rw [← hpk]; simpa using this
      obtain ⟨val, hval⟩ : ∃ v, valAt m key = v := ⟨_, rfl⟩
      have hvb : -9223372036854775808 ≤ val ∧ val ≤ 9223372036854775807 := by
        rw [← hval]; unfold valAt
        rcases assoc_mem' (m := m) (k := ⟨key.toArray⟩) with h | ⟨q, hq, h⟩
        · rw [h]; omega
        · rw [← h]; exact Hv.out q hq
      have hlen : (encNum m.length ++ ((keysM m).take j).flatMap (fun k => encPair k (valAt m k))).length ≤ 10180100 := by
        have h1 := encNum_length m.length (by omega)
        have h2 := flat_length (l := (keysM m).take j) (f := fun k => encPair k (valAt m k)) (B := 1018) (fun k hk => by
          obtain ⟨p, hp, hpk⟩ := keysM_mem (List.mem_of_mem_take hk)
          have hkb : k.length ≤ 1000 := by have := Hk.out p hp; rw [← hpk]; simpa using this
          have hvb : -9223372036854775808 ≤ valAt m k ∧ valAt m k ≤ 9223372036854775807 := by
            unfold valAt
            rcases assoc_mem' (m := m) (k := ⟨k.toArray⟩) with h | ⟨q, hq, h⟩
            · rw [h]; omega
            · rw [← h]; exact Hv.out q hq
          exact encPair_length k _ hkb hvb.1 hvb.2)
        have h3 : ((keysM m).take j).length ≤ 10000 := by rw [List.length_take]; omega
        rw [List.length_append]
        have : ((keysM m).take j).length * 1018 ≤ 10000 * 1018 := Nat.mul_le_mul_right _ h3
        omega
      have hnext : encNum m.length ++ ((keysM m).take (j + 1)).flatMap (fun k => encPair k (valAt m k)) = encNum m.length ++ ((keysM m).take j).flatMap (fun k => encPair k (valAt m k)) ++ (encNum (ByteArray.size ⟨key.toArray⟩) ++ (ByteArray.mk key.toArray).data.toList) ++ encInt val := by
        rw [List.take_add_one, List.getElem?_eq_getElem hkl, hkey]
        simp [encPair, hval, ByteArray.size]
      generalize encNum m.length ++ ((keysM m).take j).flatMap (fun k => encPair k (valAt m k)) = L at *
      have hsS := Hs.out.ext hX id id
      have hsb0 : wr.cell? ⟨sb, 0, none⟩ = some (.map (some mb)) := by simpa using cell_of_cells hsS.1 0
      have hlk : ∀ W : World, blk W mb = some (.map es clock) → (Instr.lookup 76 (.map (some mb)) (.string ⟨key.toArray⟩) false).run Try.prog W = .ok (.int .i64 val) W := fun W hW => by
        have := store_lookup1 (mb := mb) (clock := clock) Hl.out ⟨key.toArray⟩ W hW
        rw [show (assoc m ⟨key.toArray⟩).getD 0 = val from hval] at this
        exact this
      have hmb : blk wr mb = some (.map es clock) := (hX.blk hlt.2 id).trans Hb.out
      have j0 : (0 : Int) ≤ (j : Int) := by omega
      have j1 : (j : Int) < (m.length : Int) := by omega
      have hlen2 : (L ++ (encNum (ByteArray.size ⟨key.toArray⟩) ++ (ByteArray.mk key.toArray).data.toList)).length ≤ 1073741824 := by
        have := encNum_length (ByteArray.size ⟨key.toArray⟩) (by simp [ByteArray.size]; omega)
        simp only [List.length_append]
        omega
      have Hnext := Lib.hid hnext
      have HB := Lib.hid hB
      have HX := Lib.hid hX
      have HA := Lib.hid hA
      have HR := Lib.hid hR
      have HD := Lib.hid hD
      have Hlk := Lib.hid hlk
      have hlr : g < wr.heap.size := (World.ownsRow.lt hR g rfl).2
      have hltr : sb < wr.heap.size ∧ mb < wr.heap.size := hsS.lt
      clear hnext hB hX hA hR hD hlk hkey hpk hval hsS hp
      go_upto_region 5 with fail
      have hl0 := Hlk.out wr hmb
      have hmb' := Lib.hid hmb
      have hnsb : ¬ (u3.ownBlock = some sb) := fun e => by have := HA.out sb e; omega
      have hnmb : ¬ (u3.ownBlock = some mb) := fun e => by have := HA.out mb e; omega
      have Hns := Lib.hid hnsb
      have Hnm := Lib.hid hnmb
      clear hmb hnsb hnmb
      go_region_held3 (fun w' => w'.cell? ⟨sb, 0, none⟩ = some (.map (some mb)) ∧ (Instr.lookup 76 (.map (some mb)) (.string ⟨key.toArray⟩) false).run Try.prog w' = .ok (.int .i64 val) w')
        (first
          | exact ⟨by assumption, by assumption⟩
          | exact ⟨by simp [hsb0], Hlk.out _ hmb'.out⟩)
        (first
          | (go_at_call 40; refine (appendText_any _ _ L ⟨key.toArray⟩ (HB.out.ext (S := fun _ => False) ((Ext.refl _ _).drew) (fun _ _ h => h)) (by simp [ByteArray.size]; omega) (by omega)).mono ?_; rintro r w5 ⟨v5, rfl, hb5, hx5, ha5⟩; have hq1 : w5.cell? ⟨sb, 0, none⟩ = some (.map (some mb)) := (hx5.cell (p := ⟨sb, 0, none⟩) hltr.1 Hns.out).trans hsb0; have hq2 := Hlk.out w5 ((hx5.blk hltr.2 Hnm.out).trans hmb'.out); have hs5 : wr.heap.size ≤ w5.heap.size := hx5.size; have hns5 : ¬ (v5.ownBlock = some sb) := fun e => (ha5 sb e).elim Hns.out (fun h => absurd hltr.1 (Nat.not_lt.2 h)); have hnm5 : ¬ (v5.ownBlock = some mb) := fun e => (ha5 mb e).elim Hnm.out (fun h => absurd hltr.2 (Nat.not_lt.2 h)); have Hns5 := Lib.hid hns5; have Hnm5 := Lib.hid hnm5; have Hx5 := Lib.hid hx5; have Ha5 := Lib.hid ha5; have Hb5 := Lib.hid hb5; clear hns5 hnm5 hx5 ha5 hb5)
          | (go_at_call 39; refine (appendInt_any _ _ _ _ Hb5.out hvb.1 hvb.2 hlen2).mono ?_; rintro r w6 ⟨v6, rfl, hb6, hx6, ha6⟩; have hq3 : w6.cell? ⟨sb, 0, none⟩ = some (.map (some mb)) := (hx6.cell (p := ⟨sb, 0, none⟩) (Nat.lt_of_lt_of_le hltr.1 hs5) Hns5.out).trans hq1; have hq4 := Hlk.out w6 ((hx6.blk (Nat.lt_of_lt_of_le hltr.2 hs5) Hnm5.out).trans ((Hx5.out.blk hltr.2 Hnm.out).trans hmb'.out)); have Hx6 := Lib.hid hx6; have Ha6 := Lib.hid ha6; have Hb6 := Lib.hid hb6; clear hx6 ha6 hb6))
      all_goals
        clear hq1 hq2 hq3 hq4 hl0
        have hBn : IsBytes w6 v6 (encNum m.length ++ ((keysM m).take (j + 1)).flatMap (fun k => encPair k (valAt m k))) := by rw [Hnext.out]; exact Hb6.out
        have hA5 : ∀ gg, v5.ownBlock = some gg → u3.ownBlock = some gg ∨ wr.heap.size ≤ gg := Ha5.out
        have hwr := HX.out.size
        have hx5w : Ext (fun b => u3.ownBlock = some b) wr w5 := ((Ext.refl _ wr).drew).trans Hx5.out
        have hX5 : Ext (fun _ => False) w w5 := HX.out.trans' (S := fun _ => False) (T := fun b => u3.ownBlock = some b) hx5w (fun k hk e => by have := HA.out k e; omega)
        have hX6 : Ext (fun _ => False) w w6 := hX5.trans' (S := fun _ => False) (T := fun b => v5.ownBlock = some b) Hx6.out (fun k hk e => (hA5 k e).elim (fun h => by have := HA.out k h; omega) (fun h => by omega))
        have hR6 : w6.ownsRow 0 9 1 (.slice (some ⟨g, 0, none⟩) m.length cap) m.length ((keysM m).map encStr) := by
          have hR5 := ownsRow_ext HR.out hx5w HD.out
          exact ownsRow_ext hR5 Hx6.out (fun gg hg e => (hA5 gg e).elim (HD.out gg hg) (fun h => by
            have := (World.ownsRow.lt HR.out gg hg).2
            omega))
        have hA6 : ∀ gg, v6.ownBlock = some gg → w.heap.size ≤ gg := fun gg hg => (Ha6.out gg hg).elim (fun e => (hA5 gg e).elim (HA.out gg) (fun h => by omega)) (fun h => by omega)
        have hD6 : ∀ gg, (Value.slice (some ⟨g, 0, none⟩) m.length cap).ownBlock = some gg → v6.ownBlock ≠ some gg := fun gg hg e => by
          have h1 := (World.ownsRow.lt HR.out gg hg).2
          exact (Ha6.out gg e).elim (fun e => (hA5 gg e).elim (HD.out gg hg) (fun h => by omega)) (fun h => by omega)
        have H1 := Lib.hid hBn
        have H2 := Lib.hid hX6
        have H3 := Lib.hid hR6
        have H4 := Lib.hid hA6
        have H5 := Lib.hid hD6
        clear hBn hX5 hX6 hR6 hA6 hD6 hA5 hs5 hx5w hwr
        go_wp2
        go_roundg (m.length - (j + 1))
        case measure => omega
        case rel => exact ⟨j + 1, by omega, rfl, by go_num, H1.out, H2.out, H4.out, H3.out, H5.out⟩
    · have hje : j = m.length := by omega
      have hB' : IsBytes wr u3 (saveM m) := by
        rw [List.take_of_length_le (by rw [keysM_length]; omega)] at hB
        exact hB
      have hX' := hX
      obtain ⟨ab, cb, rfl⟩ := hB'.shape
      have HB := Lib.hid hB'
      have HX := Lib.hid hX'
      clear hB hB' hX hX' hA hR hD hje
      go_wp2_with fail
      rw [run_bytes_string HB.out]
      go_wp2
      go_ret
      exact ⟨rfl, HX.out⟩
end Go.Proofs.Ythipbmppmgkklaa
