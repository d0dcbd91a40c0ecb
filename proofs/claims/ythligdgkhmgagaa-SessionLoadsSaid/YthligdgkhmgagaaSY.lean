/-
  Package session: Save answers as the model says; the reference's Ints. Conditions: IsTable, IsRef; lengths bounded.
-/
import Derived.Test.YthligdgkhmgagaaSW
import Derived.Test.YthligdgkhmgagaaSX
namespace Go.Proofs.Ythligdgkhmgagaa
open Go.RowKit Go.MapKept
open Go.ChangeMaps (setBlock)

set_option maxRecDepth 100000 in
set_option maxHeartbeats 2000000 in
theorem save_any (w : World) (tb cb sb : Nat) (T : Tbl) (hs : IsTable w tb cb sb T) (hT : Small T) : Calls Try.prog 22 #[.pointer (some ⟨tb, 0, none⟩)] w (SavePost w T) := by
  obtain ⟨hg0, hg1⟩ := hT.ok.gen
  have hrC := fun (W : World) (hx : Ext (fun _ => False) w W) => rows_clients W (.slice none 0 0) [] cb T.cl (World.ownsRow_nil W 0 _ 1) (by simp) (hs.keep hx).2.1 hT.ok.good.nodup hT.cl (fun p hp => by
    have h1 := hT.ok.good.key p hp
    have h2 := hT.body p hp
    exact ⟨h1.1, h1.2.1, h1.2.2.1, h1.2.2.2, h2⟩) (by simp [Value.ownBlock])
  have hlC := flat_take_le (encC_length hT) (N := 1000) (by unfold sC; rw [ksort_length]; exact hT.cl) (sC T).length
  rw [List.take_of_length_le (Nat.le_refl _)] at hlC
  have hl1 := encNum_length T.cl.length (by have := hT.cl; omega)
  have hl2 := encNum_length T.gen.toNat (by omega)
  have hrS := fun (W : World) (v : Value) (l : List UInt8) (hb : IsBytes W v l) (hl : l.length ≤ 2000000) (hx : Ext (fun _ => False) w W) (hv : v.ownBlock ≠ some sb) => rows_steps W v l sb T.st hb hl (hs.keep hx).2.2.1 hT.ok.snod hT.st (fun p hp => by
    have h1 := hT.ok.skey p hp
    exact ⟨h1.1, h1.2.1, h1.2.2.1, h1.2.2.2⟩) hv
  have hsv : saveM T = [] ++ encNum T.cl.length ++ (ksort leI T.cl).flatMap encC ++ encNum T.gen.toNat ++ encNum T.st.length ++ (ksort leI T.st).flatMap encS := by simp [saveM, sC, sS]
  have hlt := hs.lt
  unfold SavePost
  rw [hsv]
  unfold sC at hlC
  obtain ⟨G, hG⟩ := Int.eq_ofNat_of_zero_le hg0
  have hcells := box_cells (hs.1)
  rw [hG] at hcells hg1 hl2 ⊢
  rw [Int.toNat_natCast] at hl2 ⊢
  obtain ⟨c0, c1, c2⟩ := hcells
  obtain ⟨L1, hL1⟩ : ∃ L1, [] ++ encNum T.cl.length ++ (ksort leI T.cl).flatMap encC = L1 := ⟨_, rfl⟩
  have hL1l : L1.length ≤ 1027010 := by rw [← hL1]; simp only [List.length_append, List.length_nil]; omega
  rw [hL1] at hrC ⊢
  have HrC := Lib.hid hrC
  have HrS := Lib.hid hrS
  clear hrC hrS hsv hs hT hlC hl1 hL1 hG hg0
  go_enter Try.func22, Try.ntmps22
  go_wp2_with fail
  refine (HrC.out _ (Ext.refl _ w)).mono ?_
  rintro r w1 ⟨v1, rfl, hb1, hx1, ha1⟩
  have hX1 : Ext (fun _ => False) w w1 := hx1.mono (fun k _ e => by cases e)
  have hA1 : ∀ g, v1.ownBlock = some g → w.heap.size ≤ g := fun g e => (ha1 g e).elim (fun e => by cases e) id
  have d1 := (hX1.cell (p := ⟨tb, 1, none⟩) hlt.1 id).trans c1
  have d2 := (hX1.cell (p := ⟨tb, 2, none⟩) hlt.1 id).trans c2
  have hlt1 : tb < w1.heap.size := Nat.lt_of_lt_of_le hlt.1 hX1.size
  have Hb1 := Lib.hid hb1
  have HX1 := Lib.hid hX1
  have HA1 := Lib.hid hA1
  obtain ⟨a1, k1, rfl⟩ := hb1.shape
  clear hb1 hx1 ha1 hX1 hA1 c0 c1 c2 HrC
  go_wp2_with fail
  refine (put1_any _ _ L1 _ _ G (Hb1.out.ext (S := fun _ => False) ((Ext.refl _ w1).alloc _) (fun _ _ h => h)) (by omega) (by simp) (by omega)).mono ?_
  rintro r w2 ⟨v2, rfl, hb2, hx2, ha2⟩
  have hx2' : Ext (fun b => (Value.slice a1 L1.length k1).ownBlock = some b) w1 w2 := ((Ext.refl _ w1).alloc _).trans hx2
  have hX2 : Ext (fun _ => False) w w2 := HX1.out.own hx2' (fun k e => HA1.out k e)
  have hA2 : ∀ g, v2.ownBlock = some g → w.heap.size ≤ g := fun g e => (ha2 g e).elim (HA1.out g) (fun h => by have := HX1.out.size; simp at h; omega)
  have e2 := (hX2.cell (p := ⟨tb, 2, none⟩) hlt.1 id).trans (show w.cell? ⟨tb, 2, none⟩ = some (.map (some sb)) from ((HX1.out.cell (p := ⟨tb, 2, none⟩) hlt.1 id).symm.trans d2))
  have hlt2 : tb < w2.heap.size := Nat.lt_of_lt_of_le hlt.1 hX2.size
  have Hb2 := Lib.hid hb2
  have HX2 := Lib.hid hX2
  have HA2 := Lib.hid hA2
  clear hb2 hx2 ha2 hx2' hX2 hA2 d1 d2 Hb1 HX1 HA1
  go_wp2_with fail
  refine (HrS.out w2 v2 _ Hb2.out (by rw [List.length_append]; omega) HX2.out (fun e => by have := HA2.out _ e; omega)).mono ?_
  rintro r w3 ⟨v3, rfl, hb3, hx3, ha3⟩
  have HX3 := Lib.hid (HX2.out.own hx3 (fun k e => HA2.out k e))
  obtain ⟨LT, hLT⟩ : ∃ LT, L1 ++ encNum G ++ encNum T.st.length ++ (ksort leI T.st).flatMap encS = LT := ⟨_, rfl⟩
  rw [hLT] at hb3
  obtain ⟨ab, cb', rfl⟩ := hb3.shape
  have HB := Lib.hid hb3
  have HLT := Lib.hid hLT
  clear hb3 hx3 ha3 hLT
  go_wp2_with fail
  rw [run_bytes_string HB.out]
  go_wp2
  go_ret
  exact ⟨by rw [HLT.out]; rfl, HX3.out⟩
end Go.Proofs.Ythligdgkhmgagaa
