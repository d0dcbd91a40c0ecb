/-
  awake returns true and turns nothing that was there. Conditions: none.
-/
import Derived.Test.YtgmopnbejjfbjaaX11
namespace Go.Proofs.Ytgmopnbejjfbjaa
open Go.RowKit Go.MapKept
open Go.ChangeMaps (setBlock)

theorem ok_of {L : List (ByteArray × Slot)} {M : List (ByteArray × List Ep)} {n : ByteArray} {l : List Ep} (h : regM L = M) (hl : (assoc M n).getD [] = l) : slotL L n = l := by rw [slotL_eq, h, hl]

/-- two resolvers, registries: the blocks of one are not those of the other -/
theorem IsRes.reg {w w' : World} {rb mb srb smb : Nat} {L : List (ByteArray × Slot)} {l} (h : IsRes w srb smb l) (hx : Ext (fpR rb mb L) w w') (hd : ∀ b, fpR rb mb L b → b ≠ srb ∧ b ≠ smb) : IsRes w' srb smb l :=
  h.ext hx (fun e => (hd _ e).1 rfl) (fun e => (hd _ e).2 rfl)
theorem apart_step {rb mb srb smb B : Nat} {L L' : List (ByteArray × Slot)} (hd : ∀ b, fpR rb mb L b → b ≠ srb ∧ b ≠ smb) (h : ∀ b, fpR rb mb L' b → fpR rb mb L b ∨ B ≤ b) (h1 : srb < B) (h2 : smb < B) :
    ∀ b, fpR rb mb L' b → b ≠ srb ∧ b ≠ smb := fun b hb => by
  rcases h b hb with h | h
  · exact hd b h
  · omega

def AwakePost (w : World) (r : Ending) (w' : World) : Prop := r = .returned (.bool true) ∧ Ext (fun _ => False) w w'

set_option maxRecDepth 100000 in
set_option maxHeartbeats 2000000 in
theorem awake_any (w : World) : Calls Try.prog 9 #[] w (AwakePost w) := by
  go_enter Try.func9, Try.ntmps9
  go_wp2_with fail
  refine (new_any _).mono ?_
  rintro r wA ⟨rb, mb, rfl, hG0, hxA, hb1, hb2⟩
  have HG0 := Lib.hid hG0
  have HxA := Lib.hid hxA
  have hlA := hG0.lt (b := rb) (.inl rfl)
  have hlA2 := hG0.lt (b := mb) (.inr (.inl rfl))
  clear hG0 hxA
  go_wp2_with fail
  refine (newres_any _).mono ?_
  rintro r wB ⟨srb, smb, rfl, hS0, hxB, hb3, hb4⟩
  have HS0 := Lib.hid hS0
  have HxB := Lib.hid hxB
  clear hS0 hxB
  go_wp2_with fail
  refine (publish_any rb mb wB [] (HG0.out.ext HxB.out (fun _ _ h => h)) db 4 32 0 (by decide)).mono ?_
  rintro r wC ⟨hr, hxC, L1, hG1, hM1, hf1⟩
  rw [show regM [] = [] from rfl, s1] at hr hM1
  obtain rfl : r = .returned (.tuple #[.int .i64 1, .int .i64 0]) := hr
  have hd0 : ∀ b, fpR rb mb [] b → b ≠ srb ∧ b ≠ smb := fun b hb => by
    have := HG0.out.lt hb
    omega
  have hlB := HS0.out.lt
  have hd1 := apart_step hd0 hf1 hlB.1 hlB.2
  have hS1 := HS0.out.reg hxC hd0
  have HG1 := Lib.hid hG1
  have HM1 := Lib.hid hM1
  have HS1 := Lib.hid hS1
  have Hd1 := Lib.hid hd1
  have Hf1 := Lib.hid hf1
  have HxC := Lib.hid hxC
  clear hG1 hM1 hS1 hd1 hf1 hxC hd0
  go_wp2_with fail
  refine (lookup_any rb mb wC L1 HG1.out db 10 (by rw [ok_of HM1.out rfl]; decide)).mono ?_
  rintro r wD ⟨hr, hxD, L2, hG2, hM2, hf2⟩
  rw [HM1.out, s2] at hr hM2
  obtain rfl : r = .returned (.tuple #[.agg #[.string { data := #[100, 98] }, .int .i64 1, .int .i64 4, .int .i64 32], .int .i64 0]) := hr
  have hlC := HS1.out.lt
  have hd2 := apart_step Hd1.out hf2 hlC.1 hlC.2
  have hS2 := HS1.out.reg hxD Hd1.out
  have HG2 := Lib.hid hG2
  have HM2 := Lib.hid hM2
  have HS2 := Lib.hid hS2
  have Hd2 := Lib.hid hd2
  have Hf2 := Lib.hid hf2
  have HxD := Lib.hid hxD
  clear hG2 hM2 hS2 hd2 hf2 hxD hlC
  go_wp2_with fail
  -- MayCut("db", 1, 99)
  have hDl := HS2.out.lt
  have hDg : ∀ b, fpR rb mb L2 b → b < wD.heap.size := fun b hb => HG2.out.lt hb
  have HDg := Lib.hid hDg
  clear hDg
  refine (maycut_any rb mb _ L2 (HG2.out.ext (S := fun _ => False) (by repeat (first | exact Ext.refl _ _ | apply Ext.drewN | apply Ext.drew | apply Ext.alloc)) (fun _ _ h => h)) db 1 99 (by rw [ok_of (l := [⟨4, 32, 11⟩]) HM2.out rfl]; intro x hx; simp at hx; subst hx; simp [okEp]) (by rw [ok_of (l := [⟨4, 32, 11⟩]) HM2.out rfl]; decide) (by omega)).mono ?_
  rintro r wE ⟨hr, hxE⟩
  rw [HM2.out, s3] at hr
  subst hr
  have hE0 : wE.cell? ⟨wD.heap.size, 0, none⟩ = some (.string { data := #[100, 98] }) := (hxE.cell (p := ⟨wD.heap.size, 0, none⟩) (by simp) id).trans (by simp)
  have hE1 : wE.cell? ⟨wD.heap.size, 1, none⟩ = some (.int .i64 1) := (hxE.cell (p := ⟨wD.heap.size, 1, none⟩) (by simp) id).trans (by simp)
  have hE2 : wE.cell? ⟨wD.heap.size, 2, none⟩ = some (.int .i64 4) := (hxE.cell (p := ⟨wD.heap.size, 2, none⟩) (by simp) id).trans (by simp)
  have hE3 : wE.cell? ⟨wD.heap.size, 3, none⟩ = some (.int .i64 32) := (hxE.cell (p := ⟨wD.heap.size, 3, none⟩) (by simp) id).trans (by simp)
  have hsE := hxE.size
  simp only [World.size_alloc] at hsE
  have hxE' : Ext (fun _ => False) wD wE := ((Ext.refl _ wD).alloc _).trans' (T := fun _ => False) hxE (fun _ _ h => h)
  have HxE := Lib.hid hxE'
  clear hxE hxE'
  go_wp2_with fail
  -- Publish("db", 7, 32, 12)
  refine (publish_any rb mb wE L2 (HG2.out.ext HxE.out (fun _ _ h => h)) db 7 32 12 (by decide)).mono ?_
  rintro r wF ⟨hr, hxF, L3, hG3, hM3, hf3⟩
  rw [HM2.out, s4] at hr hM3
  obtain rfl : r = .returned (.tuple #[.int .i64 2, .int .i64 0]) := hr
  have hd3 := apart_step Hd2.out hf3 (by omega) (by omega)
  have hS3 := (HS2.out.ext HxE.out id id).reg hxF Hd2.out
  have hnD : ¬ fpR rb mb L2 wD.heap.size := fun h => Nat.lt_irrefl _ (HDg.out _ h)
  have hF0 : wF.cell? ⟨wD.heap.size, 0, none⟩ = some (.string { data := #[100, 98] }) := (hxF.cell (p := ⟨wD.heap.size, 0, none⟩) hsE hnD).trans hE0
  have hF1 : wF.cell? ⟨wD.heap.size, 1, none⟩ = some (.int .i64 1) := (hxF.cell (p := ⟨wD.heap.size, 1, none⟩) hsE hnD).trans hE1
  have hF2 : wF.cell? ⟨wD.heap.size, 2, none⟩ = some (.int .i64 4) := (hxF.cell (p := ⟨wD.heap.size, 2, none⟩) hsE hnD).trans hE2
  have hF3 : wF.cell? ⟨wD.heap.size, 3, none⟩ = some (.int .i64 32) := (hxF.cell (p := ⟨wD.heap.size, 3, none⟩) hsE hnD).trans hE3
  have HG3 := Lib.hid hG3
  have HM3 := Lib.hid hM3
  have HS3 := Lib.hid hS3
  have Hd3 := Lib.hid hd3
  have Hf3 := Lib.hid hf3
  have HxF := Lib.hid hxF
  clear hG3 hM3 hS3 hd3 hf3 hxF hnD hE0 hE1 hE2 hE3
  go_wp2_with fail
  -- Keep(x, 8)
  refine (keep_any srb smb wF [] HS3.out x0).mono ?_
  rintro r wG ⟨rfl, hS4, hxG⟩
  rw [s5] at hS4
  have hG4 := HG3.out.ext hxG (fun b hb e => (Hd3.out b hb).2 e)
  have HS4 := Lib.hid hS4
  have HG4 := Lib.hid hG4
  have HxG := Lib.hid hxG
  clear hS4 hG4 hxG
  go_wp2_with fail
  -- Resolve("db", 39)
  refine (resolve_any srb smb wG _ HS4.out db 39).mono ?_
  rintro r wH ⟨hr, hxH⟩
  rw [s6] at hr
  obtain rfl : r = .returned (.tuple #[.agg #[.string { data := #[100, 98] }, .int .i64 1, .int .i64 4, .int .i64 32], .bool true]) := hr
  have HxH := Lib.hid hxH
  clear hxH
  go_wp2_with fail
  -- Resolve("db", 40)
  refine (resolve_any srb smb _ _ ((HS4.out.ext HxH.out id id).ext (S := fun _ => False) (by repeat (first | exact Ext.refl _ _ | apply Ext.drewN | apply Ext.drew | apply Ext.alloc)) id id) db 40).mono ?_
  rintro r wI ⟨hr, hxI⟩
  rw [s7] at hr
  obtain rfl : r = .returned (.tuple #[.agg #[.string { data := #[] }, .int .i64 0, .int .i64 0, .int .i64 0], .bool false]) := hr
  have hxI' : Ext (fun _ => False) wH wI := (show Ext (fun _ => False) wH _ from (by repeat (first | exact Ext.refl _ _ | apply Ext.drewN | apply Ext.drew | apply Ext.alloc))).trans hxI
  have HxI := Lib.hid hxI'
  clear hxI hxI'
  go_wp2_with fail
  refine (maycut_any rb mb _ L3 (((HG4.out.ext HxH.out (fun _ _ h => h)).ext HxI.out (fun _ _ h => h)).ext (S := fun _ => False) (by repeat (first | exact Ext.refl _ _ | apply Ext.drewN | apply Ext.drew | apply Ext.alloc)) (fun _ _ h => h)) db 1 45 (by rw [ok_of (l := [⟨4, 32, 11⟩, ⟨7, 32, 0⟩]) HM3.out rfl]; intro x hx; simp at hx; rcases hx with rfl | rfl <;> simp [okEp]) (by rw [ok_of (l := [⟨4, 32, 11⟩, ⟨7, 32, 0⟩]) HM3.out rfl]; decide) (by omega)).mono ?_
  rintro r wJ ⟨hr, hxJ⟩
  rw [HM3.out, s8] at hr
  subst hr
  have hxJ' : Ext (fun _ => False) wI wJ := (show Ext (fun _ => False) wI _ from (by repeat (first | exact Ext.refl _ _ | apply Ext.drewN | apply Ext.drew | apply Ext.alloc))).trans hxJ
  have HxJ := Lib.hid hxJ'
  clear hxJ hxJ'
  go_wp2_with fail
  refine (maycut_any rb mb _ L3 ((((HG4.out.ext HxH.out (fun _ _ h => h)).ext HxI.out (fun _ _ h => h)).ext HxJ.out (fun _ _ h => h)).ext (S := fun _ => False) (by repeat (first | exact Ext.refl _ _ | apply Ext.drewN | apply Ext.drew | apply Ext.alloc)) (fun _ _ h => h)) db 1 46 (by rw [ok_of (l := [⟨4, 32, 11⟩, ⟨7, 32, 0⟩]) HM3.out rfl]; intro x hx; simp at hx; rcases hx with rfl | rfl <;> simp [okEp]) (by rw [ok_of (l := [⟨4, 32, 11⟩, ⟨7, 32, 0⟩]) HM3.out rfl]; decide) (by omega)).mono ?_
  rintro r wK ⟨hr, hxK⟩
  rw [HM3.out, s9] at hr
  subst hr
  have hxK' : Ext (fun _ => False) wJ wK := (show Ext (fun _ => False) wJ _ from (by repeat (first | exact Ext.refl _ _ | apply Ext.drewN | apply Ext.drew | apply Ext.alloc))).trans hxK
  have HxK := Lib.hid hxK'
  clear hxK hxK'
  go_wp2
  go_ret
  have z0 : ∀ b, fpR rb mb [] b → w.heap.size ≤ b := fun b hb => by
    rcases hb with rfl | rfl | ⟨p, hp, _⟩
    · exact hb1
    · exact hb2
    · cases hp
  have sA := HxA.out.size
  have sB := HxB.out.size
  have sC := HxC.out.size
  have sD := HxD.out.size
  have sE := HxE.out.size
  have z1 : ∀ b, fpR rb mb L1 b → w.heap.size ≤ b := fun b hb => by
    rcases Hf1.out b hb with h | h
    · exact z0 b h
    · omega
  have z2 : ∀ b, fpR rb mb L2 b → w.heap.size ≤ b := fun b hb => by
    rcases Hf2.out b hb with h | h
    · exact z1 b h
    · omega
  have x1 := HxA.out.trans HxB.out
  have x2 := x1.trans' HxC.out (fun k hk h => absurd (z0 k h) (by omega))
  have x3 := x2.trans' HxD.out (fun k hk h => absurd (z1 k h) (by omega))
  have x4 := x3.trans HxE.out
  have x5 := x4.trans' HxF.out (fun k hk h => absurd (z2 k h) (by omega))
  have x6 := x5.trans' HxG.out (fun k hk h => absurd h (by omega))
  exact ⟨rfl, (((x6.trans HxH.out).trans HxI.out).trans HxJ.out).trans HxK.out⟩
end Go.Proofs.Ytgmopnbejjfbjaa
