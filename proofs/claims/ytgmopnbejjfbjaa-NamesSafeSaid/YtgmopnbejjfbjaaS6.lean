/-
  NamesSafe: the memory at the loop's start. Conditions: none beyond the lemma's own.
-/
import Derived.Test.YtgmopnbejjfbjaaS5
namespace Go.Proofs.Ytgmopnbejjfbjaa
open Go.RowKit Go.MapKept
open Go.ChangeMaps (setBlock)

def s00 : SS := ⟨[], fun _ => 0, fun _ => 0, fun _ => [], [], []⟩
theorem Inv.init : Inv 0 0 s00 :=
  ⟨by omega, by omega, fun _ _ => rfl, fun _ _ => ⟨by simp [s00], by simp [s00]⟩, fun x h => by simp [s00] at h, by simp [s00], fun _ _ y h => by simp [s00, assoc] at h, fun y h => by simp [s00] at h, by simp [s00], fun p h => by simp [s00, cutF, iassoc] at h⟩
def f4 (a b c d : Nat) (k : Nat) : Nat := if k = 0 then a else if k = 1 then b else if k = 2 then c else d
def mkB (rb mb c0 c1 c2 c3 r0 m0 r1 m1 r2 m2 cs rs cm : Nat) : Bk := ⟨rb, mb, f4 c0 c1 c2 c3, f4 r0 r1 r2 0, f4 m0 m1 m2 0, cs, rs, cm⟩
section
variable {w0 w : World} {rb mb c0 c1 c2 c3 r0 m0 r1 m1 r2 m2 cs rs cm : Nat} {L : List (ByteArray × Slot)} {tag : Nat → Nat} {pv : Value} {s : SS}
theorem Rep.cells_cs (h : Rep w0 w (mkB rb mb c0 c1 c2 c3 r0 m0 r1 m1 r2 m2 cs rs cm) L tag pv s) (k : Nat) (hk : k < 4) : w.cell? ⟨cs, k, none⟩ = some (.pointer (some ⟨f4 c0 c1 c2 c3 k, 0, none⟩)) := by
  have := cell_of_cells h.csb k
  match k, hk with
  | 0, _ => exact this
  | 1, _ => exact this
  | 2, _ => exact this
  | 3, _ => exact this
theorem Rep.cells_rs (h : Rep w0 w (mkB rb mb c0 c1 c2 c3 r0 m0 r1 m1 r2 m2 cs rs cm) L tag pv s) (k : Nat) (hk : k < 3) : w.cell? ⟨rs, k, none⟩ = some (.pointer (some ⟨f4 r0 r1 r2 0 k, 0, none⟩)) := by
  have := cell_of_cells h.rsb k
  match k, hk with
  | 0, _ => exact this
  | 1, _ => exact this
  | 2, _ => exact this
theorem Rep.clk0 (h : Rep w0 w (mkB rb mb c0 c1 c2 c3 r0 m0 r1 m1 r2 m2 cs rs cm) L tag pv s) : blk w c0 = some (.cells #[.int .i64 (s.u 0), .int .i64 (s.tt 0)] 98 (0, 0)) := h.clk 0 (by omega)
end
def tag0 (n0 n1 n2 n3 n4 n5 n6 n7 n8 n9 n10 n11 : Nat) (b : Nat) : Nat :=
  if b < n0 then 99 else if b < n1 then 0 else if b < n2 then 1 else if b < n3 then 2 else if b < n4 then 3 else if b < n5 then 4 else if b < n6 then 8 else if b < n7 then 5 else if b < n8 then 6 else if b < n9 then 7 else if b < n10 then 9 else if b < n11 then 11 else 10
theorem tag0_eq {n0 n1 n2 n3 n4 n5 n6 n7 n8 n9 n10 n11 b : Nat} (h : n0 ≤ n1 ∧ n1 ≤ n2 ∧ n2 ≤ n3 ∧ n3 ≤ n4 ∧ n4 ≤ n5 ∧ n5 ≤ n6 ∧ n6 ≤ n7 ∧ n7 ≤ n8 ∧ n8 ≤ n9 ∧ n9 ≤ n10 ∧ n10 ≤ n11) :
    (n0 ≤ b → b < n1 → tag0 n0 n1 n2 n3 n4 n5 n6 n7 n8 n9 n10 n11 b = 0) ∧ (n1 ≤ b → b < n2 → tag0 n0 n1 n2 n3 n4 n5 n6 n7 n8 n9 n10 n11 b = 1) ∧ (n2 ≤ b → b < n3 → tag0 n0 n1 n2 n3 n4 n5 n6 n7 n8 n9 n10 n11 b = 2) ∧
    (n3 ≤ b → b < n4 → tag0 n0 n1 n2 n3 n4 n5 n6 n7 n8 n9 n10 n11 b = 3) ∧ (n4 ≤ b → b < n5 → tag0 n0 n1 n2 n3 n4 n5 n6 n7 n8 n9 n10 n11 b = 4) ∧ (n5 ≤ b → b < n6 → tag0 n0 n1 n2 n3 n4 n5 n6 n7 n8 n9 n10 n11 b = 8) ∧
    (n6 ≤ b → b < n7 → tag0 n0 n1 n2 n3 n4 n5 n6 n7 n8 n9 n10 n11 b = 5) ∧ (n7 ≤ b → b < n8 → tag0 n0 n1 n2 n3 n4 n5 n6 n7 n8 n9 n10 n11 b = 6) ∧ (n8 ≤ b → b < n9 → tag0 n0 n1 n2 n3 n4 n5 n6 n7 n8 n9 n10 n11 b = 7) ∧
    (n9 ≤ b → b < n10 → tag0 n0 n1 n2 n3 n4 n5 n6 n7 n8 n9 n10 n11 b = 9) ∧ (n10 ≤ b → b < n11 → tag0 n0 n1 n2 n3 n4 n5 n6 n7 n8 n9 n10 n11 b = 11) ∧ (n11 ≤ b → tag0 n0 n1 n2 n3 n4 n5 n6 n7 n8 n9 n10 n11 b = 10) := by
  obtain ⟨h1, h2, h3, h4, h5, h6, h7, h8, h9, h10, h11⟩ := h
  refine ⟨?_, ?_, ?_, ?_, ?_, ?_, ?_, ?_, ?_, ?_, ?_, ?_⟩
  · intro a1 a2; rw [tag0, if_neg (by omega), if_pos (by omega)]
  · intro a1 a2; rw [tag0, if_neg (by omega), if_neg (by omega), if_pos (by omega)]
  · intro a1 a2; rw [tag0, if_neg (by omega), if_neg (by omega), if_neg (by omega), if_pos (by omega)]
  · intro a1 a2; rw [tag0, if_neg (by omega), if_neg (by omega), if_neg (by omega), if_neg (by omega), if_pos (by omega)]
  · intro a1 a2; rw [tag0, if_neg (by omega), if_neg (by omega), if_neg (by omega), if_neg (by omega), if_neg (by omega), if_pos (by omega)]
  · intro a1 a2; rw [tag0, if_neg (by omega), if_neg (by omega), if_neg (by omega), if_neg (by omega), if_neg (by omega), if_neg (by omega), if_pos (by omega)]
  · intro a1 a2; rw [tag0, if_neg (by omega), if_neg (by omega), if_neg (by omega), if_neg (by omega), if_neg (by omega), if_neg (by omega), if_neg (by omega), if_pos (by omega)]
  · intro a1 a2; rw [tag0, if_neg (by omega), if_neg (by omega), if_neg (by omega), if_neg (by omega), if_neg (by omega), if_neg (by omega), if_neg (by omega), if_neg (by omega), if_pos (by omega)]
  · intro a1 a2; rw [tag0, if_neg (by omega), if_neg (by omega), if_neg (by omega), if_neg (by omega), if_neg (by omega), if_neg (by omega), if_neg (by omega), if_neg (by omega), if_neg (by omega), if_pos (by omega)]
  · intro a1 a2; rw [tag0, if_neg (by omega), if_neg (by omega), if_neg (by omega), if_neg (by omega), if_neg (by omega), if_neg (by omega), if_neg (by omega), if_neg (by omega), if_neg (by omega), if_neg (by omega), if_pos (by omega)]
  · intro a1 a2; rw [tag0, if_neg (by omega), if_neg (by omega), if_neg (by omega), if_neg (by omega), if_neg (by omega), if_neg (by omega), if_neg (by omega), if_neg (by omega), if_neg (by omega), if_neg (by omega), if_neg (by omega), if_pos (by omega)]
  · intro a1; rw [tag0, if_neg (by omega), if_neg (by omega), if_neg (by omega), if_neg (by omega), if_neg (by omega), if_neg (by omega), if_neg (by omega), if_neg (by omega), if_neg (by omega), if_neg (by omega), if_neg (by omega), if_neg (by omega)]
set_option maxHeartbeats 2000000 in
theorem Rep.init {w0 wA wB wC wD wE wF wG wH wI : World} {rb mb c0 c1 c2 c3 r0 m0 r1 m1 r2 m2 : Nat} (hxA : Ext (fun _ => False) w0 wA)
    (hR0 : IsReg wB rb mb []) (hxB : Ext (fun _ => False) wA wB) (hrb : wA.heap.size ≤ rb) (hmb : wA.heap.size ≤ mb)
    (hc0 : blk wC c0 = some (.cells #[.int .i64 0, .int .i64 0] 98)) (hxC : Ext (fun _ => False) wB wC) (hlc0 : wB.heap.size ≤ c0)
    (hc1 : blk wD c1 = some (.cells #[.int .i64 0, .int .i64 0] 98)) (hxD : Ext (fun _ => False) wC wD) (hlc1 : wC.heap.size ≤ c1)
    (hc2 : blk wE c2 = some (.cells #[.int .i64 0, .int .i64 0] 98)) (hxE : Ext (fun _ => False) wD wE) (hlc2 : wD.heap.size ≤ c2)
    (hc3 : blk wF c3 = some (.cells #[.int .i64 0, .int .i64 0] 98)) (hxF : Ext (fun _ => False) wE wF) (hlc3 : wE.heap.size ≤ c3)
    (hr0 : IsRes wG r0 m0 (kvs [])) (hxG : Ext (fun _ => False) (wF.alloc (.cells #[ptr c0, ptr c1, ptr c2, ptr c3] 40)) wG) (hlr0 : wF.heap.size + 1 ≤ r0) (hlm0 : wF.heap.size + 1 ≤ m0)
    (hr1 : IsRes wH r1 m1 (kvs [])) (hxH : Ext (fun _ => False) wG wH) (hlr1 : wG.heap.size ≤ r1) (hlm1 : wG.heap.size ≤ m1)
    (hr2 : IsRes wI r2 m2 (kvs [])) (hxI : Ext (fun _ => False) wH wI) (hlr2 : wH.heap.size ≤ r2) (hlm2 : wH.heap.size ≤ m2) :
    ∃ tag, Rep w0 (((wI.alloc (.cells #[ptr r0, ptr r1, ptr r2] 24)).alloc (.cells #[] 56)).alloc (.map #[] 0))
      (mkB rb mb c0 c1 c2 c3 r0 m0 r1 m1 r2 m2 wF.heap.size wI.heap.size (wI.heap.size + 1 + 1)) [] tag (.slice (some ⟨wI.heap.size + 1, 0, none⟩) 0 0) s00 := by
  have xI : Ext (fun _ => False) wI (((wI.alloc (.cells #[ptr r0, ptr r1, ptr r2] 24)).alloc (.cells #[] 56)).alloc (.map #[] 0)) := (((Ext.refl _ _).alloc _).alloc _).alloc _
  have xH := hxI.trans xI
  have xG := hxH.trans xH
  have xG' := hxG.trans xG
  have xF := ((Ext.refl _ wF).alloc (.cells #[ptr c0, ptr c1, ptr c2, ptr c3] 40)).trans xG'
  have xE := hxF.trans xF
  have xD := hxE.trans xE
  have xC := hxD.trans xD
  have xB := hxC.trans xC
  have xA := hxB.trans xB
  have sA := hxA.size
  have sB := hxB.size
  have sC := hxC.size
  have sD := hxD.size
  have sE := hxE.size
  have sF := hxF.size
  have sG := hxG.size
  have sH := hxH.size
  have sI := hxI.size
  simp only [World.size_alloc] at sG
  have b0 := blk_lt hc0
  have b1 := blk_lt hc1
  have b2 := blk_lt hc2
  have b3 := blk_lt hc3
  have q0 := hr0.lt
  have q1 := hr1.lt
  have q2 := hr2.lt
  have p1 := hR0.lt (.inl rfl)
  have p2 := hR0.lt (.inr (.inl rfl))
  have V := fun b => @tag0_eq w0.heap.size wB.heap.size wC.heap.size wD.heap.size wE.heap.size wF.heap.size (wF.heap.size + 1) wG.heap.size wH.heap.size wI.heap.size (wI.heap.size + 1) (wI.heap.size + 2) b (by omega)
  refine ⟨tag0 w0.heap.size wB.heap.size wC.heap.size wD.heap.size wE.heap.size wF.heap.size (wF.heap.size + 1) wG.heap.size wH.heap.size wI.heap.size (wI.heap.size + 1) (wI.heap.size + 2),
    hR0.ext xB (fun _ _ => id), rfl, fun k hk => ?_, fun k hk => ?_, ?_, ?_, ⟨#[], 0, ?_, rfl⟩, ?_, fun x hx => ?_, fun k hk => ?_, fun k hk => ?_, ?_, ?_, ?_, fun g hg => ?_, hxA.trans xA, fun x hx => ?_⟩
  · match k, hk with
    | 0, _ => exact (xC.blk b0 id).trans hc0
    | 1, _ => exact (xD.blk b1 id).trans hc1
    | 2, _ => exact (xE.blk b2 id).trans hc2
    | 3, _ => exact (xF.blk b3 id).trans hc3
  · match k, hk with
    | 0, _ => exact hr0.ext xG id id
    | 1, _ => exact hr1.ext xH id id
    | 2, _ => exact hr2.ext xI id id
  · exact (xG'.blk (k := wF.heap.size) (by simp) id).trans (blk_alloc_at _ _)
  · show blk _ wI.heap.size = _
    rw [blk_alloc_past _ _ _ (by simp; omega), blk_alloc_past _ _ _ (by simp)]
    exact blk_alloc_at _ _
  · show blk _ (wI.heap.size + 2) = _
    have := blk_alloc_at ((wI.alloc (.cells #[ptr r0, ptr r1, ptr r2] 24)).alloc (.cells #[] 56)) (.map #[] 0)
    simpa using this
  · have := World.ownsRow_made (base := 0) (w := wI.alloc (.cells #[ptr r0, ptr r1, ptr r2] 24)) (e := 56) (size := 7) #[] 0 (Nat.zero_le _) (by simp [maxLen]) rfl
    simp only [World.size_alloc] at this
    exact ownsRow_ext this ((Ext.refl (fun _ => False) _).alloc _) (fun _ _ => id)
  · rcases hx with rfl | rfl | ⟨p, hp, _⟩
    · exact (V _).1 (by omega) (by omega)
    · exact (V _).1 (by omega) (by omega)
    · simp at hp
  · match k, hk with
    | 0, _ => exact (V c0).2.1 (by omega) (by omega)
    | 1, _ => exact (V c1).2.2.1 (by omega) (by omega)
    | 2, _ => exact (V c2).2.2.2.1 (by omega) (by omega)
    | 3, _ => exact (V c3).2.2.2.2.1 (by omega) (by omega)
  · match k, hk with
    | 0, _ => exact ⟨(V r0).2.2.2.2.2.2.1 (by omega) (by omega), (V m0).2.2.2.2.2.2.1 (by omega) (by omega)⟩
    | 1, _ => exact ⟨(V r1).2.2.2.2.2.2.2.1 (by omega) (by omega), (V m1).2.2.2.2.2.2.2.1 (by omega) (by omega)⟩
    | 2, _ => exact ⟨(V r2).2.2.2.2.2.2.2.2.1 (by omega) (by omega), (V m2).2.2.2.2.2.2.2.2.1 (by omega) (by omega)⟩
  · exact (V wF.heap.size).2.2.2.2.2.1 (by omega) (by omega)
  · exact (V wI.heap.size).2.2.2.2.2.2.2.2.2.1 (by omega) (by omega)
  · exact (V (wI.heap.size + 2)).2.2.2.2.2.2.2.2.2.2.2 (by omega)
  · simp [Value.ownBlock] at hg
    subst hg
    exact (V _).2.2.2.2.2.2.2.2.2.2.1 (by omega) (by omega)
  · unfold tag0; rw [if_pos hx]
end Go.Proofs.Ytgmopnbejjfbjaa
