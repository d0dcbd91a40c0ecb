/-
  (*Registry).Publish, where it publishes, leaves the registry that publishM says. Conditions: valid arguments, fewer than 1024 epochs.
-/
import Derived.Test.YtgmopnbejjfbjaaX7
namespace Go.Proofs.Ytgmopnbejjfbjaa
open Go.RowKit Go.MapKept
open Go.ChangeMaps (setBlock)
theorem zero103 (w : World) : (zeroValue 103).run Try.prog w = .ok (.slice none 0 0) w := by kernel_rfl
theorem Try.info100 : (Try.prog.info? 100).map (fun i => (i.zero, i.size, i.bytes)) = some (some (.agg #[.int .i64 0, .int .i64 0, .int .i64 0]), 3, 24) := by kernel_rfl

theorem cell?_setBlock_other (w : World) (b : Nat) (o : Obj) (k i : Nat) (h : k ≠ b) : (setBlock w b o).cell? ⟨k, i, none⟩ = w.cell? ⟨k, i, none⟩ :=
  World.cell?_of_block (w := w) (by simp [ChangeMaps.setBlock, Ne.symm h])

set_option maxRecDepth 100000 in
set_option maxHeartbeats 2000000 in
theorem publish_ok (rb mb : Nat) (w : World) (L : List (ByteArray × Slot)) (hR : IsReg w rb mb L) (n : ByteArray) (a t now : Int) (hns : n.size ≤ 9223372036854775807)
    (h1 : isNameB n = true) (h2 : validB a t = true) (h3 : readB now = true) (h4 : (slotL L n).length < 1024) :
    Calls Try.prog 19 #[.pointer (some ⟨rb, 0, none⟩), .string n, .int .i64 a, .int .i64 t, .int .i64 now] w (PubPost w rb mb L (publishM (regM L) n a t now)) := by
  obtain ⟨i0, hi, hz0, hz1, hz2⟩ := info_parts Try.info100
  have ⟨hc, ⟨es, clock, hm, hl⟩, _⟩ := hR
  have hown := hR.owns n
  have hrn := hR.rb_ne n
  have hne := hR.ne
  obtain ⟨f, hf⟩ := run_update_fun (P := Try.prog) (b := mb) (clock := clock) Try.underlying94 Try.underlying9 hl n
  have hup : ∀ (u : Value) (w : World), blk w mb = some (.map es clock) → (Instr.mapUpdate 94 (.map (some mb)) (.string n) u).run Try.prog w = .ok () (setBlock w mb (f u)) := fun u => (hf u).2
  have hup' := fun u => (hf u).1
  obtain ⟨ao, cap, hv⟩ := ownsRow_shape hown
  have hlk : ∀ W : World, blk W mb = some (.map es clock) → (Instr.lookup 94 (.map (some mb)) (.string n) false).run Try.prog W = .ok (.slice ao (slotL L n).length cap) W := fun W hW => by
    have := run_lookup_str (P := Try.prog) Try.underlying94 Try.underlying9 hW hl.1 (zero103 W) n false
    rw [this, ← hv]
    unfold slotV
    rw [assoc_map]
    cases assoc L n <;> rfl
  have hs : publishM (regM L) n a t now = (aput (regM L) n (slotL L n ++ [⟨a, t, 0⟩]), ((slotL L n).length : Int) + 1, 0) := by
    unfold publishM
    simp only [h1, h2, h3, Bool.and_self, if_true, ← slotL_eq]
    rw [if_neg (by omega)]
  have hrb := blk_lt hc
  have hmb := blk_lt hm
  obtain ⟨f0, f1, f2, f3, f4, f5⟩ := ne_sizes hmb
  obtain ⟨g1, g2, g3, _⟩ := lt_sizes hrb
  have hc0 := cell_of_cells hc 0
  simp at hc0
  have HR := Lib.hid hR
  have Hs := Lib.hid hs
  have Hup := Lib.hid hup'
  have Hown := Lib.hid hown
  have Hv := Lib.hid hv
  have Hne := Lib.hid hne
  have Hrn := Lib.hid hrn
  clear hR hs hup' hown hv hne hrn hc hl hf
  generalize hk : (slotL L n).length = k at *
  have Hk := Lib.hid hk
  clear hk
  go_enter Try.func19, Try.ntmps19
  go_wp2_with (first | (go_at_call 35; refine (isName_any _ _ hns).mono ?_; rintro r w' ⟨rfl, rfl⟩; rw [h1]))
  refine (valid_any _ _ _ _).mono ?_
  rintro r W ⟨rfl, hx1⟩
  rw [h2]
  have hWs := hx1.size
  simp only [World.size_alloc] at hWs
  have hWs1 : w.heap.size < W.heap.size := hWs
  have hrbW : rb < W.heap.size := by omega
  have hmbW : mb < W.heap.size := by omega
  have q0 : W.cell? ⟨rb, 0, none⟩ = some (.map (some mb)) := (hx1.cell (p := ⟨rb, 0, none⟩) (by simp; omega) id).trans (by simp [World.cell?_alloc_past, hrb, hc0])
  have q1 : W.cell? ⟨w.heap.size, 0, none⟩ = some (.int .i64 a) := (hx1.cell (p := ⟨w.heap.size, 0, none⟩) (by simp) id).trans (by simp)
  have q2 : W.cell? ⟨w.heap.size, 1, none⟩ = some (.int .i64 t) := (hx1.cell (p := ⟨w.heap.size, 1, none⟩) (by simp) id).trans (by simp)
  have q3 : W.cell? ⟨w.heap.size, 2, none⟩ = some (.int .i64 0) := (hx1.cell (p := ⟨w.heap.size, 2, none⟩) (by simp) id).trans (by simp)
  have q4 : blk W mb = some (.map es clock) := (hx1.blk (by simp; omega) id).trans (by rw [blk_alloc_past _ _ _ hmb]; exact hm)
  have hxW : Ext (fun _ => False) w W := ((Ext.refl _ w).alloc _).trans' (T := fun _ => False) hx1 (fun _ _ h => h)
  have HxW := Lib.hid hxW
  have Hx1 := Lib.hid hx1
  obtain ⟨l0, l1, l2, l3, l4, l5⟩ := ne_sizes hmbW
  clear hxW hx1 hc0 hm f0 f1 f2 f3 f4 f5 g1 g2 g3
  go_wp2_with (first | (go_at_call 37; refine (reading_any _ _).mono ?_; rintro r w' ⟨rfl, hw⟩; obtain rfl := hw.symm; rw [h3]))
  have Hown2 : Hid (W.ownsRow 0 100 3 (.slice ao k cap) k (eps (slotL L n))) := by rw [← Hv.out]; exact ownsRow_ext Hown.out HxW.out (fun _ _ h => h)
  have hd1 : (Value.slice ao k cap).ownBlock ≠ some rb := by rw [← Hv.out]; exact Hrn.out.1
  have hd2 : (Value.slice ao k cap).ownBlock ≠ some mb := by rw [← Hv.out]; exact Hrn.out.2
  have hd3 : (Value.slice ao k cap).ownBlock ≠ some w.heap.size := by
    rw [← Hv.out]; intro e; have := (Hown.out.lt _ e).2; omega
  have hnr := Hne.out
  have hnB : w.heap.size ≠ mb := by omega
  have Hkeep : Hid (∀ w1, (W.alloc (.cells #[.int .i64 a, .int .i64 t, .int .i64 0] 100)).drew.grownBy w1 (Value.slice ao k cap).ownBlock →
      w1.cell? ⟨rb, 0, none⟩ = some (.map (some mb)) ∧ w1.cell? ⟨w.heap.size, 0, none⟩ = some (.int .i64 a) ∧ w1.cell? ⟨w.heap.size, 1, none⟩ = some (.int .i64 t) ∧ w1.cell? ⟨w.heap.size, 2, none⟩ = some (.int .i64 0) ∧ blk w1 mb = some (.map es clock)) := by
    intro w1 hg
    have hx : Ext (fun b => (Value.slice ao k cap).ownBlock = some b) (W.alloc (.cells #[.int .i64 a, .int .i64 t, .int .i64 0] 100)) w1 := (Ext.refl _ _).drew.grown hg (fun r hr _ => hr)
    have hs : ∀ b, b < W.heap.size → b < (W.alloc (.cells #[.int .i64 a, .int .i64 t, .int .i64 0] 100)).heap.size := fun b hb => by simp; omega
    exact ⟨(hx.cell (p := ⟨rb, 0, none⟩) (hs _ hrbW) hd1).trans (by simp [World.cell?_alloc_past, hrbW, q0]), (hx.cell (p := ⟨w.heap.size, 0, none⟩) (hs _ hWs1) hd3).trans (by simp [World.cell?_alloc_past, hWs1, q1]),
      (hx.cell (p := ⟨w.heap.size, 1, none⟩) (hs _ hWs1) hd3).trans (by simp [World.cell?_alloc_past, hWs1, q2]), (hx.cell (p := ⟨w.heap.size, 2, none⟩) (hs _ hWs1) hd3).trans (by simp [World.cell?_alloc_past, hWs1, q3]),
      (hx.blk (hs _ hmbW) hd2).trans (by rw [blk_alloc_past _ _ _ hmbW]; exact q4)⟩
  clear hd1 hd2 hd3
  go_region_held3 (fun w' => w'.cell? ⟨rb, 0, none⟩ = some (.map (some mb)) ∧ w'.cell? ⟨w.heap.size, 0, none⟩ = some (.int .i64 a) ∧ w'.cell? ⟨w.heap.size, 1, none⟩ = some (.int .i64 t) ∧ w'.cell? ⟨w.heap.size, 2, none⟩ = some (.int .i64 0))
    (first | exact ⟨z0, z1, z2, z3⟩ | (rw [cell?_setBlock_other _ _ _ _ _ hnr, cell?_setBlock_other _ _ _ _ _ hnB, cell?_setBlock_other _ _ _ _ _ hnB, cell?_setBlock_other _ _ _ _ _ hnB]; exact ⟨z0, z1, z2, z3⟩) | go_keep)
    ((refine step_append_lies _ (by rfl) _ _ _ (by rfl) 0 100 i0 _ 3 24 Try.underlying103 hi hz0 hz1 hz2 rfl (by omega) (.slice ao k cap) k (eps (slotL L n)) (by rfl) ((Hown2.out.alloc _).drew)
        ⟨W.heap.size, 0, none⟩ 1 1 [.int .i64 a, .int .i64 t, .int .i64 0] (by rfl) (by rfl) (World.news_of_block (cs := #[.int .i64 a, .int .i64 t, .int .i64 0]) (t := 100) (fr := (0, 0)) (heap_alloc_new W _)) (by simp [Value.oneCell'])
        (by omega) (by simp only [maxLen]; omega) (by omega) (by simp) (W.heap.size + 1) (by simp) ?_; intro gg cap' w1 hown1 hgrow hat hlt; obtain ⟨z0, z1, z2, z3, z4⟩ := Hkeep.out w1 hgrow))
  go_wp2
  go_ret2
  have hx : Ext (fun b => (slotV L n).ownBlock = some b) w w1 := by
    rw [Hv.out]
    exact ((HxW.out.mono (fun _ _ h => h.elim)).alloc _).drew.grown hgrow (fun r hr _ => hr)
  have hown3 : w1.ownsRow 0 100 3 (.slice (some ⟨gg, 0, none⟩) (k + 1) cap') (k + 1) (eps (slotL L n ++ [⟨a, t, 0⟩])) := by
    rw [eps_append]; exact hown1
  have hloc : (slotV L n).ownBlock = some gg ∨ w.heap.size ≤ gg := by
    rw [Hv.out]; rcases hat with h | h
    · exact .inl h
    · exact .inr (by omega)
  refine ⟨?_, ?_, aput L n ⟨.slice (some ⟨gg, 0, none⟩) (k + 1) cap', slotL L n ++ [⟨a, t, 0⟩]⟩, ?_, ?_, ?_⟩
  · rw [Hs.out]; rfl
  · refine (hx.mono (fun b _ h => .inr (.inr (slotV_own h)))).setBlock _ _ (fun _ => .inr (.inl rfl))
  · refine HR.out.put hx ?_ (g := gg) rfl hloc (Hup.out _)
    have : (slotL L n ++ [(⟨a, t, 0⟩ : Ep)]).length = k + 1 := by simp [Hk.out]
    rw [this]; exact hown3
  · rw [Hs.out, regM_aput]
  · intro b hb
    exact fpR_aput (g := gg) rfl hloc hb
end Go.Proofs.Ytgmopnbejjfbjaa
