/-
  The reference of package wire: GetBool, Bool. Conditions: the reader reads as IsRs says; the slice reads as bytes.
-/
import Derived.Test.YthipbmppmgkklaaB1
namespace Go.Proofs.Ythipbmppmgkklaa
open Go.RowKit Go.MapKept
open Go.ChangeMaps (setBlock)

def BrPost (w : World) (m : Nat × RS) (r : Ending) (w' : World) : Prop := ∃ v', r = .returned (.tuple #[v', .bool (decide (m.1 = 1))]) ∧ IsRs w' v' m.2 ∧ Ext (fun _ => False) w w'
set_option maxRecDepth 100000 in
set_option maxHeartbeats 4000000 in
theorem rgetbool_any (w : World) (v : Value) (s : RS) (h : IsRs w v s) : Calls Try.prog 60 #[v] w (BrPost w (bitM s)) := by
  obtain ⟨l, c⟩ := s
  obtain ⟨vs, rfl, hb⟩ := h
  simp only at hb
  have hb' := hb
  obtain ⟨ao, cp, rfl, hle, hmx, hat⟩ := hb'
  obtain ⟨m, hml⟩ : ∃ m, l.length = m := ⟨_, rfl⟩
  rw [hml] at hb hle ⊢
  obtain ⟨w1, hw1⟩ : ∃ w1, w1 = (w.alloc (.cells #[.slice ao m cp, .int .i64 c] 97)).alloc (.cells #[.slice none 0 0, .int .i64 0] 97) := ⟨_, rfl⟩
  have hbx : Boxes w w1 (.slice ao m cp) (.int .i64 c) := by rw [hw1]; exact boxes_made _ _ _
  have Hbx := Lib.hid hbx
  have Hb := Lib.hid hb
  have Hat := Lib.hid hat
  obtain ⟨y0, y1⟩ := box2 hbx.b
  obtain ⟨z0, z1⟩ := box2 hbx.c
  have f0 := free_of_cells hbx.c 0
  have f1 := free_of_cells hbx.c 1
  have g0 := free_of_cells hbx.b 0
  have hltc := blk_lt hbx.c
  have hne1 : ¬ w.heap.size = w.heap.size + 1 := by omega
  have hne2 : ¬ w.heap.size + 1 = w.heap.size := by omega
  have hltb : w.heap.size < w1.heap.size := by omega
  clear hb hat
  by_cases hc : c = 0
  · subst hc
    have hbad : ∀ w2, Ext (fun _ => False) w1 w2 → (set2 w2 (w.heap.size + 1) (.slice none 0 0) (.int .i64 11)).cell? ⟨w.heap.size + 1, 0, none⟩ = some (.slice none 0 0) ∧ (set2 w2 (w.heap.size + 1) (.slice none 0 0) (.int .i64 11)).cell? ⟨w.heap.size + 1, 1, none⟩ = some (.int .i64 11) ∧
        BrPost w (0, ⟨[], 11⟩) (.returned (.tuple #[.agg #[.slice none 0 0, .int .i64 11], .bool false])) (set2 w2 (w.heap.size + 1) (.slice none 0 0) (.int .i64 11)) := fun w2 hx => by
      obtain ⟨a, b, e⟩ := Hbx.out.fin (hx.mono (fun _ _ h => h.elim)) (.slice none 0 0) (.int .i64 11)
      exact ⟨a, b, _, rfl, IsRs.nil _ 11, e⟩
    have Hbad := Lib.hid hbad
    unfold set2 at Hbad
    clear hbad
    cases l with
    | nil =>
      have q0 : ((m : Int) == 0) = true := by rw [← hml]; rfl
      have hm : bitM ⟨[], 0⟩ = (0, ⟨[], 11⟩) := rfl
      rw [hm]
      have hmxx : m ≤ 9223372036854775807 := by unfold maxLen at hmx; omega
      clear hm hml
      go_enter Try.func60, Try.ntmps60
      go_upto_region 1 with fail
      rw [← hw1]
      clear hw1 hbx
      go_wp2_with fail
      refine (fail_any _ 11).mono ?_
      rintro r w2 ⟨rfl, hx2⟩
      have hx2' : Ext (fun _ => False) w1 w2 := hx2
      have hc2 := (hx2'.blk hltc id).trans Hbx.out.c
      obtain ⟨z0, z1⟩ := box2 hc2
      have f0 := free_of_cells hc2 0
      have f1 := free_of_cells hc2 1
      have Hbad := Lib.hid (Hbad.out w2 hx2')
      clear hx2 hx2' hc2
      go_wp2
      obtain ⟨e0, e1, hfin⟩ := Hbad.out
      exact bodyPost_ret (v := .tuple #[.agg #[.slice none 0 0, .int .i64 11], .bool false]) (by simp [results, Try.results60, go_sem, e0, e1]) rfl hfin
    | cons k t =>
      have hmt : t.length + 1 = m := hml
      have hk := k.toNat_lt
      obtain ⟨g, off, cur, rfl, _, hcell⟩ : ∃ g off cur, ao = some ⟨g, off, none⟩ ∧ U8 w g cur ∧ ∀ i b, (k :: t)[i]? = some b → w.cell? ⟨g, off + i, none⟩ = some (bv b) := by
        rcases Hat.out with ⟨_, h0⟩ | h
        · omega
        · exact h
      have c0 : w1.cell? ⟨g, off, none⟩ = some (.int .u8 k.toNat) := by
        obtain ⟨_, _, _, e, hbg, _⟩ := Hat.out.resolve_left (fun h => by have := h.2; omega)
        cases e
        have := (hbx.ext.cell (p := ⟨g, off + 0, none⟩) hbg.lt id).trans (hcell 0 k rfl)
        simpa [bv] using this
      have hbit : bitM ⟨k :: t, 0⟩ = if k.toNat ≤ 1 then (k.toNat, ⟨t, 0⟩) else (0, ⟨[], 11⟩) := by
        unfold bitM bitR
        simp only [if_true]
        by_cases h : k.toNat ≤ 1
        · rw [if_pos h, if_pos h]
        · rw [if_neg h, if_neg h]
      rw [hbit]
      clear hbit
      obtain ⟨kn, hkn⟩ : ∃ kn, k.toNat = kn := ⟨_, rfl⟩
      rw [hkn] at c0 hk ⊢
      have q0 : ((m : Int) == 0) = false := by simp; omega
      have hm1 : 1 ≤ m := by omega
      have hm2 : (0 : Int) < m := by omega
      have hmxx : m ≤ 9223372036854775807 := by unfold maxLen at hmx; omega
      clear hcell hkn hmt hml
      by_cases h1 : kn ≤ 1
      · rw [if_pos h1]
        have q1 : decide ((1 : Int) < kn) = false := by simp; omega
        have n0 : (0 : Int) ≤ 1 := by omega
        have n1 : (1 : Int) ≤ (m : Int) := by omega
        have hx1 : (((kn : Int) == 1) = decide (kn = 1)) := by
          by_cases e : kn = 1
          · subst e; rfl
          · have : ¬ (kn : Int) = 1 := by omega
            simp [e, this]
        obtain ⟨ob, hob⟩ : ∃ ob, decide (kn = 1) = ob := ⟨_, rfl⟩
        rw [hob] at hx1
        have Hob := Lib.hid hob
        have hfin : ∀ nv, BytesAt w nv t → (set2 (w1.setCell ⟨w.heap.size, 0, none⟩ nv) (w.heap.size + 1) nv (.int .i64 0)).cell? ⟨w.heap.size + 1, 0, none⟩ = some nv ∧ (set2 (w1.setCell ⟨w.heap.size, 0, none⟩ nv) (w.heap.size + 1) nv (.int .i64 0)).cell? ⟨w.heap.size + 1, 1, none⟩ = some (.int .i64 0) ∧
            BrPost w (kn, ⟨t, 0⟩) (.returned (.tuple #[.agg #[nv, .int .i64 0], .bool ob])) (set2 (w1.setCell ⟨w.heap.size, 0, none⟩ nv) (w.heap.size + 1) nv (.int .i64 0)) := fun nv hnv => by
          obtain ⟨a, b, e⟩ := Hbx.out.fin ((Ext.refl (fun b => b = w.heap.size) w1).setCell (p := ⟨w.heap.size, 0, none⟩) nv (fun _ => rfl)) nv (.int .i64 0)
          exact ⟨a, b, _, by rw [Hob.out], ⟨nv, rfl, hnv.keep e⟩, e⟩
        have Hfin := Lib.hid hfin
        unfold set2 at Hfin
        clear hfin hob h1
        by_cases hcp : cp = 1
        · have hmc : m = 1 := by omega
          subst hcp
          subst hmc
          have hbd : BytesAt w (.slice (some ⟨g, off, none⟩) 0 0) t := by
            have := Hb.out.dropAll rfl
            simpa using this
          have Hbd := Lib.hid hbd
          clear hbd
          go_enter Try.func60, Try.ntmps60
          go_upto_region 1 with fail
          rw [← hw1]
          clear hw1 hbx
          go_wp2_with fail
          obtain ⟨e0, e1, hfin⟩ := Hfin.out _ Hbd.out
          exact bodyPost_ret (v := .tuple #[.agg #[.slice (some ⟨g, off, none⟩) 0 0, .int .i64 0], .bool ob]) (by simp [results, Try.results60, go_sem, e0, e1]) rfl hfin
        · have hbd : BytesAt w (.slice (some ⟨g, off + 1, none⟩) (m - 1) (cp - 1)) t := by
            have := Hb.out.drop 1 hm1 (fun e => hcp e.symm)
            rw [Option.map_some, Addr.add_lit] at this
            simpa using this
          have Hbd := Lib.hid hbd
          have hcp' : ¬ 1 = cp := fun e => hcp e.symm
          have hle1 : 1 ≤ cp := by omega
          clear hbd
          go_enter Try.func60, Try.ntmps60
          go_upto_region 1 with fail
          rw [← hw1]
          clear hw1 hbx
          go_wp2_with fail
          obtain ⟨e0, e1, hfin⟩ := Hfin.out _ Hbd.out
          exact bodyPost_ret (v := .tuple #[.agg #[.slice (some ⟨g, off + 1, none⟩) (m - 1) (cp - 1), .int .i64 0], .bool ob]) (by simp [results, Try.results60, go_sem, e0, e1]) rfl hfin
      · rw [if_neg h1]
        have q1 : decide ((1 : Int) < kn) = true := by simp; omega
        clear h1
        go_enter Try.func60, Try.ntmps60
        go_upto_region 1 with fail
        rw [← hw1]
        clear hw1 hbx
        go_wp2_with fail
        refine (fail_any _ 11).mono ?_
        rintro r w2 ⟨rfl, hx2⟩
        have hx2' : Ext (fun _ => False) w1 w2 := hx2
        have hc2 := (hx2'.blk hltc id).trans Hbx.out.c
        obtain ⟨z0, z1⟩ := box2 hc2
        have f0 := free_of_cells hc2 0
        have f1 := free_of_cells hc2 1
        have Hbad := Lib.hid (Hbad.out w2 hx2')
        clear hx2 hx2' hc2
        go_wp2
        obtain ⟨e0, e1, hfin⟩ := Hbad.out
        exact bodyPost_ret (v := .tuple #[.agg #[.slice none 0 0, .int .i64 11], .bool false]) (by simp [results, Try.results60, go_sem, e0, e1]) rfl hfin
  · have hm : bitM ⟨l, c⟩ = (0, ⟨l, c⟩) := if_neg hc
    rw [hm]
    have hc' : (c == 0) = false := by simpa using hc
    obtain ⟨a, b, e⟩ := Hbx.out.fin (Ext.refl _ w1) (.slice ao m cp) (.int .i64 c)
    have hfin : BrPost w (0, ⟨l, c⟩) (.returned (.tuple #[.agg #[.slice ao m cp, .int .i64 c], .bool false])) (set2 w1 (w.heap.size + 1) (.slice ao m cp) (.int .i64 c)) := ⟨_, rfl, ⟨_, rfl, Hb.out.keep e⟩, e⟩
    have Hfin := Lib.hid (And.intro a (And.intro b hfin))
    unfold set2 at Hfin
    clear hm a b e hfin hc hml
    go_enter Try.func60, Try.ntmps60
    go_upto_region 1 with fail
    rw [← hw1]
    clear hw1 hbx
    go_wp2_with fail
    obtain ⟨e0, e1, hfin⟩ := Hfin.out
    exact bodyPost_ret (v := .tuple #[.agg #[.slice ao m cp, .int .i64 c], .bool false]) (by simp [results, Try.results60, go_sem, e0, e1]) rfl hfin
set_option maxRecDepth 100000 in
set_option maxHeartbeats 2000000 in
theorem rbool_any (w : World) (v : Value) (l : List UInt8) (f : Bool) (hb : IsBytes w v l) (hl : l.length ≤ 1073741824) :
    Calls Try.prog 47 #[v, .bool f] w (FreshPost w (l ++ [if f then 1 else 0])) := by
  obtain ⟨ao, cap, rfl, hc, hL, hgl⟩ := hb.source
  have HL := Lib.hid hL
  have Hc := Lib.hid hc
  have Hgl := Lib.hid hgl
  clear hb hL hc hgl
  have hb6 : Digits w (w.alloc (.cells #[] 5)) (.slice (some ⟨w.heap.size, 0, none⟩) 0 0) [] := ⟨ownsRow_empty 1 (blk_alloc_at w (.cells #[] 5)), (Ext.refl _ w).alloc _, fun g e => Nat.le_of_eq (Option.some.inj e)⟩
  have Hb6 := Lib.hid hb6
  clear hb6
  cases f with
  | true =>
    go_enter Try.func47, Try.ntmps47
    go_wp2_with (first
      | (at_builtin; refine wpList_append_digits rfl (.tmp 6) (.tmp 7) rfl _ [] rfl Hb6.out ao l.length cap rfl Hc.out l rfl (Hb6.out.lies HL.out rfl Hgl.out) (by simp; omega) ?_; intro a7 m7 c7 w7 H7)
      | (at_builtin; refine wpList_append_digits rfl (.tmp 8) (.tmp 9) rfl _ _ rfl (H7.out.alloc _) _ 1 1 rfl (fun e => (by cases e)) [1] rfl (bytes_lies_new _ _ _ (byte_small 1 (by omega))) (by simp; omega) ?_; intro a8 m8 c8 w8 H8))
    go_ret
    exact ⟨_, rfl, by simpa using H8.out.bytes, ext_fresh H8.out.ext, H8.out.own⟩
  | false =>
    go_enter Try.func47, Try.ntmps47
    go_wp2_with (first
      | (at_builtin; refine wpList_append_digits rfl (.tmp 11) (.tmp 12) rfl _ [] rfl Hb6.out ao l.length cap rfl Hc.out l rfl (Hb6.out.lies HL.out rfl Hgl.out) (by simp; omega) ?_; intro a7 m7 c7 w7 H7)
      | (at_builtin; refine wpList_append_digits rfl (.tmp 13) (.tmp 14) rfl _ _ rfl (H7.out.alloc _) _ 1 1 rfl (fun e => (by cases e)) [0] rfl (bytes_lies_new _ _ _ (byte_small 0 (by omega))) (by simp; omega) ?_; intro a8 m8 c8 w8 H8))
    go_ret
    exact ⟨_, rfl, by simpa using H8.out.bytes, ext_fresh H8.out.ext, H8.out.own⟩
end Go.Proofs.Ythipbmppmgkklaa
