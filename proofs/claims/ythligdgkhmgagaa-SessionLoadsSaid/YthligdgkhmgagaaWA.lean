/-
  Package wire: AppendNumber appends the encoding of a number to a slice of the caller's own. Conditions: the slice is the caller's own; its length bounded.
-/
import Derived.Test.YthligdgkhmgagaaBase
import Derived.Test.YthligdgkhmgagaaShelf
import Derived.Deep.LoopGhost
import Derived.Deep.CutBlock
import Derived.Deep.DeepCutAuto
import Derived.Deep.RegionHeld3
import Derived.Deep.AppendLies
import Derived.Lib.AppendStr
namespace Go.Proofs.Ythligdgkhmgagaa
open Go.RowKit Go.MapKept
open Go.ChangeMaps (setBlock)

/-! ### bytes -/
def bv (c : UInt8) : Value := .int .u8 c.toNat
/-- v is a slice of the call's own that holds the bytes l -/
def IsBytes (w : World) (v : Value) (l : List UInt8) : Prop := w.ownsRow 0 5 1 v l.length (l.map bv)
/-- the k low bytes of n, the greatest first -/
def beB : Nat → Nat → List UInt8
  | 0, _ => []
  | k + 1, n => UInt8.ofNat (n / 256 ^ k) :: beB k n
def nbytes (n : Nat) : Nat := (Lib.bitLen n + 7) / 8
def encNum (n : Nat) : List UInt8 := UInt8.ofNat (nbytes n) :: beB (nbytes n) n
theorem beB_length (k n : Nat) : (beB k n).length = k := by
  induction k with
  | zero => rfl
  | succ k ih => simp [beB, ih]
theorem beB_get (k n i : Nat) (h : i < k) : (beB k n)[i]? = some (UInt8.ofNat (n / 256 ^ (k - 1 - i))) := by
  induction k generalizing i with
  | zero => omega
  | succ k ih =>
    cases i with
    | zero => simp [beB]
    | succ i => simp only [beB, List.getElem?_cons_succ]; rw [ih i (by omega)]; congr 4; omega
theorem beB_take (k n i : Nat) (h : i < k) : (beB k n).take (i + 1) = (beB k n).take i ++ [UInt8.ofNat (n / 256 ^ (k - 1 - i))] := by
  rw [List.take_add_one, beB_get k n i h]; rfl
/-- the post of a call that appends -/
def AppPost (w : World) (v : Value) (l : List UInt8) (r : Ending) (w' : World) : Prop :=
  ∃ v', r = .returned v' ∧ IsBytes w' v' l ∧ Ext (fun b => v.ownBlock = some b) w w' ∧ ∀ g, v'.ownBlock = some g → v.ownBlock = some g ∨ w.heap.size ≤ g
theorem Try.infoU8 : (Try.prog.info? 5).map (fun i => (i.zero, i.size, i.bytes)) = some (some (.int .u8 0), 1, 1) := by kernel_rfl
theorem bits_shr (n j : Nat) : n >>> (8 * j) = n / 256 ^ j := by rw [Nat.shiftRight_eq_div_pow, Nat.pow_mul]

theorem nbytes_le (n : Nat) (h : n ≤ 18446744073709551615) : nbytes n ≤ 8 := by
  have := Lib.bitLen_le n 64 (by omega) (by omega)
  unfold nbytes; omega
theorem u8_wrap (k : Nat) : Value.int .u8 (IntKind.u8.wrap (k : Int)) = bv (UInt8.ofNat k) := by
  unfold bv
  simp [IntKind.wrap, IntKind.min, IntKind.max, IntKind.signed, IntKind.bits]
theorem IsBytes.shape {w : World} {v : Value} {l : List UInt8} (h : IsBytes w v l) : ∃ ao cap, v = .slice ao l.length cap := by
  rcases h.2 with ⟨h1, h2⟩ | ⟨g, c, cur, h1, _⟩
  · exact ⟨none, 0, by rw [h1, h2]⟩
  · exact ⟨_, _, h1⟩
theorem IsBytes.ext {S : Nat → Prop} {w w' : World} {v : Value} {l : List UInt8} (h : IsBytes w v l) (hx : Ext S w w') (hn : ∀ g, v.ownBlock = some g → ¬ S g) : IsBytes w' v l := ownsRow_ext h hx hn

set_option maxRecDepth 100000 in
set_option maxHeartbeats 1000000 in
theorem appendNumber_any (w : World) (v : Value) (l : List UInt8) (n : Nat) (hb : IsBytes w v l) (hn : n ≤ 18446744073709551615) (hl : l.length ≤ 1073741824) :
    Calls Try.prog 73 #[v, .int .u64 n] w (AppPost w v (l ++ encNum n)) := by
  obtain ⟨ao, cap, rfl⟩ := hb.shape
  have hk := nbytes_le n hn
  have hk' : (((Lib.bitLen n : Nat) : Int) + 7) / 8 = ((nbytes n : Nat) : Int) := by unfold nbytes; omega
  have hbl : Lib.bitLen n ≤ 64 := Lib.bitLen_le n 64 (by omega) (by omega)
  have Hb := Lib.hid hb
  have Hk' := Lib.hid hk'
  obtain ⟨i0, hi, hz0, hz1, hz2⟩ := info_parts Try.infoU8
  clear hb hk'
  go_enter Try.func73, Try.ntmps73
  go_wp2_with fail
  refine (Try.bits_Len64 _ _ (by omega) (by omega)).mono ?_
  rintro e w' ⟨rfl, hw⟩; obtain rfl := hw.symm
  simp only [Int.toNat_natCast]
  go_upto_region 2 with fail
  rw [Hk'.out]
  generalize hkn : nbytes n = k at *
  have Hkn := Lib.hid hkn
  clear hkn Hk' hbl
  go_wp2_with (at_builtin; refine wpList_append_lies _ rfl _ _ 80 rfl 0 5 i0 _ 1 1 Try.underlying80 hi hz0 hz1 hz2 rfl (by decide) _ _ _ rfl (Hb.out.alloc _) ⟨w.heap.size, 0, none⟩ 1 1 _ rfl rfl (cells_new _ _ rfl) (by simp [Value.oneCell']) (by omega) (show l.length + 1 ≤ maxLen by simp only [maxLen]; omega) (show (l.length + 1) * 1 ≤ 140737488355328 by omega) (by simp) (w.heap.size + 1) (by simp) ?_; intro gg cap' w4 hown4 hgrow4 hat hltg)
  have hx4 : Ext (fun b => (Value.slice ao l.length cap).ownBlock = some b) w w4 := ((Ext.refl _ _).alloc _).grown hgrow4 (fun y hy _ => hy)
  have hbk : Value.int .u8 (k : Int) = bv (UInt8.ofNat k) := by unfold bv; congr 1; simp; omega
  rw [hbk] at hown4
  have hB4 : IsBytes w4 (.slice (some ⟨gg, 0, none⟩) (l.length + 1) cap') (l ++ [UInt8.ofNat k] ++ (beB k n).take (k - k)) := by
    unfold IsBytes
    simpa using hown4
  have hat4 : (Value.slice ao l.length cap).ownBlock = some gg ∨ w.heap.size ≤ gg := hat.elim (fun h => .inl h) (fun h => .inr (by omega))
  have HB4 := Lib.hid hB4
  have Hx4 := Lib.hid hx4
  have Hat4 := Lib.hid hat4
  clear hown4 hgrow4 hat hltg hx4 hB4 hbk hat4 Hb
  go_loopg [0, 6] k (fun g v0 v6 wr => v6 = .int .i64 ((g : Int) - 1) ∧ g ≤ k ∧ ∃ gb c, v0 = .slice (some ⟨gb, 0, none⟩) (l.length + 1 + (k - g)) c ∧ IsBytes wr (.slice (some ⟨gb, 0, none⟩) (l.length + 1 + (k - g)) c) (l ++ [UInt8.ofNat k] ++ (beB k n).take (k - g)) ∧
    Ext (fun b => (Value.slice ao l.length cap).ownBlock = some b) w wr ∧ ((Value.slice ao l.length cap).ownBlock = some gb ∨ w.heap.size ≤ gb))
  case atStart => exact ⟨rfl, Nat.le_refl _, gg, cap', by simp, by simpa using HB4.out, Hx4.out, Hat4.out⟩
  case round =>
    obtain ⟨rfl, hj, gb, c, rfl, hB, hX, hA⟩ := hrel
    clear HB4 Hx4 Hat4
    have HB := Lib.hid hB
    have HX := Lib.hid hX
    have HA := Lib.hid hA
    clear hB hX hA
    by_cases hj0 : gk = 0
    · subst hj0
      go_wp2
      go_ret
      refine ⟨_, rfl, ?_, HX.out, fun y hy => ?_⟩
      · have := HB.out
        have e := Hkn.out
        simp only [Nat.sub_zero] at this ⊢
        rw [List.take_of_length_le (by rw [beB_length]; omega)] at this
        unfold encNum
        rw [e, List.append_cons]
        exact this
      · simp [Value.ownBlock] at hy
        subst hy
        exact HA.out
    · obtain ⟨j, rfl⟩ : ∃ j, gk = j + 1 := ⟨gk - 1, by omega⟩
      obtain ⟨N, hN⟩ : ∃ N, l.length + 1 + (k - (j + 1)) = N := ⟨_, rfl⟩
      have hN2 : N ≤ 1073741832 := by omega
      obtain ⟨X, hX⟩ : ∃ X, l ++ [UInt8.ofNat k] ++ (beB k n).take (k - (j + 1)) = X := ⟨_, rfl⟩
      have hXl : X.length = N := by rw [← hX, ← hN]; simp [beB_length]; omega
      have hX2 : l ++ [UInt8.ofNat k] ++ (beB k n).take (k - j) = X ++ [UInt8.ofNat (n / 256 ^ j)] := by
        rw [show k - j = k - (j + 1) + 1 by omega, beB_take k n _ (by omega), ← List.append_assoc, hX, show k - 1 - (k - (j + 1)) = j by omega]
      have hN3 : l.length + 1 + (k - j) = N + 1 := by omega
      have hbn : Value.int .u8 ((n : Int) / 2 ^ (8 * j) % 256) = bv (UInt8.ofNat (n / 256 ^ j)) := by
        unfold bv; congr 1; simp only [UInt8.toNat_ofNat']; rw [show (256 : Nat) ^ j = 2 ^ (8 * j) by rw [Nat.pow_mul]]; push_cast; rfl
      have hown : wr.ownsRow 0 5 1 (.slice (some ⟨gb, 0, none⟩) N c) N (X.map bv) := by
        have := HB.out
        unfold IsBytes at this
        rwa [hX, hXl, hN] at this
      rw [hN]
      have Hown := Lib.hid hown
      have HXl := Lib.hid hXl
      have HX2 := Lib.hid hX2
      have HN3 := Lib.hid hN3
      have Hbn := Lib.hid hbn
      clear hN hX hXl hX2 hN3 hbn hown HB
      go_wp2_with (at_builtin; refine wpList_append_lies _ rfl _ _ 80 rfl 0 5 i0 _ 1 1 Try.underlying80 hi hz0 hz1 hz2 rfl (by decide) _ _ _ rfl (Hown.out.alloc _) ⟨wr.heap.size, 0, none⟩ 1 1 _ rfl rfl (cells_new _ _ rfl) (by simp [Value.oneCell']) (by omega) (show N + 1 ≤ maxLen by simp only [maxLen]; omega) (show (N + 1) * 1 ≤ 140737488355328 by omega) (by simp) (wr.heap.size + 1) (by simp) ?_; intro gg cap' w4 hown4 hgrow4 hat hltg)
      have hx4 : Ext (fun b => (Value.slice ao l.length cap).ownBlock = some b) w w4 := (HX.out.trans' (((Ext.refl (fun b => gb = b) _).alloc _).grown hgrow4 (fun y hy _ => Option.some.inj (show some gb = some y from hy))) (fun y hy e => by
        subst e
        exact HA.out.elim id (fun h => absurd hy (by omega))))
      have hsz := HX.out.size
      rw [Hbn.out] at hown4
      have hB4 : IsBytes w4 (.slice (some ⟨gg, 0, none⟩) (N + 1) cap') (X ++ [UInt8.ofNat (n / 256 ^ j)]) := by
        unfold IsBytes
        simpa [HXl.out] using hown4
      have hat4 : (Value.slice ao l.length cap).ownBlock = some gg ∨ w.heap.size ≤ gg := by
        rcases hat with h | h
        · have h : gb = gg := Option.some.inj (show some gb = some gg from h)
          subst h; exact HA.out
        · exact .inr (by omega)
      have HB4 := Lib.hid hB4
      have HX4 := Lib.hid hx4
      have HA4 := Lib.hid hat4
      clear hB4 hx4 hat4 hown4 hgrow4 hat hltg hsz
      go_wp2
      go_roundg j
      case measure => omega
      case rel => exact ⟨rfl, by omega, gg, cap', by rw [HN3.out], by rw [HN3.out, HX2.out]; exact HB4.out, HX4.out, HA4.out⟩
end Go.Proofs.Ythligdgkhmgagaa
