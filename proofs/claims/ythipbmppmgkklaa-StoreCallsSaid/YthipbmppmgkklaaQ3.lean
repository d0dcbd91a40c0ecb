/-
  Package wire: what a reader reads: Int, Bool. Conditions: the reader stands as IsRd says.
-/
import Derived.Test.YthipbmppmgkklaaQ2
import Derived.Laws.BitsAllLaws
namespace Go.Proofs.Ythipbmppmgkklaa
open Go.RowKit Go.MapKept
open Go.ChangeMaps (setBlock)

def unzz (n : Nat) : Int := if n % 2 = 0 then ((n / 2 : Nat) : Int) else -((n / 2 : Nat) : Int) - 1
theorem unzz_zz (n : Int) : unzz (zz n) = n := by
  unfold unzz zz
  by_cases h : 0 ≤ n
  · rw [if_pos h, if_pos (by omega)]; omega
  · rw [if_neg h, if_neg (by omega)]; omega
theorem zz_unzz (n : Nat) : zz (unzz n) = n := by
  unfold unzz
  by_cases h : n % 2 = 0
  · rw [if_pos h]; unfold zz; rw [if_pos (by omega)]; omega
  · rw [if_neg h]; unfold zz; rw [if_neg (by omega)]; omega
def intM (s : RS) : Int × RS := (unzz (numberM s).1, (numberM s).2)
theorem unzz_in {n : Nat} (h : n < 18446744073709551616) : -9223372036854775808 ≤ unzz n ∧ unzz n ≤ 9223372036854775807 := by
  unfold unzz; split <;> omega
theorem i64_xor_zero (a : Nat) (ha : a < 9223372036854775808) : bits .xor .i64 (a : Int) 0 = (a : Int) := by
  show IntKind.i64.wrap ((BitVec.ofInt 64 (a : Int) ^^^ BitVec.ofInt 64 0).toNat : Int) = _
  rw [show BitVec.ofInt 64 0 = 0#64 from by decide, BitVec.xor_zero, ofInt_u64 a (by omega)]
  exact IntWalk.i64_in _ (by omega)
theorem i64_xor_ones (a : Nat) (ha : a < 9223372036854775808) : bits .xor .i64 (a : Int) (-1) = -1 - (a : Int) := by
  show IntKind.i64.wrap ((BitVec.ofInt 64 (a : Int) ^^^ BitVec.ofInt 64 (-1)).toNat : Int) = _
  rw [show BitVec.ofInt 64 (-1) = BitVec.allOnes 64 from by decide, BitVec.xor_allOnes, BitVec.toNat_not, ofInt_u64 a (by omega)]
  simp [IntKind.wrap, IntKind.bits, IntKind.signed]
  omega
theorem and_one (n : Nat) (h : n < 18446744073709551616) : bits .and .u64 (n : Int) 1 = ((n % 2 : Nat) : Int) := by
  have := u64_and_nat n 1 h (by omega)
  rw [Nat.and_one_is_mod] at this
  exact this
theorem unzz_bits (n : Nat) (h : n < 18446744073709551616) : bits .xor .i64 ((n / 2 : Nat) : Int) (-((n % 2 : Nat) : Int)) = unzz n := by
  unfold unzz
  by_cases h2 : n % 2 = 0
  · rw [if_pos h2, h2]
    exact i64_xor_zero _ (by omega)
  · rw [if_neg h2, show n % 2 = 1 by omega]
    have := i64_xor_ones (n / 2) (by omega)
    show bits .xor .i64 ((n / 2 : Nat) : Int) (-1) = _
    rw [this]; omega
def IntPost (w : World) (p : Nat) (m : Int × RS) (r : Ending) (w' : World) : Prop := r = .returned (.int .i64 m.1) ∧ IsRd w' p m.2 ∧ Ext (fun b => b = p) w w'
set_option maxRecDepth 100000 in
theorem int_any (w : World) (p : Nat) (s : RS) (h : IsRd w p s) : Calls Try.prog 52 #[.pointer (some ⟨p, 0, none⟩)] w (IntPost w p (intM s)) := by
  have H := Lib.hid (number_any w p s h)
  have hlt := h.lt
  have hn := numberM_lt s
  unfold intM
  generalize numberM s = m at *
  obtain ⟨n, s'⟩ := m
  simp only at hn ⊢
  have hb : bits .xor .i64 ((n : Int) / 2) (-((n : Int) % 2)) = unzz n := by
    have := unzz_bits n hn
    rwa [show ((n / 2 : Nat) : Int) = (n : Int) / 2 by omega, show ((n % 2 : Nat) : Int) = (n : Int) % 2 by omega] at this
  have h1 := and_one n hn
  have h2 : IntKind.i64.wrap ((n : Int) / 2) = ((n / 2 : Nat) : Int) := by
    rw [show ((n : Int) / 2) = ((n / 2 : Nat) : Int) by omega]; exact IntWalk.i64_in _ (by omega)
  clear h
  go_enter Try.func52, Try.ntmps52
  go_wp2_with fail
  refine H.out.mono ?_
  rintro r w1 ⟨rfl, h⟩
  have Hfin := Lib.hid h
  have Hb := Lib.hid hb
  clear h hb
  go_wp2
  go_ret
  exact ⟨congrArg (fun z => Ending.returned (Value.int .i64 z)) Hb.out, Hfin.out⟩
/-! ### truth values -/
def bitR : List UInt8 → Option (Nat × List UInt8)
  | [] => none
  | b :: t => if b.toNat ≤ 1 then some (b.toNat, t) else none
def bitM (s : RS) : Nat × RS := if s.c = 0 then (match bitR s.l with | some (n, t) => (n, ⟨t, 0⟩) | none => (0, ⟨[], 11⟩)) else (0, s)
def BitPost (w : World) (p : Nat) (l : List UInt8) (r : Ending) (w' : World) : Prop :=
  Ext (fun b => b = p) w w' ∧ match bitR l with
  | some (n, t) => r = .returned (.tuple #[.int .u64 n, .int .i64 0]) ∧ IsRd w' p ⟨t, 0⟩
  | none => r = .returned (.tuple #[.int .u64 0, .int .i64 11]) ∧ ∃ l', IsRd w' p ⟨l', 0⟩
set_option maxRecDepth 100000 in
set_option maxHeartbeats 2000000 in
theorem bool1_any (w : World) (p X : Nat) (l : List UInt8) (h : IsRd w p ⟨l, 0⟩) (hX : blk w X = some (.cells #[.pointer (some ⟨p, 0, none⟩)] 91 (0, 0))) :
    Calls Try.prog 77 #[.pointer (some ⟨X, 0, none⟩)] w (BitPost w p l) := by
  have H := Lib.hid h
  have htake := take_any w p _ 1 h (by omega)
  have c0 : w.cell? ⟨X, 0, none⟩ = some (.pointer (some ⟨p, 0, none⟩)) := by simpa using cell_of_cells hX 0
  have hltX := blk_lt hX
  cases l with
  | nil =>
    have hfin : BitPost w p [] (.returned (.tuple #[.int .u64 0, .int .i64 11])) w := ⟨Ext.refl _ _, rfl, _, h⟩
    have Hfin := Lib.hid hfin
    have Htake := Lib.hid htake
    clear hfin htake h hX
    go_enter Try.func77, Try.ntmps77
    go_wp2_with fail
    refine Htake.out.mono ?_
    rintro r w1 (⟨h1, _⟩ | ⟨_, rfl, rfl⟩)
    · simp at h1
    · go_wp2
      go_ret2
      exact Hfin.out
  | cons k t =>
    have Htake := Lib.hid htake
    have hg : bitR (k :: t) = if k.toNat ≤ 1 then some (k.toNat, t) else none := rfl
    clear htake h hX
    have hk := k.toNat_lt
    go_enter Try.func77, Try.ntmps77
    go_wp2_with fail
    refine Htake.out.mono ?_
    rintro r w1 (⟨_, v, rfl, hv, hrd, hx⟩ | ⟨h1, _⟩)
    · have hv' := hv
      obtain ⟨ao, cp, rfl, _, _, hat⟩ := hv'
      rcases hat with ⟨_, h0⟩ | ⟨g, off, cur, rfl, _, hat⟩
      · simp at hv; obtain ⟨_, _, e, h2, _⟩ := hv; cases e; simp at h2; omega
      have c0 : w1.cell? ⟨g, off, none⟩ = some (.int .u8 k.toNat) := by simpa [bv] using hat 0 k rfl
      simp only [List.drop_succ_cons, List.drop_zero] at hrd
      have Hrd := Lib.hid hrd
      have Hx := Lib.hid hx
      have hl1 : ([k] : List UInt8).length = 1 := rfl
      clear hat hv hrd hx
      simp only [List.take_succ_cons, List.take_zero, hl1]
      obtain ⟨kn, hkn⟩ : ∃ kn, k.toNat = kn := ⟨_, rfl⟩
      rw [hkn] at c0 hk hg
      have Hkn := Lib.hid hkn
      have Hg := Lib.hid hg
      clear hkn hg
      by_cases h8 : (1 : Int) < kn
      · have hfin : BitPost w p (k :: t) (.returned (.tuple #[.int .u64 0, .int .i64 11])) w1 := ⟨Hx.out, by rw [Hg.out, if_neg (by omega)]; exact ⟨rfl, t, Hrd.out⟩⟩
        have Hfin := Lib.hid hfin
        clear hfin
        go_wp2
        go_ret2
        exact Hfin.out
      · have hfin : BitPost w p (k :: t) (.returned (.tuple #[.int .u64 kn, .int .i64 0])) w1 := ⟨Hx.out, by rw [Hg.out, if_pos (by omega)]; exact ⟨rfl, Hrd.out⟩⟩
        have Hfin := Lib.hid hfin
        have hwi : IntKind.u64.wrap (kn : Int) = kn := IntWalk.u64_in _ (by omega)
        clear hfin
        go_wp2
        go_ret2
        exact Hfin.out
    · simp at h1
set_option maxRecDepth 100000 in
set_option maxHeartbeats 2000000 in
theorem read_bit (w : World) (p X : Nat) (s : RS) (h : IsRd w p s) (hX : blk w X = some (.cells #[.pointer (some ⟨p, 0, none⟩)] 91 (0, 0))) :
    Calls Try.prog 69 #[.pointer (some ⟨p, 0, none⟩), .func (.func 77) #[] #[.pointer (some ⟨X, 0, none⟩)]] w (RdPost w p (bitM s)) := by
  obtain ⟨l, c⟩ := s
  have h' := h
  obtain ⟨v, hp, hb⟩ := h'
  obtain ⟨y0, y1⟩ := box2 hp
  simp only at y1 hp
  by_cases hc : c = 0
  · subst hc
    have hnum := bool1_any w p X l h hX
    have hm : ∀ n t, bitR l = some (n, t) → bitM ⟨l, 0⟩ = (n, ⟨t, 0⟩) := fun n t e => by unfold bitM; simp only [if_true, e]
    have hm0 : bitR l = none → bitM ⟨l, 0⟩ = (0, ⟨[], 11⟩) := fun e => by unfold bitM; simp only [if_true, e]
    have Hnum := Lib.hid hnum
    have Hm := Lib.hid hm
    have Hm0 := Lib.hid hm0
    clear hnum hm hm0 h hp hb hX
    go_enter Try.func69, Try.ntmps69
    go_wp2_with fail
    refine Hnum.out.mono ?_
    rintro r w1 ⟨hx, hr⟩
    try simp only at hr
    cases hg : bitR l with
    | some nt =>
      obtain ⟨n, t⟩ := nt
      rw [hg] at hr
      obtain ⟨rfl, hrd⟩ := hr
      have hfin : RdPost w p (bitM ⟨l, 0⟩) (.returned (.int .u64 n)) w1 := by rw [Hm.out n t hg]; exact ⟨rfl, hrd, hx⟩
      have Hfin := Lib.hid hfin
      clear hfin hrd hx hg
      go_wp2
      go_ret
      exact Hfin.out
    | none =>
      rw [hg] at hr
      obtain ⟨rfl, l', hrd⟩ := hr
      obtain ⟨v1, hp1, _⟩ := hrd
      obtain ⟨z0, z1⟩ := box2 hp1
      have g0 := free_of_cells hp1 0
      have g1 := free_of_cells hp1 1
      have hlt := blk_lt hp1
      have hf := rd_fail hp1 11 rfl
      have hfin : RdPost w p (bitM ⟨l, 0⟩) (.returned (.int .u64 0)) ((w1.setCell ⟨p, 1, none⟩ (.int .i64 11)).setCell ⟨p, 0, none⟩ (.slice none 0 0)) := by rw [Hm0.out hg]; exact ⟨rfl, hf.1, hx.trans hf.2⟩
      have Hfin := Lib.hid hfin
      clear hfin hf hp1 hx hg
      go_wp2
      go_ret
      exact Hfin.out
  · have hc' : (c == 0) = false := by simpa using hc
    have hm : bitM ⟨l, c⟩ = (0, ⟨l, c⟩) := by unfold bitM; rw [if_neg hc]
    have hfin : RdPost w p (bitM ⟨l, c⟩) (.returned (.int .u64 0)) w := by rw [hm]; exact ⟨rfl, h, Ext.refl _ _⟩
    have Hfin := Lib.hid hfin
    clear hfin hm h hp hb hc hX
    go_enter Try.func69, Try.ntmps69
    go_wp2
    go_ret
    exact Hfin.out
def BoolPost (w : World) (p : Nat) (m : Nat × RS) (r : Ending) (w' : World) : Prop := r = .returned (.bool (decide (m.1 = 1))) ∧ IsRd w' p m.2 ∧ Ext (fun b => b = p) w w'
set_option maxRecDepth 100000 in
set_option maxHeartbeats 1000000 in
theorem bool_any (w : World) (p : Nat) (s : RS) (h : IsRd w p s) : Calls Try.prog 58 #[.pointer (some ⟨p, 0, none⟩)] w (BoolPost w p (bitM s)) := by
  obtain ⟨w1, hw1⟩ : ∃ w1, w1 = w.alloc (.cells #[.pointer (some ⟨p, 0, none⟩)] 91) := ⟨_, rfl⟩
  have hX : blk w1 w.heap.size = some (.cells #[.pointer (some ⟨p, 0, none⟩)] 91 (0, 0)) := by rw [hw1]; exact blk_alloc_at _ _
  have hx1 : Ext (fun _ => False) w w1 := by rw [hw1]; exact (Ext.refl _ w).alloc _
  have hr := read_bit w1 p w.heap.size s (h.keep hx1) hX
  have c0 : w1.cell? ⟨w.heap.size, 0, none⟩ = some (.pointer (some ⟨p, 0, none⟩)) := by simpa using cell_of_cells hX 0
  have Hr := Lib.hid hr
  have Hx1 := Lib.hid hx1
  obtain ⟨⟨n, s'⟩, hms⟩ : ∃ m, bitM s = m := ⟨_, rfl⟩
  rw [hms] at Hr ⊢
  clear hr hX hx1 h hms
  go_enter Try.func58, Try.ntmps58
  go_upto_region 1 with fail
  rw [← hw1]
  clear hw1
  go_wp2_with fail
  refine Hr.out.mono ?_
  rintro r w2 ⟨rfl, hrd, hx2⟩
  have Hfin := Lib.hid (And.intro hrd ((ext_any Hx1.out (fun b => b = p)).trans hx2))
  clear hrd hx2 c0
  go_wp2
  go_ret
  refine ⟨ret_bool ?_, Hfin.out⟩
  by_cases h1 : n = 1
  · subst h1; rfl
  · have h2 : ¬ (n : Int) = 1 := by omega
    simp [h1, h2]
end Go.Proofs.Ythipbmppmgkklaa
