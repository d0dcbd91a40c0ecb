/-
  The reference of package wire: Number, Text, Int append the same encodings, in new memory. Conditions: the slice reads as bytes; lengths bounded.
-/
import Derived.Test.YthligdgkhmgagaaWC
import Derived.Test.YthligdgkhmgagaaSN
namespace Go.Proofs.Ythligdgkhmgagaa
open Go.RowKit Go.MapKept
open Go.ChangeMaps (setBlock)

theorem nbytes_zero : nbytes 0 = 0 := by decide
theorem nbytes_of {n j : Nat} (h64 : n < 18446744073709551616) (h1 : n / 256 ^ j = 0) (h2 : j = 0 ∨ 0 < n / 256 ^ (j - 1)) : nbytes n = j := by
  induction j generalizing n with
  | zero => simp at h1; subst h1; exact nbytes_zero
  | succ j ih =>
    have h3 : 0 < n / 256 ^ j := h2.elim (fun h => by omega) id
    have h4 : n / 256 / 256 ^ j = 0 := by rw [Nat.div_div_eq_div_mul, Nat.mul_comm, ← Nat.pow_succ]; exact h1
    by_cases hn : n < 256
    · have hj : j = 0 := by
        cases j with
        | zero => rfl
        | succ j =>
          have : n / 256 ^ (j + 1) = 0 := Nat.div_eq_of_lt (Nat.lt_of_lt_of_le hn (by rw [Nat.pow_succ]; exact Nat.le_mul_of_pos_left _ (Nat.pow_pos (by omega))))
          omega
      subst hj
      simp at h3
      have hb : Lib.bitLen n ≤ 8 := Lib.bitLen_le8 ⟨n, hn⟩
      have hp : 1 ≤ Lib.bitLen n := by rw [Lib.bitLen_half n (by omega) (by omega)]; omega
      unfold nbytes; omega
    · have := ih (n := n / 256) (by omega) h4 (by
        cases j with
        | zero => exact .inl rfl
        | succ j =>
          refine .inr ?_
          simp only [Nat.add_sub_cancel]
          rw [Nat.div_div_eq_div_mul, Nat.mul_comm, ← Nat.pow_succ]; exact h3)
      unfold nbytes at *
      rw [Lib.bitLen_shift8 n (by omega) h64]
      omega
theorem bytes_len (l : List UInt8) : (l.map bv).length = l.length * 1 := by simp
theorem bytes_one (l : List UInt8) : ∀ u ∈ l.map bv, u.oneCell' = true := fun u hu => by
  obtain ⟨x, _, rfl⟩ := List.mem_map.1 hu
  rfl
/-- bytes as a source -/
theorem IsBytes.source {w : World} {v : Value} {l : List UInt8} (h : IsBytes w v l) : ∃ ao c, v = .slice ao l.length c ∧ (ao = none → c = 0) ∧ Lies w ao l.length (l.map bv) ∧ ∀ ad, ao = some ad → ad.block < w.heap.size := by
  rcases h.2 with ⟨h1, h2⟩ | ⟨g, c, cur, h1, _, h3, _⟩
  · exact ⟨none, 0, by rw [h1, h2], fun _ => rfl, .inl h2, (fun ad e => by cases e)⟩
  · refine ⟨some ⟨g, 0, none⟩, c, h1, (fun e => by cases e), .inr ⟨_, rfl, fun j u hu => ?_⟩, (fun ad e => by cases e; exact (Array.getElem?_eq_some_iff.1 h3).1)⟩
    subst h1
    exact World.ownsRow.cells h (g := g) rfl j u hu
theorem IsBytes.keep {w w' : World} {v : Value} {l : List UInt8} (h : IsBytes w v l) (hx : Ext (fun _ => False) w w') : IsBytes w' v l := ownsRow_keep h hx
/-- the post of such a call: the bytes, in new memory -/
def FreshPost (w : World) (l : List UInt8) (r : Ending) (w' : World) : Prop :=
  ∃ v', r = .returned v' ∧ IsBytes w' v' l ∧ Ext (fun _ => False) w w' ∧ ∀ g, v'.ownBlock = some g → w.heap.size ≤ g
theorem ext_fresh {w w' : World} (h : Ext (fun b => w.heap.size ≤ b) w w') : Ext (fun _ => False) w w' := h.mono (fun k hk e => absurd e (Nat.not_le.2 hk))
theorem wpList_append_bytes {w0 w : World} {ops : Array Oper} {rest : List Oper} {o : Oper} {a : Act} {Q : Exit → Act → World → Prop} (hgd : o.guard = none) (s x : Operand)
    (ho : o.op = .call { callee := .builtin .append, args := #[s, x], argTypes := #[80, 80] })
    (v : Value) (l : List UInt8) (hs : a.eval s = v) (hb : IsBytes w v l) (hx0 : Ext (fun b => w0.heap.size ≤ b) w0 w) (hv0 : ∀ g, v.ownBlock = some g → w0.heap.size ≤ g)
    (ao : Option Addr) (m c : Nat) (hx : a.eval x = .slice ao m c) (hc : ao = none → c = 0) (news : List UInt8) (hl : news.length = m) (hnews : Lies w ao m (news.map bv))
    (h63 : l.length + m ≤ 100000000000)
    (h : ∀ v' w', Hid (IsBytes w' v' (l ++ news)) → Hid (Ext (fun b => w0.heap.size ≤ b) w0 w') → Hid (∀ g, v'.ownBlock = some g → w0.heap.size ≤ g) → wpList Try.prog ops Q rest (a.put o.dst v') w') :
    wpList Try.prog ops Q (o :: rest) a w := by
  obtain ⟨i0, hi, hz0, hz1, hz2⟩ := info_parts Try.infoU8
  refine wpList_append_any (P := Try.prog) hgd s x 80 ho 0 5 i0 _ 1 1 Try.underlying80 hi hz0 hz1 hz2 rfl (by decide) v l.length (l.map bv) hs hb ao m c hc (news.map bv) hx (by simp [hl]) hnews (bytes_one _) (by simp only [maxLen]; omega) (by omega) (Nat.zero_le _) (fun v' w' hown hgrow hat => ?_)
  have hx' : Ext (fun b => w0.heap.size ≤ b) w0 w' := hx0.grown hgrow (fun k e _ => hv0 k e)
  refine h v' w' (Lib.hid ?_) (Lib.hid hx') (Lib.hid (own_step hat hv0 hx0.size))
  unfold IsBytes
  rw [List.length_append, List.map_append, hl]
  exact hown
theorem byte_mod (X : Nat) : Value.int .u8 ((X : Int) % 256) = bv (UInt8.ofNat X) := by
  unfold bv; congr 1
theorem byte_small (m : Nat) (h : m ≤ 255) : Value.int .u8 (m : Int) = bv (UInt8.ofNat m) := by
  unfold bv; congr 1; simp; omega
theorem bytes_new (w : World) (v : Value) (b : UInt8) (h : v = bv b) : IsBytes (w.alloc (.cells #[v] 5)) (.slice (some ⟨w.heap.size, 0, none⟩) 1 1) [b] := by
  subst h
  exact ⟨by simp, .inr ⟨w.heap.size, 1, #[bv b], rfl, Nat.zero_le _, blk_alloc_at w (.cells #[bv b] 5), Nat.le_refl _, by simp [maxLen], by simp, by simp⟩⟩
theorem bytes_lies_new (w : World) (v : Value) (b : UInt8) (h : v = bv b) : Lies (w.alloc (.cells #[v] 5)) (some ⟨w.heap.size, 0, none⟩) 1 ([b].map bv) := by
  subst h
  exact .inr ⟨_, rfl, cells_new ([b].map bv) _ rfl⟩
/-- the digits so far -/
structure Digits (w wr : World) (v : Value) (l : List UInt8) : Prop where
  bytes : IsBytes wr v l
  ext : Ext (fun b => w.heap.size ≤ b) w wr
  own : ∀ g, v.ownBlock = some g → w.heap.size ≤ g
theorem Digits.alloc {w wr : World} {v : Value} {l : List UInt8} (h : Digits w wr v l) (o : Obj) : Digits w (wr.alloc o) v l := ⟨h.bytes.alloc o, h.ext.alloc o, h.own⟩
theorem Digits.source {w wr : World} {a : Option Addr} {m c : Nat} {l : List UInt8} (h : Digits w wr (.slice a m c) l) : (a = none → c = 0) ∧ Lies wr a m (l.map bv) ∧ m = l.length := by
  obtain ⟨ao, c', e, h1, h2, _⟩ := h.bytes.source
  cases e
  exact ⟨h1, h2, rfl⟩
theorem wpList_append_digits {w0 w : World} {ops : Array Oper} {rest : List Oper} {o : Oper} {a : Act} {Q : Exit → Act → World → Prop} (hgd : o.guard = none) (s x : Operand)
    (ho : o.op = .call { callee := .builtin .append, args := #[s, x], argTypes := #[80, 80] })
    (v : Value) (l : List UInt8) (hs : a.eval s = v) (hb : Digits w0 w v l)
    (ao : Option Addr) (m c : Nat) (hx : a.eval x = .slice ao m c) (hc : ao = none → c = 0) (news : List UInt8) (hl : news.length = m) (hnews : Lies w ao m (news.map bv))
    (h63 : l.length + m ≤ 100000000000)
    (h : ∀ a' m' c' w', Hid (Digits w0 w' (.slice a' m' c') (l ++ news)) → wpList Try.prog ops Q rest (a.put o.dst (.slice a' m' c')) w') :
    wpList Try.prog ops Q (o :: rest) a w := by
  refine wpList_append_bytes hgd s x ho v l hs hb.bytes hb.ext hb.own ao m c hx hc news hl hnews h63 (fun v' w' h1 h2 h3 => ?_)
  obtain ⟨a', c', rfl⟩ := h1.out.shape
  exact h a' _ c' w' (Lib.hid ⟨h1.out, h2.out, h3.out⟩)
/-- a source that lay there before -/
theorem Digits.lies {w wr : World} {v : Value} {l : List UInt8} (h : Digits w wr v l) {ao : Option Addr} {m : Nat} {news : List UInt8} (hl : Lies w ao m (news.map bv)) (hm : news.length = m) (hb : ∀ ad, ao = some ad → ad.block < w.heap.size) : Lies wr ao m (news.map bv) :=
  hl.ext h.ext (fun ad e _ => Nat.not_le.2 (hb ad e)) (by rw [List.length_map, hm]; omega)
set_option maxRecDepth 100000 in
set_option maxHeartbeats 2000000 in
theorem rnumber_any (w : World) (v : Value) (l : List UInt8) (n : Nat) (hb : IsBytes w v l) (hn : n ≤ 18446744073709551615) (hl : l.length ≤ 1073741824) :
    Calls Try.prog 62 #[v, .int .u64 n] w (FreshPost w (l ++ encNum n)) := by
  obtain ⟨ao, cap, rfl, hc, hL, hgl⟩ := hb.source
  have HL := Lib.hid hL
  have Hc := Lib.hid hc
  have Hgl := Lib.hid hgl
  clear hb hL hc hgl
  go_enter Try.func62, Try.ntmps62
  go_wp2_with fail
  have H0 : Hid (Digits w (w.alloc (.cells #[] 5)) (.slice (some ⟨w.heap.size, 0, none⟩) 0 0) (beB 0 n)) := Lib.hid ⟨ownsRow_empty 1 (blk_alloc_at w (.cells #[] 5)), (Ext.refl _ w).alloc _, fun g e => Nat.le_of_eq (Option.some.inj e)⟩
  go_loopg [5, 6] 9 (fun g v5 v6 wr => ∃ (j X : Nat), j ≤ 8 ∧ g = 9 - j ∧ Hid (X = n / 256 ^ j) ∧ v6 = .int .u64 X ∧ X ≤ 18446744073709551615 ∧ Hid (j = 0 ∨ 0 < n / 256 ^ (j - 1)) ∧ ∃ a m c, v5 = .slice a m c ∧ Hid (Digits w wr (.slice a m c) (beB j n)))
  case atStart => exact ⟨0, n, by omega, rfl, Lib.hid (by simp), rfl, hn, Lib.hid (.inl rfl), _, _, _, rfl, H0⟩
  case round =>
    obtain ⟨j, X, hj, rfl, HX, rfl, hXb, hpos, a5, m5, c5, rfl, H5⟩ := hrel
    clear H0
    obtain ⟨hc5, hl5, hm5⟩ := H5.out.source
    rw [beB_length] at hm5
    have hm58 : m5 ≤ 8 := by omega
    have Hc5 := Lib.hid hc5
    have Hl5 := Lib.hid hl5
    have Hm5 := Lib.hid hm5
    clear hc5 hl5 hm5
    by_cases hX0 : X = 0
    · have hnb : nbytes n = j := nbytes_of (by omega) (by rw [← HX.out]; exact hX0) hpos.out
      have Hnb := Lib.hid hnb
      have hX1 : ¬ (0 : Int) < (X : Int) := by omega
      clear hnb hX0
      have hb6 : Digits wr (wr.alloc (.cells #[] 5)) (.slice (some ⟨wr.heap.size, 0, none⟩) 0 0) [] := ⟨ownsRow_empty 1 (blk_alloc_at wr (.cells #[] 5)), (Ext.refl _ wr).alloc _, fun g e => Nat.le_of_eq (Option.some.inj e)⟩
      have Hb6 := Lib.hid hb6
      have hLr := H5.out.lies HL.out rfl Hgl.out
      have hgr : ∀ ad, ao = some ad → ad.block < wr.heap.size := fun ad e => Nat.lt_of_lt_of_le (Hgl.out ad e) H5.out.ext.size
      have hg5 : ∀ ad, a5 = some ad → ad.block < wr.heap.size := fun ad e => by
        obtain ⟨ao', c', e', _, _, h⟩ := H5.out.bytes.source
        cases e'
        exact h ad e
      have hbd : [] ++ l ++ [UInt8.ofNat m5] ++ beB j n = l ++ encNum n := by unfold encNum; rw [Hnb.out, Hm5.out]; simp
      have HLr := Lib.hid hLr
      have Hgr := Lib.hid hgr
      have Hg5 := Lib.hid hg5
      have Hbd := Lib.hid hbd
      clear hb6 hLr hgr hg5 hbd
      go_wp2_with (first
        | (at_builtin; refine wpList_append_digits rfl (.tmp 19) (.tmp 20) rfl _ [] rfl Hb6.out ao l.length cap rfl Hc.out l rfl (Hb6.out.lies HLr.out rfl Hgr.out) (by simp; omega) ?_; intro a7 m7 c7 w7 H7)
        | (at_builtin; refine wpList_append_digits rfl (.tmp 21) (.tmp 25) rfl _ _ rfl (H7.out.alloc _) _ 1 1 rfl (fun e => (by cases e)) [UInt8.ofNat m5] rfl (bytes_lies_new _ _ _ (byte_small m5 (by omega))) (by simp; omega) ?_; intro a8 m8 c8 w8 H8)
        | (at_builtin; refine wpList_append_digits rfl (.tmp 26) (.tmp 27) rfl _ _ rfl H8.out a5 m5 c5 rfl Hc5.out (beB j n) (by rw [beB_length]; exact Hm5.out.symm) (H8.out.lies Hl5.out (by rw [beB_length]; exact Hm5.out.symm) Hg5.out) (by simp [beB_length]; omega) ?_; intro a9 m9 c9 w9 H9; rw [Hbd.out] at H9))
      go_ret
      exact ⟨_, rfl, H9.out.bytes, ext_fresh (H5.out.ext.trans' H9.out.ext (fun k hk e => absurd hk (by have := H5.out.ext.size; have : wr.heap.size ≤ k := e; omega))), fun g e => Nat.le_trans H5.out.ext.size (H9.out.own g e)⟩
    · have hX1 : (0 : Int) < (X : Int) := by omega
      have hj7 : j ≤ 7 := by
        by_cases e : j = 8
        · subst e
          have := HX.out
          rw [Nat.div_eq_of_lt (by omega)] at this
          exact absurd this hX0
        · omega
      have hX2 : X / 256 = n / 256 ^ (j + 1) := by rw [HX.out, Nat.div_div_eq_div_mul, Nat.pow_succ]
      have hbe : [UInt8.ofNat X] ++ beB j n = beB (j + 1) n := by rw [HX.out]; rfl
      have hpos' : 0 < n / 256 ^ (j + 1 - 1) := by have := HX.out; rw [Nat.add_sub_cancel]; omega
      have HX2 := Lib.hid hX2
      have Hbe := Lib.hid hbe
      have Hpos' := Lib.hid hpos'
      clear hX2 hbe hpos'
      have hb6 : Digits w (wr.alloc (.cells #[.int .u8 ((X : Int) % 256)] 5)) (.slice (some ⟨wr.heap.size, 0, none⟩) 1 1) [UInt8.ofNat X] := ⟨bytes_new wr _ _ (byte_mod X), H5.out.ext.alloc _, fun g e => (by have := H5.out.ext.size; have : wr.heap.size = g := Option.some.inj e; omega)⟩
      have Hb6 := Lib.hid hb6
      have hl6 := (H5.out.alloc (.cells #[.int .u8 ((X : Int) % 256)] 5)).source.2.1
      have Hl6 := Lib.hid hl6
      clear hb6 hl6
      go_wp2_with (at_builtin; refine wpList_append_digits rfl (.tmp 16) (.tmp 17) rfl _ _ rfl Hb6.out a5 m5 c5 rfl Hc5.out (beB j n) (by rw [beB_length]; exact Hm5.out.symm) Hl6.out (by simp; omega) ?_; intro a7 m7 c7 w7 H7; rw [Hbe.out] at H7)
      go_roundg (9 - (j + 1))
      case measure => omega
      case rel => exact ⟨j + 1, X / 256, by omega, rfl, HX2, by go_num, by omega, Lib.hid (.inr Hpos'.out), a7, m7, c7, rfl, H7⟩
end Go.Proofs.Ythligdgkhmgagaa
