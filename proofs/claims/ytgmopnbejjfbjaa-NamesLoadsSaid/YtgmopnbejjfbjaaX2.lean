/-
  (*Resolver).Keep keeps what keepL says, and turns no block but its map's. Conditions: the resolver stands as IsRes says.
-/
import Derived.Test.YtgmopnbejjfbjaaX1
namespace Go.Proofs.Ytgmopnbejjfbjaa
open Go.RowKit Go.MapKept
open Go.ChangeMaps (setBlock)

structure Ent where
  n : ByteArray
  e : Int
  a : Int
  t : Int
structure KV where
  x : Ent
  k : Int
def KV.v (y : KV) : Value := .agg #[.string y.x.n, .int .i64 y.x.e, .int .i64 y.x.a, .int .i64 y.x.t, .int .i64 y.k]
def Ent.v (y : Ent) : Value := .agg #[.string y.n, .int .i64 y.e, .int .i64 y.a, .int .i64 y.t]

theorem zero89 (w : World) : (zeroValue 89).run Try.prog w = .ok (.agg #[.string .empty, .int .i64 0, .int .i64 0, .int .i64 0, .int .i64 0]) w := by kernel_rfl

/-- the resolver at rb, its map's block mb: it keeps l -/
def IsRes (w : World) (rb mb : Nat) (l : List (ByteArray × Value)) : Prop :=
  blk w rb = some (.cells #[.map (some mb)] 87 (0, 0)) ∧ ∃ es clock, blk w mb = some (.map es clock) ∧ StrMap es l

theorem IsRes.lt {w : World} {rb mb : Nat} {l} (h : IsRes w rb mb l) : rb < w.heap.size ∧ mb < w.heap.size := by
  obtain ⟨h1, es, c, h2, _⟩ := h
  exact ⟨blk_lt h1, blk_lt h2⟩
theorem IsRes.ne {w : World} {rb mb : Nat} {l} (h : IsRes w rb mb l) : rb ≠ mb := by
  obtain ⟨h1, es, c, h2, _⟩ := h
  intro e; subst e; rw [h1] at h2; cases h2
theorem IsRes.ext {w w' : World} {rb mb : Nat} {l} {S : Nat → Prop} (h : IsRes w rb mb l) (hx : Ext S w w') (h1 : ¬ S rb) (h2 : ¬ S mb) : IsRes w' rb mb l := by
  have ⟨l1, l2⟩ := h.lt
  obtain ⟨g1, es, c, g2, g3⟩ := h
  exact ⟨(hx.blk l1 h1).trans g1, es, c, (hx.blk l2 h2).trans g2, g3⟩
theorem IsRes.put {w w1 : World} {rb mb : Nat} {l l' : List (ByteArray × Value)} {es' : Array MapEntry} {clock' : Nat} (h : IsRes w rb mb l) (hx : Ext (fun _ => False) w w1) (hl : StrMap es' l') :
    IsRes (setBlock w1 mb (.map es' clock')) rb mb l' := by
  have hne := h.ne
  obtain ⟨g1, es, c, g2, g3⟩ := h.ext hx id id
  exact ⟨(blk_setBlock_other _ _ _ _ hne).trans g1, es', clock', blk_setBlock_same g2 _, hl⟩

def kvs (l : List (ByteArray × KV)) : List (ByteArray × Value) := l.map fun p => (p.1, p.2.v)
theorem assoc_kvs (l : List (ByteArray × KV)) (s : ByteArray) : assoc (kvs l) s = (assoc l s).map KV.v := by
  induction l with
  | nil => rfl
  | cons p r ih =>
    obtain ⟨k, v⟩ := p
    simp only [kvs, List.map_cons, assoc] at *
    by_cases h : k = s
    · simp [h]
    · simp [h, ih]
theorem aput_kvs (l : List (ByteArray × KV)) (s : ByteArray) (v : KV) : aput (kvs l) s v.v = kvs (aput l s v) := by
  induction l with
  | nil => rfl
  | cons p r ih =>
    obtain ⟨k, u⟩ := p
    simp only [kvs, List.map_cons, aput] at *
    by_cases h : k = s
    · simp [h]
    · simp [h, ih]
def keepB (l : List (ByteArray × KV)) (x : KV) : Bool :=
  match assoc l x.x.n with
  | some y => decide (orI (cmpI y.x.e x.x.e) (cmpI y.k x.k) < 0)
  | none => true
def keepL (l : List (ByteArray × KV)) (x : KV) : List (ByteArray × KV) := if keepB l x then aput l x.x.n x else l

theorem zero89' (w : World) : (zeroValue 89).run Try.prog w = .ok (.agg #[.string .empty, .int .i64 0, .int .i64 0, .int .i64 0, .int .i64 0]) w := by kernel_rfl

def KeepPost (w : World) (rb mb : Nat) (l : List (ByteArray × KV)) (x : KV) (r : Ending) (w' : World) : Prop :=
  r = .returned (.tuple #[]) ∧ IsRes w' rb mb (kvs (keepL l x)) ∧ Ext (fun b => b = mb) w w'

set_option maxHeartbeats 400000 in
theorem keep_none (rb mb : Nat) (w : World) (l : List (ByteArray × KV)) (hR : IsRes w rb mb (kvs l))
   (n : ByteArray) (e a t k : Int) (hn : assoc l n = none) :
    Calls Try.prog 11 #[.pointer (some ⟨rb, 0, none⟩), .agg #[.string n, .int .i64 e, .int .i64 a, .int .i64 t], .int .i64 k] w (KeepPost w rb mb l ⟨⟨n, e, a, t⟩, k⟩) := by
  have hfin : kvs (keepL l ⟨⟨n, e, a, t⟩, k⟩) = aput (kvs l) n (KV.v ⟨⟨n, e, a, t⟩, k⟩) := by rw [aput_kvs]; simp [keepL, keepB, hn]
  have ⟨hc, es, clock, hm, hl⟩ := hR
  obtain ⟨es', clock', hup, hup'⟩ := run_update_str (P := Try.prog) (b := mb) (clock := clock) Try.underlying85 Try.underlying9 hl n (KV.v ⟨⟨n, e, a, t⟩, k⟩)
  simp only [KV.v] at hup
  have hlk : ∀ W : World, blk W mb = some (.map es clock) → (Instr.lookup 85 (.map (some mb)) (.string n) true).run Try.prog W = .ok (.tuple #[.agg #[.string .empty, .int .i64 0, .int .i64 0, .int .i64 0, .int .i64 0], .bool false]) W := fun W hW => by
    have := run_lookup_str (P := Try.prog) Try.underlying85 Try.underlying9 hW hl (zero89' W) n true
    simpa [assoc_kvs, hn] using this
  have hrb := blk_lt hc
  have hmb := blk_lt hm
  obtain ⟨e0, e1, e2, e3, e4, e5⟩ := ne_sizes hmb
  have hc0 := cell_of_cells hc 0
  simp at hc0
  have H1 := Lib.hid hfin
  have H2 := Lib.hid hup'
  have H3 := Lib.hid hR
  clear hn hup' hc hl hR hfin
  go_enter Try.func11, Try.ntmps11
  go_wp2
  go_region
  go_wp2
  go_region
  go_wp2
  go_region
  go_wp2
  go_end0
  refine ⟨rfl, ?_, ?_⟩
  · rw [H1.out]
    exact H3.out.put (by repeat (first | exact Ext.refl _ _ | apply Ext.drew | apply Ext.alloc)) H2.out
  · exact Ext.setBlock (by repeat (first | exact Ext.refl _ _ | apply Ext.drew | apply Ext.alloc)) _ _ (fun _ => rfl)

set_option maxRecDepth 100000 in
set_option maxHeartbeats 1000000 in
theorem keep_some (rb mb : Nat) (w : World) (l : List (ByteArray × KV)) (hR : IsRes w rb mb (kvs l))
   (n : ByteArray) (e a t k : Int) (n0 : ByteArray) (e0 a0 t0 k0 : Int) (hn : assoc l n = some ⟨⟨n0, e0, a0, t0⟩, k0⟩) :
    Calls Try.prog 11 #[.pointer (some ⟨rb, 0, none⟩), .agg #[.string n, .int .i64 e, .int .i64 a, .int .i64 t], .int .i64 k] w (KeepPost w rb mb l ⟨⟨n, e, a, t⟩, k⟩) := by
  have ⟨hc, es, clock, hm, hl⟩ := hR
  obtain ⟨es', clock', hup, hup'⟩ := run_update_str (P := Try.prog) (b := mb) (clock := clock) Try.underlying85 Try.underlying9 hl n (KV.v ⟨⟨n, e, a, t⟩, k⟩)
  simp only [KV.v] at hup
  have hlk : ∀ W : World, blk W mb = some (.map es clock) → (Instr.lookup 85 (.map (some mb)) (.string n) true).run Try.prog W = .ok (.tuple #[.agg #[.string n0, .int .i64 e0, .int .i64 a0, .int .i64 t0, .int .i64 k0], .bool true]) W := fun W hW => by
    have := run_lookup_str (P := Try.prog) Try.underlying85 Try.underlying9 hW hl (zero89' W) n true
    simpa [assoc_kvs, hn, KV.v] using this
  have hrb := blk_lt hc
  have hmb := blk_lt hm
  obtain ⟨f0, f1, f2, f3, f4, f5⟩ := ne_sizes hmb
  obtain ⟨g1, g2, g3, _⟩ := lt_sizes hrb
  have hc0 := cell_of_cells hc 0
  simp at hc0
  have hfin : kvs (keepL l ⟨⟨n, e, a, t⟩, k⟩) = if orI (cmpI e0 e) (cmpI k0 k) < 0 then aput (kvs l) n (KV.v ⟨⟨n, e, a, t⟩, k⟩) else kvs l := by
    rw [aput_kvs]; simp only [keepL, keepB, hn, decide_eq_true_eq]; split <;> rfl
  have H1 := Lib.hid hfin
  have H2 := Lib.hid hup'
  have H3 := Lib.hid hR
  clear hn hup' hc hl hR hfin
  go_enter Try.func11, Try.ntmps11
  go_wp2
  go_region
  go_wp2
  refine wp_region_tail 13 (by kernel_rfl) (by kernel_rfl) ?_
  simp only [List.take_succ_cons, List.take_zero, List.drop_succ_cons, List.drop_zero]
  repeat still_step
  still_call (compare_any _ _ _)
  repeat still_step
  still_call (compare_any _ _ _)
  repeat still_step
  refine wpStill_nil ?_
  go_wp2_with fail
  refine (or_any (cmpI e0 e) (cmpI k0 k) _ _ ?_ ?_).mono ?_
  · simp [go_sem]
  · simp [go_sem]
  rintro r w' ⟨rfl, rfl⟩
  go_wp2
  · go_region
    go_wp2
    go_end0
    refine ⟨rfl, ?_, ?_⟩
    · rw [H1.out, if_pos (by assumption)]
      exact H3.out.put (by repeat (first | exact Ext.refl _ _ | apply Ext.drew | apply Ext.alloc)) H2.out
    · exact Ext.setBlock (by repeat (first | exact Ext.refl _ _ | apply Ext.drew | apply Ext.alloc)) _ _ (fun _ => rfl)
  · go_end0
    refine ⟨rfl, ?_, ?_⟩
    · rw [H1.out, if_neg (by omega)]
      exact H3.out.ext (S := fun _ => False) (by repeat (first | exact Ext.refl _ _ | apply Ext.drew | apply Ext.alloc)) id id
    · repeat (first | exact Ext.refl _ _ | apply Ext.drew | apply Ext.alloc)

theorem keep_any (rb mb : Nat) (w : World) (l : List (ByteArray × KV)) (hR : IsRes w rb mb (kvs l)) (x : KV) :
    Calls Try.prog 11 #[.pointer (some ⟨rb, 0, none⟩), x.x.v, .int .i64 x.k] w (KeepPost w rb mb l x) := by
  obtain ⟨⟨n, e, a, t⟩, k⟩ := x
  cases hn : assoc l n with
  | none => exact keep_none rb mb w l hR n e a t k hn
  | some y =>
    obtain ⟨⟨n0, e0, a0, t0⟩, k0⟩ := y
    exact keep_some rb mb w l hR n e a t k n0 e0 a0 t0 k0 hn
end Go.Proofs.Ytgmopnbejjfbjaa
