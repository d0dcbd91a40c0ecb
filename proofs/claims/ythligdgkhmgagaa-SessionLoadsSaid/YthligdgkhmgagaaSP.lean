/-
  The reference of package session: Note: the steps of its appends. Conditions: none beyond IsRef.
-/
import Derived.Test.YthligdgkhmgagaaSO
import Derived.Deep.AppendLies
namespace Go.Proofs.Ythligdgkhmgagaa
open Go.RowKit Go.MapKept
open Go.ChangeMaps (setBlock)

theorem Try.infoStep : (Try.prog.info? 104).map (fun i => (i.zero, i.size, i.bytes)) = some (some (.agg #[.int .i64 0, .int .i64 0]), 2, 16) := by kernel_rfl
def posS (S : List (Int × Int)) (s : Int) : Nat := (kpre leI S s).length
theorem iput_sS {st : List (Int × Int)} (hn : (st.map Prod.fst).Nodup) (s c : Int) (h : iget st s = none) :
    ksort leI (iput st s c) = (ksort leI st).take (posS (ksort leI st) s) ++ (s, c) :: (ksort leI st).drop (posS (ksort leI st) s) := by
  have h1 : ksort leI (iput st s c) = kpre leI (ksort leI st) s ++ (s, c) :: krest leI (ksort leI st) s := by
    rw [iput_k]; exact ksort_kput linI hn s c
  have h2 : (ksort leI st).take (posS (ksort leI st) s) = kpre leI (ksort leI st) s := kpre_take _ _
  rw [h1, h2]
  rcases krest_eq linI (ksort_lt linI hn) s with ⟨a, b, _⟩ | ⟨v, a, b, d⟩
  · rw [b]; rfl
  · rw [kget_ksort hn, ← iget_k, h] at a; cases a
/-- the loop's end: the place is found -/
theorem posS_step {S : List (Int × Int)} {s : Int} {j : Nat} (h : ∀ i p, i < j → S[i]? = some p → p.1 < s) (hj : j ≤ S.length) (hend : ∀ p, S[j]? = some p → ¬ p.1 < s) : posS S s = j :=
  kpre_step (fun i p hi hp => by have := h i p hi hp; unfold leI; simp; omega) hj (fun p hp => by have := hend p hp; unfold leI; simp; omega)
theorem two_new (w : World) (o o' : Obj) : blk ((w.alloc o).alloc o').drew w.heap.size = some o ∧ blk ((w.alloc o).alloc o').drew (w.heap.size + 1) = some o' :=
  ⟨(blk_alloc_past _ _ _ (by simp)).trans (blk_alloc_at _ _), (show blk ((w.alloc o).alloc o') (w.heap.size + 1) = some o' by simpa using blk_alloc_at (w.alloc o) o')⟩
/-- a row that grows in new memory, beside a block that holds the new row's one element -/
structure Grows (wr w : World) (v : Value) (n : Nat) (xs : List Value) (xb : Option Nat) (X : Obj) : Prop where
  ext : Ext (fun b => wr.heap.size ≤ b) wr w
  size : wr.heap.size < w.heap.size
  own : ∀ g, v.ownBlock = some g → wr.heap.size ≤ g
  row : w.ownsRow 0 104 2 v n xs
  x : ∀ b, xb = some b → blk w b = some X ∧ v.ownBlock ≠ some b
theorem grows_a (wr : World) (X : Obj) : Grows wr (wr.alloc (.cells #[] 104)).drew (.slice (some ⟨wr.heap.size, 0, none⟩) 0 0) 0 [] none X :=
  ⟨((Ext.refl _ wr).alloc _).drew, by simp, fun g e => Nat.le_of_eq (Option.some.inj e), (ownsRow_empty 2 (blk_alloc_at wr (.cells #[] 104))).drew, fun b e => by cases e⟩
theorem grows_b (wr : World) (X : Obj) : Grows wr ((wr.alloc (.cells #[] 104)).alloc X).drew (.slice (some ⟨wr.heap.size, 0, none⟩) 0 0) 0 [] (some (wr.heap.size + 1)) X :=
  ⟨(((Ext.refl _ wr).alloc _).alloc _).drew, by simp; omega, fun g e => Nat.le_of_eq (Option.some.inj e), ownsRow_empty 2 (two_new wr _ X).1, fun b e => by cases e; exact ⟨(two_new wr _ X).2, fun e => by have := Option.some.inj e; simp at this⟩⟩
theorem grows_c (wr : World) (X : Obj) : Grows wr ((wr.alloc X).alloc (.cells #[] 104)).drew (.slice (some ⟨wr.heap.size + 1, 0, none⟩) 0 0) 0 [] (some wr.heap.size) X :=
  ⟨(((Ext.refl _ wr).alloc _).alloc _).drew, by simp; omega, fun g e => by have : wr.heap.size + 1 = g := Option.some.inj e; omega, ownsRow_empty 2 (two_new wr X _).2, fun b e => by cases e; exact ⟨(two_new wr X _).1, fun e => by have : wr.heap.size + 1 = wr.heap.size := Option.some.inj e; omega⟩⟩
theorem Grows.alloc {wr w : World} {v : Value} {n : Nat} {xs : List Value} {xb : Option Nat} {X : Obj} (h : Grows wr w v n xs xb X) (o : Obj) : Grows wr (w.alloc o) v n xs xb X :=
  ⟨h.ext.alloc o, by have := h.size; simp; omega, h.own, h.row.alloc o, fun b e => ⟨(blk_alloc_past _ _ _ (blk_lt (h.x b e).1)).trans (h.x b e).1, (h.x b e).2⟩⟩
theorem Grows.lies {wr w : World} {v : Value} {n : Nat} {xs : List Value} {xb : Option Nat} {X : Obj} (h : Grows wr w v n xs xb X) {ao : Option Addr} {m : Nat} {news : List Value} (hl : Lies wr ao m news) (hb : ∀ ad, ao = some ad → ad.block < wr.heap.size) (hp : m = 0 ∨ 0 < news.length) : Lies w ao m news :=
  hl.ext h.ext (fun ad e _ => Nat.not_le.2 (hb ad e)) hp
theorem Grows.xlies {wr w : World} {v : Value} {n : Nat} {xs : List Value} {b : Nat} {cs : List Value} {t : TypeId} (h : Grows wr w v n xs (some b) (.cells cs.toArray t)) (m : Nat) : Lies w (some ⟨b, 0, none⟩) m cs :=
  .inr ⟨_, rfl, fun j u hu => World.news_of_block (cs := cs.toArray) (h.x b rfl).1 j u (by simpa using hu)⟩
theorem Grows.cell {wr w : World} {v : Value} {n : Nat} {xs : List Value} {xb : Option Nat} {X : Obj} (h : Grows wr w v n xs xb X) {p : Addr} {u : Value} (hp : wr.cell? p = some u) : w.cell? p = some u ∧ p.block < w.heap.size := by
  have hlt := World.block_lt_of_cell? wr p hp
  exact ⟨(h.ext.cell hlt (Nat.not_le.2 hlt)).trans hp, Nat.lt_trans hlt h.size⟩
/-- one append -/
theorem step_grows {wr w : World} {ops : Array Oper} {o : Oper} {a : Act} {K : Act → World → Prop} {Q : Exit → Act → World → Prop} {E : Prop} (hgd : o.guard = none) (s x : Operand)
    (ho : o.op = .call { callee := .builtin .append, args := #[s, x], argTypes := #[37, 37] })
    (v : Value) (n : Nat) (xs : List Value) (xb : Option Nat) (X : Obj) (hs : a.eval s = v) (H : Grows wr w v n xs xb X)
    (ao : Option Addr) (m c : Nat) (hx : a.eval x = .slice ao m c) (hc : ao = none → c = 0) (news : List Value) (hl : news.length = m * 2) (hnews : Lies w ao m news) (h1 : ∀ u ∈ news, u.oneCell' = true)
    (h63 : n + m ≤ 10000000)
    (h : ∀ a' m' c' w', m' ≤ n + m → Hid (Grows wr w' (.slice a' m' c') m' (xs ++ news) xb X) → K (a.put o.dst (.slice a' m' c')) w') :
    if Region.wanted o (yielded ops a.tmps) = true then Oper.wp Try.prog o a w K Q else E := by
  obtain ⟨i0, hi, hz0, hz1, hz2⟩ := info_parts Try.infoStep
  refine step_append_any (P := Try.prog) hgd s x 37 ho 0 104 i0 _ 2 16 Try.underlying37 hi hz0 hz1 hz2 rfl (by decide) v n xs hs H.row ao m c hc news hx hl hnews h1 (by simp only [maxLen]; omega) (by omega) (Nat.zero_le _) (fun v' w' hown hgrow hat => ?_)
  obtain ⟨a', c', rfl⟩ := ownsRow_shape hown
  have hv : ∀ g, (Value.slice a' (n + m) c').ownBlock = some g → wr.heap.size ≤ g := own_step hat H.own (Nat.le_of_lt H.size)
  refine h a' (n + m) c' w' (Nat.le_refl _) (Lib.hid ⟨H.ext.grown hgrow (fun k e _ => H.own k e), Nat.lt_of_lt_of_le H.size hgrow.size, hv, hown, fun b e => ?_⟩)
  obtain ⟨hb, hne⟩ := H.x b e
  refine ⟨(hgrow.block b (blk_lt hb) (Ne.symm hne)).trans hb, fun e' => ?_⟩
  rcases hat with h | h
  · exact hne (h.symm.trans e')
  · rw [h] at e'
    have := Option.some.inj e'
    have := blk_lt hb
    omega
/-- one append of a source that lay there before -/
theorem step_grows1 {wr w : World} {ops : Array Oper} {o : Oper} {a : Act} {K : Act → World → Prop} {Q : Exit → Act → World → Prop} {E : Prop} (hgd : o.guard = none) (s x : Operand)
    (ho : o.op = .call { callee := .builtin .append, args := #[s, x], argTypes := #[37, 37] })
    (v : Value) (n : Nat) (xs : List Value) (xb : Option Nat) (X : Obj) (hs : a.eval s = v) (H : Grows wr w v n xs xb X)
    (ao : Option Addr) (m c : Nat) (hx : a.eval x = .slice ao m c) (hc : ao = none → c = 0) (news : List Value) (hl : news.length = m * 2) (hnews : Lies wr ao m news) (hb : ∀ ad, ao = some ad → ad.block < wr.heap.size) (h1 : ∀ u ∈ news, u.oneCell' = true)
    (h63 : n + m ≤ 10000000)
    (h : ∀ a' m' c' w', m' ≤ n + m → Hid (Grows wr w' (.slice a' m' c') m' (xs ++ news) xb X) → K (a.put o.dst (.slice a' m' c')) w') :
    if Region.wanted o (yielded ops a.tmps) = true then Oper.wp Try.prog o a w K Q else E :=
  step_grows hgd s x ho v n xs xb X hs H ao m c hx hc news hl (H.lies hnews hb (by rw [hl]; omega)) h1 h63 h
/-- what the region leaves: the box's third cell holds the new row -/
def Laid (wr : World) (box : Nat) (S' : List (Int × Int)) (wx : World) : Prop :=
  ∃ w7 a7 m7 p7, wx = w7.setCell ⟨box, 2, none⟩ (.slice a7 m7 p7) ∧ Ext (fun b => wr.heap.size ≤ b) wr w7 ∧ w7.ownsRow 0 104 2 (.slice a7 m7 p7) m7 (S'.flatMap cellsS)
theorem Grows.laid {wr w7 : World} {a7 : Option Addr} {m7 p7 j box : Nat} {S : List (Int × Int)} {s c : Int} {xs : List Value} {xb : Option Nat} {X : Obj} (h : Grows wr w7 (.slice a7 m7 p7) m7 xs xb X) (hxs : xs = [] ++ (S.take j).flatMap cellsS ++ cellsS (s, c) ++ (S.drop j).flatMap cellsS) :
    Laid wr box (S.take j ++ (s, c) :: S.drop j) (w7.setCell ⟨box, 2, none⟩ (.slice a7 m7 p7)) :=
  ⟨w7, a7, m7, p7, rfl, h.ext, by have := h.row; rw [hxs] at this; simpa using this⟩
end Go.Proofs.Ythligdgkhmgagaa
