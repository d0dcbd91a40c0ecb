/-
  The reference of package names: Load: by value; what stands while it reads. Conditions: none beyond each lemma's own.
-/
import Derived.Test.YtgmopnbejjfbjaaR34
namespace Go.Proofs.Ytgmopnbejjfbjaa
open Go.RowKit Go.MapKept
open Go.ChangeMaps (setBlock)

def refStep (s : RS) : RS := (rnumM 0 1099511627777 (rnumM 1 65536 (rnumM 1 1099511627776 s).2).2).2
def refEps : Nat → RS → RS
  | 0, s => s
  | k + 1, s => if s.c = 0 then refEps k (refStep s) else s
def refRows : Nat → ByteArray → RS → Bool
  | 0, _, s => decide (endM s = 0)
  | k + 1, last, s =>
    if (refEps (rnumM 1 1024 (textM s).2).1 (rnumM 1 1024 (textM s).2).2).c = 0 ∧ isNameB (ofL (textM s).1) = true ∧ leS (ofL (textM s).1) last = false then
      refRows k (ofL (textM s).1) (refEps (rnumM 1 1024 (textM s).2).1 (rnumM 1 1024 (textM s).2).2)
    else false
def refLoad (b : ByteArray) : Bool := refRows (countM b.size ⟨b.data.toList, 0⟩).1 { data := #[] } (countM b.size ⟨b.data.toList, 0⟩).2
theorem refEps_err {k : Nat} {s : RS} (h : ¬ s.c = 0) : refEps k s = s := by
  cases k with
  | zero => rfl
  | succ k => unfold refEps; rw [if_neg h]
theorem refEps_ok {k : Nat} {s : RS} (h : s.c = 0) : refEps (k + 1) s = refEps k (refStep s) := by
  conv => lhs; unfold refEps
  rw [if_pos h]
/-- the reader's box -/
def IsRB (w : World) (B : Nat) (s : RS) : Prop := ∃ v, blk w B = some (.cells #[v, .int .i64 s.c] 128 (0, 0)) ∧ BytesAt w v s.l
theorem IsRB.ext {w w' : World} {p : Nat} {s : RS} {S : Nat → Prop} (h : IsRB w p s) (hx : Ext S w w') (h0 : ¬ S p) (hn : ∀ g cur, U8 w g cur → ¬ S g) : IsRB w' p s := by
  obtain ⟨v, hp, hv⟩ := h
  exact ⟨v, (hx.blk (blk_lt hp) h0).trans hp, hv.ext hx hn⟩
theorem IsRB.keep {w w' : World} {p : Nat} {s : RS} (h : IsRB w p s) (hx : Ext (fun _ => False) w w') : IsRB w' p s := h.ext hx id (fun _ _ _ h => h)
/-- the reader's state as a value -/
theorem IsRB.val {w : World} {p : Nat} {s : RS} (h : IsRB w p s) : ∃ a c, blk w p = some (.cells #[.slice a s.l.length c, .int .i64 s.c] 128 (0, 0)) ∧ IsRs w (.agg #[.slice a s.l.length c, .int .i64 s.c]) s := by
  obtain ⟨v, hp, hv⟩ := h
  obtain ⟨a, c, e, _⟩ := id hv
  subst e
  exact ⟨a, c, hp, _, rfl, hv⟩
theorem row_not {w : World} {base : Nat} {e : TypeId} {size : Nat} {v : Value} {n : Nat} {xs : List Value} (h : w.ownsRow base e size v n xs) {b : Nat} {cs : Array Value} {t : TypeId} {f : Nat × Nat} (hb : blk w b = some (.cells cs t f)) (hne : t ≠ e) : ∀ g, v.ownBlock = some g → ¬ g = b := fun g hg e => by
  subst e
  obtain ⟨cur, hc⟩ := row_type h hg
  rw [hb] at hc
  cases hc
  exact hne rfl
structure RlSt (w wi : World) (B : Nat) (s : RS) (vo : Value) (R : List (ByteArray × Slot)) : Prop where
  ext : Ext (fun _ => False) w wi
  rd : IsRB wi B s
  nb : w.heap.size ≤ B
  out : wi.ownsRow 0 122 2 vo R.length (R.flatMap cellsN)
  no : ∀ g, vo.ownBlock = some g → w.heap.size ≤ g
  one : ∀ p ∈ R, p.2.v.oneCell' = true
theorem RlSt.frame {w wi w' : World} {B : Nat} {s s' : RS} {vo : Value} {R : List (ByteArray × Slot)} {S : Nat → Prop} (h : RlSt w wi B s vo R) (hx : Ext S wi w') (hS : ∀ b, S b → w.heap.size ≤ b) (hr : IsRB w' B s') (ho : ∀ g, vo.ownBlock = some g → ¬ S g) : RlSt w w' B s' vo R :=
  ⟨h.ext.trans' hx (fun k hk e => absurd (hS k e) (by omega)), hr, h.nb, ownsRow_ext h.out hx ho, h.no, h.one⟩
theorem RlSt.keep {w wi w' : World} {B : Nat} {s : RS} {vo : Value} {R : List (ByteArray × Slot)} (h : RlSt w wi B s vo R) (hx : Ext (fun _ => False) wi w') : RlSt w w' B s vo R :=
  h.frame hx (fun _ h => h.elim) (h.rd.keep hx) (fun _ _ h => h)
structure InSt (w wi : World) (B X : Nat) (s : RS) (vo : Value) (R : List (ByteArray × Slot)) (t : ByteArray) (ve : Value) (l : List Ep) : Prop where
  base : RlSt w wi B s vo R
  x : blk wi X = some (.cells #[.string t, ve] 122 (0, 0))
  nx : w.heap.size ≤ X
  xo : ∀ g, vo.ownBlock = some g → ¬ g = X
  ep : wi.ownsRow 0 110 3 ve l.length (eps l)
  ne : ∀ g, ve.ownBlock = some g → w.heap.size ≤ g
theorem InSt.frame {w wi w' : World} {B X : Nat} {s s' : RS} {vo : Value} {R : List (ByteArray × Slot)} {t : ByteArray} {ve : Value} {l : List Ep} {S : Nat → Prop} (h : InSt w wi B X s vo R t ve l) (hx : Ext S wi w') (hS : ∀ b, S b → w.heap.size ≤ b) (hr : IsRB w' B s')
    (ho : ∀ g, vo.ownBlock = some g → ¬ S g) (hX : ¬ S X) (he : ∀ g, ve.ownBlock = some g → ¬ S g) : InSt w w' B X s' vo R t ve l :=
  ⟨h.base.frame hx hS hr ho, (hx.blk (blk_lt h.x) hX).trans h.x, h.nx, h.xo, ownsRow_ext h.ep hx he, h.ne⟩
theorem InSt.keep {w wi w' : World} {B X : Nat} {s : RS} {vo : Value} {R : List (ByteArray × Slot)} {t : ByteArray} {ve : Value} {l : List Ep} (h : InSt w wi B X s vo R t ve l) (hx : Ext (fun _ => False) wi w') : InSt w w' B X s vo R t ve l :=
  h.frame hx (fun _ h => h.elim) (h.base.rd.keep hx) (fun _ _ h => h) id (fun _ _ h => h)
/-- the reader's state is written back -/
theorem InSt.rdset {w wi : World} {B X : Nat} {s s' : RS} {vo : Value} {R : List (ByteArray × Slot)} {t : ByteArray} {ve : Value} {l : List Ep} (h : InSt w wi B X s vo R t ve l) {vs : Value} (hb : BytesAt wi vs s'.l) :
    InSt w (set2 wi B vs (.int .i64 s'.c)) B X s' vo R t ve l ∧ Ext (fun b => b = B) wi (set2 wi B vs (.int .i64 s'.c)) := by
  obtain ⟨v, hp, _⟩ := h.base.rd
  have hq := set2_done hp vs (.int .i64 s'.c)
  refine ⟨h.frame hq.2 (fun b e => e ▸ h.base.nb) ⟨vs, hq.1, hb.ext hq.2 (fun g cur hc e => by subst e; exact hc.ne hp (by decide))⟩ (row_not h.base.out hp (by decide)) (fun e => ?_) (row_not h.ep hp (by decide)), hq.2⟩
  have hx := h.x
  rw [show X = B from e, hp] at hx; cases hx
/-- the name is written -/
theorem InSt.name {w wi : World} {B X : Nat} {s : RS} {vo : Value} {R : List (ByteArray × Slot)} {t : ByteArray} {ve : Value} {l : List Ep} (h : InSt w wi B X s vo R t ve l) (t' : ByteArray) :
    InSt w (wi.setCell ⟨X, 0, none⟩ (.string t')) B X s vo R t' ve l := by
  have hx : Ext (fun b => b = X) wi (wi.setCell ⟨X, 0, none⟩ (.string t')) := (Ext.refl _ wi).setCell _ (fun _ => rfl)
  refine ⟨h.base.frame hx (fun b e => e ▸ h.nx) (h.base.rd.ext hx (fun e => ?_) (fun g cur hc e => by subst e; exact hc.ne h.x (by decide))) h.xo, by simpa using blk_setCell_same h.x 0 (.string t'), h.nx, h.xo, ownsRow_ext h.ep hx (row_not h.ep h.x (by decide)), h.ne⟩
  obtain ⟨v, hp, _⟩ := h.base.rd
  have hx := h.x
  rw [show X = B from e.symm, hp] at hx; cases hx
/-- a number is read into the epoch's box -/
theorem InSt.num {w wi w1 : World} {B X E : Nat} {s s' : RS} {vo : Value} {R : List (ByteArray × Slot)} {t : ByteArray} {ve : Value} {l : List Ep} {a b g a' b' g' : Int} (h : InSt w wi B X s vo R t ve l)
    (hE : blk wi E = some (.cells #[.int .i64 a, .int .i64 b, .int .i64 g] 110 (0, 0))) (hv : ∀ k, ve.ownBlock = some k → ¬ k = E) (hw : w.heap.size ≤ E) (hx : Ext (fun _ => False) wi w1) {vs : Value} (hb : BytesAt w1 vs s'.l) (i : Nat) (u : Value)
    (he : #[Value.int .i64 a, .int .i64 b, .int .i64 g].setIfInBounds i u = #[.int .i64 a', .int .i64 b', .int .i64 g']) :
    InSt w ((set2 w1 B vs (.int .i64 s'.c)).setCell ⟨E, i, none⟩ u) B X s' vo R t ve l ∧ blk ((set2 w1 B vs (.int .i64 s'.c)).setCell ⟨E, i, none⟩ u) E = some (.cells #[.int .i64 a', .int .i64 b', .int .i64 g'] 110 (0, 0)) := by
  obtain ⟨h2, hx2⟩ := (h.keep hx).rdset hb
  have hE1 := (hx.blk (blk_lt hE) id).trans hE
  obtain ⟨v, hp, _⟩ := (h.keep hx).base.rd
  have hEB : ¬ E = B := fun e => by subst e; rw [hp] at hE1; cases hE1
  have hE2 := (hx2.blk (blk_lt hE1) hEB).trans hE1
  generalize set2 w1 B vs (.int .i64 s'.c) = w2 at *
  have hx3 : Ext (fun k => k = E) w2 (w2.setCell ⟨E, i, none⟩ u) := (Ext.refl _ w2).setCell _ (fun _ => rfl)
  refine ⟨h2.frame hx3 (fun k e => e ▸ hw) (h2.base.rd.ext hx3 (fun e => hEB e.symm) (fun g cur hc e => by subst e; exact hc.ne hE2 (by decide))) (row_not h2.base.out hE2 (by decide)) (fun e => ?_) hv, by rw [← he]; exact blk_setCell_same hE2 i u⟩
  have hxx := h2.x
  rw [show X = E from e, hE2] at hxx; cases hxx
/-- an epoch is appended -/
theorem InSt.app {w wi w1 : World} {B X : Nat} {s : RS} {vo : Value} {R : List (ByteArray × Slot)} {t : ByteArray} {ve v' : Value} {l l' : List Ep} (h : InSt w wi B X s vo R t ve l) (hx : Ext (fun k => ve.ownBlock = some k) wi w1)
    (hown : w1.ownsRow 0 110 3 v' l'.length (eps l')) (hloc : ∀ g, v'.ownBlock = some g → ve.ownBlock = some g ∨ wi.heap.size ≤ g) : InSt w (w1.setCell ⟨X, 1, none⟩ v') B X s vo R t v' l' := by
  have ho : ∀ g, vo.ownBlock = some g → ¬ ve.ownBlock = some g := fun g hg e => by
    obtain ⟨c1, h1⟩ := row_type h.base.out hg
    obtain ⟨c2, h2⟩ := row_type h.ep e
    rw [h1] at h2; cases h2
  have hX : ¬ ve.ownBlock = some X := fun e => by
    obtain ⟨c2, h2⟩ := row_type h.ep e
    rw [h.x] at h2; cases h2
  have hB : ¬ ve.ownBlock = some B := fun e => by
    obtain ⟨v, hp, _⟩ := h.base.rd
    obtain ⟨c2, h2⟩ := row_type h.ep e
    rw [hp] at h2; cases h2
  have b1 := h.base.frame hx (fun b e => h.ne b e) (h.base.rd.ext hx hB (fun g cur hc e => by
    obtain ⟨c2, h2⟩ := row_type h.ep e
    exact hc.ne h2 (by decide))) ho
  have x1 := (hx.blk (blk_lt h.x) hX).trans h.x
  have hx2 : Ext (fun b => b = X) w1 (w1.setCell ⟨X, 1, none⟩ v') := (Ext.refl _ w1).setCell _ (fun _ => rfl)
  refine ⟨b1.frame hx2 (fun b e => e ▸ h.nx) (b1.rd.ext hx2 (fun e => ?_) (fun g cur hc e => by subst e; exact hc.ne x1 (by decide))) h.xo, by simpa using blk_setCell_same x1 1 v', h.nx, h.xo, ownsRow_ext hown hx2 (row_not hown x1 (by decide)), fun g hg => ?_⟩
  · obtain ⟨v, hp, _⟩ := b1.rd
    rw [show X = B from e.symm, hp] at x1; cases x1
  · rcases hloc g hg with e | e
    · exact h.ne g e
    · exact Nat.le_trans h.base.ext.size e
end Go.Proofs.Ytgmopnbejjfbjaa
