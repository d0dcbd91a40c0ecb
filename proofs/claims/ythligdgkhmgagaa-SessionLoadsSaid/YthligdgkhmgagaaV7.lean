/-
  The reference of package session: Load: by value; what stands while it reads. Conditions: none beyond each lemma's own.
-/
import Derived.Test.YthligdgkhmgagaaV6
namespace Go.Proofs.Ythligdgkhmgagaa
open Go.RowKit Go.MapKept
open Go.ChangeMaps (setBlock)

abbrev top : Nat := 4611686018427387904
def refC : Nat → Nat → RS → Option RS
  | 0, _, s => some s
  | k + 1, last, s =>
    if (textM (rnumM 1 top (rnumM 1 top s).2).2).2.c = 0 ∧ last < (rnumM 1 top s).1 then refC k (rnumM 1 top s).1 (textM (rnumM 1 top (rnumM 1 top s).2).2).2 else none
def refT (g : Nat) : Nat → Nat → RS → Option RS
  | 0, _, s => some s
  | k + 1, last, s =>
    if (intM (rnumM 1 top s).2).2.c = 0 ∧ ¬ g = 0 ∧ last < (rnumM 1 top s).1 then refT g k (rnumM 1 top s).1 (intM (rnumM 1 top s).2).2 else none
def refEnd (g k : Nat) : Option RS → Bool
  | some s => decide (endM s = 0) && !(decide (0 < g) && decide (k = 0))
  | none => false
def refMid (ll : Nat) (s : RS) : Bool := refEnd (rnumM 0 top s).1 (countM ll (rnumM 0 top s).2).1 (refT (rnumM 0 top s).1 (countM ll (rnumM 0 top s).2).1 0 (countM ll (rnumM 0 top s).2).2)
def refAll (ll : Nat) : Option RS → Bool
  | some s => refMid ll s
  | none => false
def refLoad (l : List UInt8) : Bool := refAll l.length (refC (countM l.length ⟨l, 0⟩).1 0 (countM l.length ⟨l, 0⟩).2)
theorem refC_succ (k last : Nat) (s : RS) : refC (k + 1) last s = if (textM (rnumM 1 top (rnumM 1 top s).2).2).2.c = 0 ∧ last < (rnumM 1 top s).1 then refC k (rnumM 1 top s).1 (textM (rnumM 1 top (rnumM 1 top s).2).2).2 else none := rfl
theorem refT_succ (g k last : Nat) (s : RS) : refT g (k + 1) last s = if (intM (rnumM 1 top s).2).2.c = 0 ∧ ¬ g = 0 ∧ last < (rnumM 1 top s).1 then refT g k (rnumM 1 top s).1 (intM (rnumM 1 top s).2).2 else none := rfl
theorem row_not {w : World} {base : Nat} {e : TypeId} {size : Nat} {v : Value} {n : Nat} {xs : List Value} (h : w.ownsRow base e size v n xs) {b : Nat} {cs : Array Value} {t : TypeId} {f : Nat × Nat} (hb : blk w b = some (.cells cs t f)) (hne : t ≠ e) : ∀ g, v.ownBlock = some g → ¬ g = b := fun g hg e => by
  subst e
  obtain ⟨cur, hc⟩ := row_type h hg
  rw [hb] at hc
  cases hc
  exact hne rfl
theorem blk_ne {w : World} {a b : Nat} {cs ds : Array Value} {t t' : TypeId} {f f' : Nat × Nat} (ha : blk w a = some (.cells cs t f)) (hb : blk w b = some (.cells ds t' f')) (h : t ≠ t') : ¬ a = b := fun e => by
  subst e
  rw [ha] at hb; cases hb; exact h rfl
/-- while the reference reads -/
structure RtSt (w wi : World) (C T B : Nat) (u : Value) (s : RS) (vc : Value) (g : Int) (vs : Value) (K : List (Int × Ans)) (S : List (Int × Int)) : Prop where
  ext : Ext (fun _ => False) w wi
  c : blk wi C = some (.cells #[.slice none 0 0, .int .i64 0, .slice none 0 0] 39 (0, 0))
  t : blk wi T = some (.cells #[vc, .int .i64 g, vs] 39 (0, 0))
  r : blk wi B = some (.cells #[u, .int .i64 s.c] 96 (0, 0))
  at' : BytesAt wi u s.l
  rows : wi.ownsRow 0 74 3 vc K.length (K.flatMap cellsC)
  steps : wi.ownsRow 0 104 2 vs S.length (S.flatMap cellsS)
  oc : ∀ k, vc.ownBlock = some k → w.heap.size ≤ k
  os : ∀ k, vs.ownBlock = some k → w.heap.size ≤ k
  nc : w.heap.size ≤ C
  nt : w.heap.size ≤ T
  nb : w.heap.size ≤ B
  ct : ¬ C = T
section
variable {w wi w' : World} {C T B : Nat} {u u' : Value} {s s' : RS} {vc : Value} {g : Int} {vs : Value} {K : List (Int × Ans)} {S : List (Int × Int)}
theorem RtSt.value (h : RtSt w wi C T B u s vc g vs K S) : IsRs wi (.agg #[u, .int .i64 s.c]) s := ⟨u, rfl, h.at'⟩
theorem RtSt.keep (h : RtSt w wi C T B u s vc g vs K S) (hx : Ext (fun _ => False) wi w') : RtSt w w' C T B u s vc g vs K S :=
  ⟨h.ext.trans hx, (hx.blk (blk_lt h.c) id).trans h.c, (hx.blk (blk_lt h.t) id).trans h.t, (hx.blk (blk_lt h.r) id).trans h.r, h.at'.keep hx, ownsRow_keep h.rows hx, ownsRow_keep h.steps hx, h.oc, h.os, h.nc, h.nt, h.nb, h.ct⟩
/-- a cell of a block of the call's own, of another type than these, is written -/
theorem RtSt.other (h : RtSt w wi C T B u s vc g vs K S) {X : Nat} {cs : Array Value} {t : TypeId} (hX : blk wi X = some (.cells cs t (0, 0))) (hw : w.heap.size ≤ X) (h1 : t ≠ 39) (h2 : t ≠ 96) (h3 : t ≠ 5) (hc : ∀ k, vc.ownBlock = some k → ¬ k = X) (hs : ∀ k, vs.ownBlock = some k → ¬ k = X) (i : Nat) (x : Value) :
    RtSt w (wi.setCell ⟨X, i, none⟩ x) C T B u s vc g vs K S := by
  have hx : Ext (fun k => k = X) wi (wi.setCell ⟨X, i, none⟩ x) := (Ext.refl _ wi).setCell _ (fun _ => rfl)
  exact ⟨h.ext.trans' hx (fun k hk (e : k = X) => absurd hw (by omega)), (hx.blk (blk_lt h.c) (blk_ne h.c hX (Ne.symm h1))).trans h.c, (hx.blk (blk_lt h.t) (blk_ne h.t hX (Ne.symm h1))).trans h.t, (hx.blk (blk_lt h.r) (blk_ne h.r hX (Ne.symm h2))).trans h.r,
    h.at'.ext hx (fun g' cur hc' (e : g' = X) => by subst e; exact hc'.ne hX h3), ownsRow_ext h.rows hx hc, ownsRow_ext h.steps hx hs, h.oc, h.os, h.nc, h.nt, h.nb, h.ct⟩
/-- the reader is written back -/
theorem RtSt.put (h : RtSt w wi C T B u s vc g vs K S) (hx : Ext (fun _ => False) wi w') (hb : BytesAt w' u' s'.l) : RtSt w (set2 w' B u' (.int .i64 s'.c)) C T B u' s' vc g vs K S ∧ Ext (fun k => k = B) w' (set2 w' B u' (.int .i64 s'.c)) := by
  have k := h.keep hx
  have hq := set2_done k.r u' (.int .i64 s'.c)
  exact ⟨⟨k.ext.trans' hq.2 (fun k hk (e : k = B) => absurd h.nb (by omega)), (hq.2.blk (blk_lt k.c) (blk_ne k.c k.r (by decide))).trans k.c, (hq.2.blk (blk_lt k.t) (blk_ne k.t k.r (by decide))).trans k.t, hq.1,
    hb.ext hq.2 (fun g' cur hc' (e : g' = B) => by subst e; exact hc'.ne k.r (by decide)), ownsRow_ext k.rows hq.2 (row_not k.rows k.r (by decide)), ownsRow_ext k.steps hq.2 (row_not k.steps k.r (by decide)), h.oc, h.os, h.nc, h.nt, h.nb, h.ct⟩, hq.2⟩
/-- the table's generation -/
theorem RtSt.gen (h : RtSt w wi C T B u s vc g vs K S) (g' : Int) : RtSt w (wi.setCell ⟨T, 1, none⟩ (.int .i64 g')) C T B u s vc g' vs K S := by
  have hx : Ext (fun k => k = T) wi (wi.setCell ⟨T, 1, none⟩ (.int .i64 g')) := (Ext.refl _ wi).setCell _ (fun _ => rfl)
  exact ⟨h.ext.trans' hx (fun k hk (e : k = T) => absurd h.nt (by omega)), (hx.blk (blk_lt h.c) h.ct).trans h.c, by simpa using blk_setCell_same h.t 1 (.int .i64 g'), (hx.blk (blk_lt h.r) (blk_ne h.r h.t (by decide))).trans h.r,
    h.at'.ext hx (fun q cur hc' (e : q = T) => by subst e; exact hc'.ne h.t (by decide)), ownsRow_ext h.rows hx (row_not h.rows h.t (by decide)), ownsRow_ext h.steps hx (row_not h.steps h.t (by decide)), h.oc, h.os, h.nc, h.nt, h.nb, h.ct⟩
theorem own_not (h : RtSt w wi C T B u s vc g vs K S) : (∀ k, vc.ownBlock = some k → ¬ k = C ∧ ¬ k = T ∧ ¬ k = B ∧ ¬ vs.ownBlock = some k) ∧ (∀ k, vs.ownBlock = some k → ¬ k = C ∧ ¬ k = T ∧ ¬ k = B) := by
  refine ⟨fun k hk => ⟨row_not h.rows h.c (by decide) k hk, row_not h.rows h.t (by decide) k hk, row_not h.rows h.r (by decide) k hk, fun e => ?_⟩, fun k hk => ⟨row_not h.steps h.c (by decide) k hk, row_not h.steps h.t (by decide) k hk, row_not h.steps h.r (by decide) k hk⟩⟩
  obtain ⟨c1, h1⟩ := row_type h.rows hk
  obtain ⟨c2, h2⟩ := row_type h.steps e
  rw [h1] at h2; cases h2
/-- a client is appended -/
theorem RtSt.appC (h : RtSt w wi C T B u s vc g vs K S) {w1 : World} (hx : Ext (fun k => vc.ownBlock = some k) wi w1) {v' : Value} {p : Int × Ans} (hown : w1.ownsRow 0 74 3 v' (K.length + 1) (K.flatMap cellsC ++ cellsC p)) (hloc : v'.ownBlock = vc.ownBlock ∨ ∀ k, v'.ownBlock = some k → wi.heap.size ≤ k) :
    RtSt w (w1.setCell ⟨T, 0, none⟩ v') C T B u s v' g vs (K ++ [p]) S := by
  obtain ⟨o1, o2⟩ := own_not h
  have c1 := (hx.blk (blk_lt h.c) (fun e => (o1 C e).1 rfl)).trans h.c
  have t1 := (hx.blk (blk_lt h.t) (fun e => (o1 T e).2.1 rfl)).trans h.t
  have r1 := (hx.blk (blk_lt h.r) (fun e => (o1 B e).2.2.1 rfl)).trans h.r
  have s1 := ownsRow_ext h.steps hx (fun k hk e => (o1 k e).2.2.2 hk)
  have b1 := h.at'.ext hx (fun q cur hc' e => by
    obtain ⟨c2, h2⟩ := row_type h.rows e
    exact hc'.ne h2 (by decide))
  have hx2 : Ext (fun k => k = T) w1 (w1.setCell ⟨T, 0, none⟩ v') := (Ext.refl _ w1).setCell _ (fun _ => rfl)
  refine ⟨(h.ext.trans' hx (fun k hk e => absurd (h.oc k e) (by omega))).trans' hx2 (fun k hk (e : k = T) => absurd h.nt (by omega)), (hx2.blk (blk_lt c1) h.ct).trans c1, by simpa using blk_setCell_same t1 0 v', (hx2.blk (blk_lt r1) (blk_ne r1 t1 (by decide))).trans r1,
    b1.ext hx2 (fun q cur hc' (e : q = T) => by subst e; exact hc'.ne t1 (by decide)), ?_, ownsRow_ext s1 hx2 (row_not s1 t1 (by decide)), fun k hk => ?_, h.os, h.nc, h.nt, h.nb, h.ct⟩
  · have := ownsRow_ext hown hx2 (row_not hown t1 (by decide))
    simpa using this
  · rcases hloc with e | e
    · exact h.oc k (e.symm.trans hk)
    · exact Nat.le_trans h.ext.size (e k hk)
/-- a step is appended -/
theorem RtSt.appS (h : RtSt w wi C T B u s vc g vs K S) {w1 : World} (hx : Ext (fun k => vs.ownBlock = some k) wi w1) {v' : Value} {p : Int × Int} (hown : w1.ownsRow 0 104 2 v' (S.length + 1) (S.flatMap cellsS ++ cellsS p)) (hloc : v'.ownBlock = vs.ownBlock ∨ ∀ k, v'.ownBlock = some k → wi.heap.size ≤ k) :
    RtSt w (w1.setCell ⟨T, 2, none⟩ v') C T B u s vc g v' K (S ++ [p]) := by
  obtain ⟨o1, o2⟩ := own_not h
  have c1 := (hx.blk (blk_lt h.c) (fun e => (o2 C e).1 rfl)).trans h.c
  have t1 := (hx.blk (blk_lt h.t) (fun e => (o2 T e).2.1 rfl)).trans h.t
  have r1 := (hx.blk (blk_lt h.r) (fun e => (o2 B e).2.2 rfl)).trans h.r
  have s1 := ownsRow_ext h.rows hx (fun k hk e => (o1 k hk).2.2.2 e)
  have b1 := h.at'.ext hx (fun q cur hc' e => by
    obtain ⟨c2, h2⟩ := row_type h.steps e
    exact hc'.ne h2 (by decide))
  have hx2 : Ext (fun k => k = T) w1 (w1.setCell ⟨T, 2, none⟩ v') := (Ext.refl _ w1).setCell _ (fun _ => rfl)
  refine ⟨(h.ext.trans' hx (fun k hk e => absurd (h.os k e) (by omega))).trans' hx2 (fun k hk (e : k = T) => absurd h.nt (by omega)), (hx2.blk (blk_lt c1) h.ct).trans c1, by simpa using blk_setCell_same t1 2 v', (hx2.blk (blk_lt r1) (blk_ne r1 t1 (by decide))).trans r1,
    b1.ext hx2 (fun q cur hc' (e : q = T) => by subst e; exact hc'.ne t1 (by decide)), ownsRow_ext s1 hx2 (row_not s1 t1 (by decide)), ?_, h.oc, fun k hk => ?_, h.nc, h.nt, h.nb, h.ct⟩
  · have := ownsRow_ext hown hx2 (row_not hown t1 (by decide))
    simpa using this
  · rcases hloc with e | e
    · exact h.os k (e.symm.trans hk)
    · exact Nat.le_trans h.ext.size (e k hk)
end
def RLoadPost (w : World) (rl : Bool) (r : Ending) (w' : World) : Prop := ∃ a m p g b n q, r = .returned (.tuple #[.agg #[.slice a m p, .int .i64 g, .slice b n q], .bool rl]) ∧ Ext (fun _ => False) w w'
end Go.Proofs.Ythligdgkhmgagaa
