/-
  Two stores side by side, each in memory of its own. Conditions: none beyond each lemma's own.
-/
import Derived.Test.YthipbmppmgkklaaTH
namespace Go.Proofs.Ythipbmppmgkklaa
open Go.RowKit Go.MapKept
open Go.ChangeMaps (setBlock)

structure TwoS (w wi : World) (sb mb : Nat) (m : KM) (tb nb : Nat) (m' : KM) : Prop where
  ext : Ext (fun _ => False) w wi
  s : IsStore wi sb mb m
  t : IsStore wi tb nb m'
  gs : w.heap.size ≤ sb
  gm : w.heap.size ≤ mb
  gt : w.heap.size ≤ tb
  gn : w.heap.size ≤ nb
  n1 : ¬ tb = mb
  n2 : ¬ nb = mb
  n3 : ¬ sb = nb
  n4 : ¬ sb = tb
theorem TwoS.keep {w wi w' : World} {sb mb tb nb : Nat} {m m' : KM} (h : TwoS w wi sb mb m tb nb m') (hx : Ext (fun _ => False) wi w') : TwoS w w' sb mb m tb nb m' :=
  ⟨h.ext.trans hx, h.s.ext hx id id, h.t.ext hx id id, h.gs, h.gm, h.gt, h.gn, h.n1, h.n2, h.n3, h.n4⟩
theorem TwoS.doS {w wi w' : World} {sb mb tb nb : Nat} {m m' p : KM} (h : TwoS w wi sb mb m tb nb m') (hs : IsStore w' sb mb p) (hx : Ext (fun b => b = mb) wi w') : TwoS w w' sb mb p tb nb m' :=
  ⟨h.ext.trans' hx (fun k hk (e : k = mb) => absurd h.gm (by omega)), hs, h.t.ext hx h.n1 h.n2, h.gs, h.gm, h.gt, h.gn, h.n1, h.n2, h.n3, h.n4⟩
theorem TwoS.doT {w wi w' : World} {sb mb tb nb : Nat} {m m' p : KM} (h : TwoS w wi sb mb m tb nb m') (ht : IsStore w' tb nb p) (hx : Ext (fun b => b = nb) wi w') : TwoS w w' sb mb m tb nb p :=
  ⟨h.ext.trans' hx (fun k hk (e : k = nb) => absurd h.gn (by omega)), h.s.ext hx h.n3 (fun e => h.n2 e.symm), ht, h.gs, h.gm, h.gt, h.gn, h.n1, h.n2, h.n3, h.n4⟩
theorem TwoS.loadT {w wi w' : World} {sb mb tb nb nb' : Nat} {m m' p : KM} (h : TwoS w wi sb mb m tb nb m') (ht : IsStore w' tb nb' p) (hx : Ext (fun b => b = tb) wi w') (hge : wi.heap.size ≤ nb') : TwoS w w' sb mb m tb nb' p :=
  ⟨h.ext.trans' hx (fun k hk (e : k = tb) => absurd h.gt (by omega)), h.s.ext hx h.n4 (fun e => h.n1 e.symm), ht, h.gs, h.gm, h.gt, Nat.le_trans h.ext.size hge, h.n1, fun e => by have := h.s.lt; omega, fun e => by have := h.s.lt; omega, h.n4⟩
theorem TwoS.mk' {w w1 w2 : World} {sb mb tb nb : Nat} {m m' : KM} (hx1 : Ext (fun _ => False) w w1) (hs : IsStore w1 sb mb m) (gs : w.heap.size ≤ sb) (gm : w.heap.size ≤ mb) (hx2 : Ext (fun _ => False) w1 w2) (ht : IsStore w2 tb nb m') (gt : w1.heap.size ≤ tb) (gn : w1.heap.size ≤ nb) : TwoS w w2 sb mb m tb nb m' := by
  have h1 := hs.lt
  have h2 := hx1.size
  exact ⟨hx1.trans hx2, hs.ext hx2 id id, ht, gs, gm, by omega, by omega, by omega, by omega, by omega, by omega⟩
theorem Good.small' {m : KM} (h : Good m) : ∀ p ∈ m, p.1.size ≤ 1000 := fun p hp => by have := (h.key p hp).2; omega
def SaveIs (w : World) (B : ByteArray) (r : Ending) (w' : World) : Prop := r = .returned (.string B) ∧ Ext (fun _ => False) w w'
theorem save_is {w : World} {sb mb : Nat} {m : KM} (h : IsStore w sb mb m) (hg : Good m) (hm : m.length ≤ 1000) : Calls Try.prog 14 #[.pointer (some ⟨sb, 0, none⟩)] w (SaveIs w ⟨(saveM m).toArray⟩) :=
  save_any w sb mb m h hg.small' hg.val (by omega)
end Go.Proofs.Ythipbmppmgkklaa
