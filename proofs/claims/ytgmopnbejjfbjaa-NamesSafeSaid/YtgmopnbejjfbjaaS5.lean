/-
  NamesSafe: what the law keeps from act to act (Inv), act by act. Conditions: none beyond each lemma's own.
-/
import Derived.Test.YtgmopnbejjfbjaaS4
namespace Go.Proofs.Ytgmopnbejjfbjaa
open Go.RowKit Go.MapKept

structure Inv (q : Nat) (T : Int) (s : SS) : Prop where
  hq : q ≤ 60
  hT : 0 ≤ T ∧ T ≤ 400 * q
  htt : ∀ k, k < 4 → s.tt k = T
  hu : ∀ k, k < 4 → 63 * T ≤ s.u k ∧ s.u k ≤ 65 * T
  hl : ∀ x ∈ s.l, okEp x
  hlen : s.l.length ≤ q
  hres : ∀ h, h < 3 → ∀ y, assoc (s.res h) nm = some y → Item s.l (s.u 0) (s.u (1 + h)) y
  hpend : ∀ y ∈ s.pend, y.h < 3 ∧ 0 ≤ y.k ∧ 64 * y.k ≤ s.u (1 + y.h) ∧ (y.an = true → Item s.l (s.u 0) (s.u (1 + y.h)) ⟨y.x, y.k⟩)
  hpl : s.pend.length ≤ q
  hcut : ∀ p, cutF s.cut p = true → mayL s.l p (s.u 0 / 64) = true

theorem Inv.bound {q : Nat} {T : Int} {s : SS} (h : Inv q T s) (k : Nat) (hk : k < 4) : 0 ≤ s.u k ∧ s.u k ≤ 1560000 := by
  have := h.hu k hk; have := h.hT; have := h.hq; omega
theorem Inv.skip {q : Nat} {T : Int} {s : SS} (h : Inv q T s) (hq : q < 60) : Inv (q + 1) T s :=
  ⟨by omega, by have := h.hT; omega, h.htt, h.hu, h.hl, by have := h.hlen; omega, h.hres, h.hpend, by have := h.hpl; omega, h.hcut⟩
theorem Inv.advance {q : Nat} {T : Int} {s s' : SS} (h : Inv q T s) (hq : q < 60) {D : Int} {r : Nat → Int} (d0 : 0 ≤ D) (d1 : D ≤ 400) (hr : ∀ k, k < 4 → 63 ≤ r k ∧ r k ≤ 65)
    (hu : ∀ k, k < 4 → s'.u k = s.u k + D * r k) (ht : ∀ k, k < 4 → s'.tt k = s.tt k + D) (e1 : s'.l = s.l) (e2 : s'.res = s.res) (e3 : s'.pend = s.pend) (e4 : s'.cut = s.cut) : Inv (q + 1) (T + D) s' := by
  have hm : ∀ k, k < 4 → 63 * D ≤ D * r k ∧ D * r k ≤ 65 * D := fun k hk => by
    have := hr k hk
    rw [Int.mul_comm D]
    exact ⟨Int.mul_le_mul_of_nonneg_right this.1 d0, Int.mul_le_mul_of_nonneg_right this.2 d0⟩
  have m0 := hm 0 (by omega)
  have i0 := hu 0 (by omega)
  refine ⟨by omega, by have := h.hT; omega, fun k hk => by rw [ht k hk, h.htt k hk], fun k hk => ?_, e1 ▸ h.hl, by rw [e1]; have := h.hlen; omega, fun k hk y hy => ?_, fun y hy => ?_, by rw [e3]; have := h.hpl; omega, fun p hp => ?_⟩
  · have := h.hu k hk; have := hm k hk; rw [hu k hk]; omega
  · rw [e2] at hy
    rw [e1]
    have := hm (1 + k) (by omega); have := hu (1 + k) (by omega)
    exact (h.hres k hk y hy).advance d0 (by omega) (by omega)
  · rw [e3] at hy
    obtain ⟨a, b, c, d⟩ := h.hpend y hy
    have := hm (1 + y.h) (by omega); have := hu (1 + y.h) (by omega)
    refine ⟨a, b, by omega, fun han => ?_⟩
    rw [e1]
    exact (d han).advance d0 (by omega) (by omega)
  · rw [e4] at hp
    rw [e1]
    exact mayL_mono (h.hcut p hp) (by rw [i0]; omega)
theorem Inv.publish {q : Nat} {T : Int} {s : SS} (h : Inv q T s) (hq : q < 60) {e : Ep} (he : okEp e) : Inv (q + 1) T { s with l := s.l ++ [e] } := by
  refine ⟨by omega, by have := h.hT; omega, h.htt, h.hu, fun x hx => ?_, by simp; have := h.hlen; omega, fun k hk y hy => (h.hres k hk y hy).publish e, fun y hy => ?_, by have := h.hpl; simp only []; omega, fun p hp => mayL_publish (h.hcut p hp)⟩
  · rcases List.mem_append.1 hx with hx | hx
    · exact h.hl x hx
    · simp at hx; rw [hx]; exact he
  · obtain ⟨a, b, c, d⟩ := h.hpend y hy
    exact ⟨a, b, c, fun han => (d han).publish e⟩
theorem Inv.ask {q : Nat} {T : Int} {s : SS} (h : Inv q T s) (hq : q < 60) {k : Nat} (hk : k < 3) (x : Ent) : Inv (q + 1) T { s with pend := s.pend ++ [⟨k, s.u (1 + k) / 64, x, false⟩] } := by
  refine ⟨by omega, by have := h.hT; omega, h.htt, h.hu, h.hl, by have := h.hlen; simp only []; omega, h.hres, fun y hy => ?_, by simp; have := h.hpl; omega, h.hcut⟩
  rcases List.mem_append.1 hy with hy | hy
  · exact h.hpend y hy
  · simp at hy
    subst hy
    have := h.bound (1 + k) (by omega)
    exact ⟨hk, by simp only []; omega, by simp only []; omega, fun e => by cases e⟩
theorem Inv.drop {q : Nat} {T : Int} {s : SS} (h : Inv q T s) (hq : q < 60) {p' : List Qn} (hp : ∀ y ∈ p', y ∈ s.pend) (hl : p'.length ≤ s.pend.length) : Inv (q + 1) T { s with pend := p' } :=
  ⟨by omega, by have := h.hT; omega, h.htt, h.hu, h.hl, by have := h.hlen; simp only []; omega, h.hres, fun y hy => h.hpend y (hp y hy), by have := h.hpl; simp only []; omega, h.hcut⟩
theorem assoc_aput {α : Type} (l : List (ByteArray × α)) (s : ByteArray) (v : α) (p : ByteArray) : assoc (aput l s v) p = if p = s then some v else assoc l p := by
  induction l with
  | nil => simp only [aput, assoc, eq_comm]
  | cons a r ih =>
    obtain ⟨k, x⟩ := a
    simp only [aput]
    by_cases hk : k = s
    · subst hk
      simp only [if_true, assoc]
      by_cases hp : p = k
      · simp [hp]
      · simp [hp, Ne.symm hp]
    · simp only [if_neg hk, assoc]
      by_cases hp : k = p
      · subst hp; simp [hk]
      · rw [if_neg hp, if_neg hp, ih]
theorem Inv.keep {q : Nat} {T : Int} {s : SS} (h : Inv q T s) {y : Qn} (hy : y.h < 3 ∧ Item s.l (s.u 0) (s.u (1 + y.h)) ⟨y.x, y.k⟩) :
    Inv q T { s with res := fun j => if j = y.h then keepL (s.res y.h) ⟨y.x, y.k⟩ else s.res j } := by
  refine ⟨h.hq, h.hT, h.htt, h.hu, h.hl, h.hlen, fun k hk z hz => ?_, h.hpend, h.hpl, h.hcut⟩
  simp only at hz
  split at hz
  · rename_i e
    subst e
    unfold keepL at hz
    split at hz
    · rw [assoc_aput] at hz
      have hn : y.x.n = nm := hy.2.1
      simp only at hz
      rw [if_pos hn.symm] at hz
      cases hz
      exact hy.2
    · exact h.hres _ hk z hz
  · exact h.hres k hk z hz
theorem Inv.note {q : Nat} {T : Int} {s : SS} (h : Inv q T s) : Inv q T { s with l := noteM s.l (s.u 0 / 64) } := by
  have hb := h.bound 0 (by omega)
  refine ⟨h.hq, h.hT, h.htt, h.hu, fun x hx => ?_, by simp only [note_length]; exact h.hlen, fun k hk y hy => (h.hres k hk y hy).note, fun y hy => ?_, h.hpl, fun p hp => mayL_note (h.hcut p hp)⟩
  · unfold noteM at hx
    rcases List.mem_append.1 hx with hx | hx
    · exact h.hl x (List.dropLast_subset _ hx)
    · split at hx
      · rename_i z hz
        simp at hx
        subst hx
        have := h.hl z (List.mem_of_getLast? hz)
        unfold okEp at *
        simp only []
        omega
      · simp at hx
  · obtain ⟨a, b, c, d⟩ := h.hpend y hy
    exact ⟨a, b, c, fun han => (d han).note⟩
/-- an answer goes on its way -/
theorem Inv.answer {q : Nat} {T : Int} {s : SS} (h : Inv q T s) (hq : s.pend.length < q) {y : Qn} (hy : y.h < 3 ∧ 0 ≤ y.k ∧ 64 * y.k ≤ s.u (1 + y.h)) {x : Ep} (hx : s.l.getLast? = some x) :
    Inv q T { s with l := noteM s.l (s.u 0 / 64), pend := s.pend ++ [⟨y.h, y.k, ⟨nm, s.l.length, x.a, x.t⟩, true⟩] } := by
  have hn := h.note
  refine ⟨hn.hq, hn.hT, hn.htt, hn.hu, hn.hl, hn.hlen, hn.hres, fun z hz => ?_, by simp; omega, hn.hcut⟩
  rcases List.mem_append.1 hz with hz | hz
  · exact hn.hpend z hz
  · simp at hz
    subst hz
    exact ⟨hy.1, hy.2.1, hy.2.2, fun _ => Item.answer hx hy.2.1 hy.2.2 (h.bound 0 (by omega)).1⟩
theorem Inv.cutput {q : Nat} {T : Int} {s : SS} (h : Inv q T s) {p : Int} {v : Bool} (hv : v = true → mayL s.l p (s.u 0 / 64) = true) : Inv q T { s with cut := iput s.cut p v } :=
  ⟨h.hq, h.hT, h.htt, h.hu, h.hl, h.hlen, h.hres, h.hpend, h.hpl, fun p' hp' => by
    simp only [cutF_iput] at hp'
    split at hp'
    · rename_i e; subst e; exact hv hp'
    · exact h.hcut p' hp'⟩
/-- what a resolver returns is not cut -/
theorem Inv.safe {q : Nat} {T : Int} {s : SS} (h : Inv q T s) {k : Nat} (hk : k < 3) (hr : (resolveM (s.res k) nm (s.u (1 + k) / 64)).2 = true) :
    cutF s.cut (resolveM (s.res k) nm (s.u (1 + k) / 64)).1.e = false := by
  unfold resolveM at *
  split at hr
  · rename_i y hy
    split at hr
    · rename_i hlive
      rw [if_pos hlive]
      have hb := h.bound (1 + k) (by omega)
      have hb0 := h.bound 0 (by omega)
      have := (h.hres k hk y hy).safe h.hl hb0.1 hb.1 (by omega) hlive
      cases hc : cutF s.cut y.x.e
      · rfl
      · rw [h.hcut _ hc] at this; cases this
    · cases hr
  · cases hr
end Go.Proofs.Ytgmopnbejjfbjaa
