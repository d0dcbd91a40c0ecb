/-
  NamesSafe, the plain law: what the law keeps from act to act, and that it forbids a resolved epoch that may be cut. Conditions: none beyond each lemma's own.
-/
import Derived.Test.YtgmopnbejjfbjaaX12
namespace Go.Proofs.Ytgmopnbejjfbjaa
open Go.RowKit Go.MapKept

def nm : ByteArray := { data := #[110] }
structure Qn where
  h : Nat
  k : Int
  x : Ent
  an : Bool
/-- an int map's entries -/
def iassoc {α : Type} : List (Int × α) → Int → Option α
  | [], _ => none
  | (k, v) :: r, s => if k = s then some v else iassoc r s
def iput {α : Type} : List (Int × α) → Int → α → List (Int × α)
  | [], s, v => [(s, v)]
  | (k, x) :: r, s, v => if k = s then (k, v) :: r else (k, x) :: iput r s v
theorem iassoc_iput {α : Type} (l : List (Int × α)) (s : Int) (v : α) (p : Int) : iassoc (iput l s v) p = if p = s then some v else iassoc l p := by
  induction l with
  | nil => simp only [iput, iassoc, eq_comm]
  | cons a r ih =>
    obtain ⟨k, x⟩ := a
    simp only [iput]
    by_cases hk : k = s
    · subst hk
      simp only [if_true, iassoc]
      by_cases hp : p = k
      · simp [hp]
      · simp [hp, Ne.symm hp]
    · simp only [if_neg hk, iassoc]
      by_cases hp : k = p
      · subst hp; simp [hk]
      · rw [if_neg hp, if_neg hp, ih]
def cutF (l : List (Int × Bool)) (p : Int) : Bool := (iassoc l p).getD false
theorem cutF_iput (l : List (Int × Bool)) (s : Int) (v : Bool) (p : Int) : cutF (iput l s v) p = if p = s then v else cutF l p := by
  unfold cutF
  rw [iassoc_iput]
  split <;> rfl

def mayL (l : List Ep) (ep now : Int) : Bool :=
  if ep < 1 ∨ (l.length : Int) ≤ ep then false else
    match l[(ep - 1).toNat]? with
    | some x => decide (x.g = 0) || decide (x.g - 1 + marginI x.t ≤ now)
    | none => false

def Item (l : List Ep) (u0 uh : Int) (y : KV) : Prop :=
  y.x.n = nm ∧ 0 ≤ y.k ∧ ∃ (p : Nat) (e : Ep), y.x.e = p + 1 ∧ l[p]? = some e ∧ e.t = y.x.t ∧ 1 ≤ e.g ∧ ∃ d : Int, 0 ≤ d ∧ u0 ≤ 64 * e.g - 1 + 65 * d ∧ 64 * y.k + 63 * d ≤ uh

theorem Item.advance {l : List Ep} {u0 uh u0' uh' D : Int} {y : KV} (h : Item l u0 uh y) (hD : 0 ≤ D) (h0 : u0' ≤ u0 + 65 * D) (h1 : uh + 63 * D ≤ uh') : Item l u0' uh' y := by
  obtain ⟨a, b, p, e, c1, c2, c3, c4, d, d1, d2, d3⟩ := h
  exact ⟨a, b, p, e, c1, c2, c3, c4, d + D, by omega, by omega, by omega⟩
theorem Item.publish {l : List Ep} {u0 uh : Int} {y : KV} (h : Item l u0 uh y) (e' : Ep) : Item (l ++ [e']) u0 uh y := by
  obtain ⟨a, b, p, e, c1, c2, c3, c4, d⟩ := h
  have := (List.getElem?_eq_some_iff.1 c2).1
  exact ⟨a, b, p, e, c1, by rw [List.getElem?_append_left this]; exact c2, c3, c4, d⟩
/-- the newest epoch alone turns, and only in what was given -/
theorem note_get {l : List Ep} {now : Int} {p : Nat} {e : Ep} (h : l[p]? = some e) :
    ∃ e', (noteM l now)[p]? = some e' ∧ e'.a = e.a ∧ e'.t = e.t ∧ e.g ≤ e'.g ∧ (p + 1 < l.length → e' = e) ∧ (p + 1 = l.length → e' = ⟨e.a, e.t, max e.g (now + 1)⟩) := by
  have hp := (List.getElem?_eq_some_iff.1 h).1
  cases hg : l.getLast? with
  | none => simp at hg; subst hg; simp at hp
  | some x =>
    obtain ⟨ys, rfl⟩ := List.getLast?_eq_some_iff.1 hg
    simp only [List.length_append, List.length_cons, List.length_nil] at *
    unfold noteM
    simp only [List.dropLast_concat, hg]
    by_cases hl : p < ys.length
    · rw [List.getElem?_append_left hl] at *
      exact ⟨e, h, rfl, rfl, Int.le_refl _, fun _ => rfl, fun h => by omega⟩
    · have hpe : p = ys.length := by omega
      subst hpe
      simp at h
      subst h
      refine ⟨⟨x.a, x.t, max x.g (now + 1)⟩, by simp, rfl, rfl, ?_, fun h => absurd h (by omega), fun _ => rfl⟩
      simp only []; omega
theorem Item.note {l : List Ep} {u0 uh now : Int} {y : KV} (h : Item l u0 uh y) : Item (noteM l now) u0 uh y := by
  obtain ⟨a, b, p, e, c1, c2, c3, c4, d, d1, d2, d3⟩ := h
  obtain ⟨e', g1, g2, g3, g4, _⟩ := note_get (now := now) c2
  exact ⟨a, b, p, e', c1, g1, g3.trans c3, by omega, d, d1, by omega, d3⟩
theorem Item.answer {l : List Ep} {u0 uh k : Int} {x : Ep} (h : l.getLast? = some x) (hk : 0 ≤ k) (hu : 64 * k ≤ uh) (h0 : 0 ≤ u0) :
    Item (noteM l (u0 / 64)) u0 uh ⟨⟨nm, l.length, x.a, x.t⟩, k⟩ := by
  obtain ⟨ys, rfl⟩ := List.getLast?_eq_some_iff.1 h
  obtain ⟨e', g1, g2, g3, g4, _, g6⟩ := note_get (l := ys ++ [x]) (now := u0 / 64) (p := ys.length) (e := x) (by simp)
  have := g6 (by simp)
  subst this
  exact ⟨rfl, hk, ys.length, _, by simp, g1, rfl, by simp only []; omega, 0, Int.le_refl _, by simp only []; omega, by simp only []; omega⟩

theorem mayL_mono {l : List Ep} {p now now' : Int} (h : mayL l p now = true) (hn : now ≤ now') : mayL l p now' = true := by
  unfold mayL at *
  split at h
  · cases h
  · rename_i hc
    rw [if_neg hc]
    split at h
    · simp at h ⊢; omega
    · cases h
theorem mayL_publish {l : List Ep} {p now : Int} {e : Ep} (h : mayL l p now = true) : mayL (l ++ [e]) p now = true := by
  unfold mayL at *
  split at h
  · cases h
  · rename_i hc
    rw [if_neg (by simp; omega), List.getElem?_append_left (by omega)]
    exact h
theorem mayL_note {l : List Ep} {p now n : Int} (h : mayL l p now = true) : mayL (noteM l n) p now = true := by
  unfold mayL at *
  split at h
  · cases h
  · rename_i hc
    rw [note_length, if_neg hc]
    split at h
    · rename_i x hx
      obtain ⟨e', g1, _, _, _, g5, _⟩ := note_get (now := n) hx
      have := g5 (by omega)
      subst this
      rw [g1]; exact h
    · cases h

theorem wrap_small {v : Int} (h0 : 0 ≤ v) (h1 : v < 18446744073709551616) : IntKind.u64.wrap v = v := IntWalk.u64_in v (by omega)

/-- what is resolved may not be cut -/
theorem Item.safe {l : List Ep} {u0 uh : Int} {y : KV} (h : Item l u0 uh y) (hl : ∀ x ∈ l, okEp x) (h0 : 0 ≤ u0) (hh : 0 ≤ uh) (hb : uh < 1099511627776) (hlive : live y (uh / 64) = true) : mayL l y.x.e (u0 / 64) = false := by
  obtain ⟨a, b, p, e, c1, c2, c3, c4, d, d1, d2, d3⟩ := h
  have hok := hl e (List.mem_of_getElem? c2)
  unfold okEp at hok
  unfold live at hlive
  simp only [Bool.and_eq_true, decide_eq_true_eq] at hlive
  obtain ⟨⟨l1, l2⟩, l3⟩ := hlive
  have hpl := (List.getElem?_eq_some_iff.1 c2).1
  rw [wrap_small (v := uh / 64) (by omega) (by omega), wrap_small (v := y.k) (by omega) (by omega), wrap_small (v := y.x.t) (by omega) (by omega), wrap_small (by omega) (by omega)] at l3
  unfold mayL
  rw [c1, show ((p : Int) + 1 - 1).toNat = p by omega, c2]
  split
  · rfl
  · have hm : marginI e.t = e.t + e.t / 16 + 2 := by unfold marginI; omega
    simp only [Bool.or_eq_false_iff, decide_eq_false_iff_not, hm]
    exact ⟨by omega, by omega⟩
end Go.Proofs.Ytgmopnbejjfbjaa
