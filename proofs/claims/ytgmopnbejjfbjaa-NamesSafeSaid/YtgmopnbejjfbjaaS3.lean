/-
  NamesSafe: what lies in memory from act to act (Rep), and how each part's change keeps the rest. Conditions: none beyond each lemma's own.
-/
import Derived.Test.YtgmopnbejjfbjaaS2
namespace Go.Proofs.Ytgmopnbejjfbjaa
open Go.RowKit Go.MapKept
open Go.ChangeMaps (setBlock)

structure SS where
  l : List Ep
  u : Nat → Int
  tt : Nat → Int
  res : Nat → List (ByteArray × KV)
  pend : List Qn
  cut : List (Int × Bool)
def Qn.cs (y : Qn) : List Value := [.int .i64 y.h, .int .i64 y.k, .string y.x.n, .int .i64 y.x.e, .int .i64 y.x.a, .int .i64 y.x.t, .bool y.an]
def qs (l : List Qn) : List Value := l.flatMap Qn.cs
theorem qs_length (l : List Qn) : (qs l).length = l.length * 7 := by
  induction l with
  | nil => rfl
  | cons y r ih => simp only [qs, List.flatMap_cons, List.length_append] at *; rw [ih]; simp [Qn.cs]; omega
theorem qs_get (l : List Qn) (i : Nat) (h : i < l.length) (j : Nat) (hj : j < 7) : (qs l)[i * 7 + j]? = (l[i]).cs[j]? := by
  induction l generalizing i with
  | nil => simp at h
  | cons y r ih =>
    have hy : y.cs.length = 7 := by simp [Qn.cs]
    simp only [qs, List.flatMap_cons] at *
    cases i with
    | zero => rw [List.getElem?_append_left (by omega)]; simp
    | succ i =>
      rw [List.getElem?_append_right (by omega), hy, show (i + 1) * 7 + j - 7 = i * 7 + j by omega, ih i (by simpa using h)]
      simp
theorem qs_append (a b : List Qn) : qs (a ++ b) = qs a ++ qs b := by simp [qs]

structure Bk where
  rb : Nat
  mb : Nat
  c : Nat → Nat
  r : Nat → Nat
  m : Nat → Nat
  cs : Nat
  rs : Nat
  cm : Nat
def ptr (b : Nat) : Value := .pointer (some ⟨b, 0, none⟩)
structure Rep (w0 w : World) (B : Bk) (L : List (ByteArray × Slot)) (tag : Nat → Nat) (pv : Value) (s : SS) : Prop where
  reg : IsReg w B.rb B.mb L
  hl : slotL L nm = s.l
  clk : ∀ k, k < 4 → blk w (B.c k) = some (.cells #[.int .i64 (s.u k), .int .i64 (s.tt k)] 98 (0, 0))
  res : ∀ h, h < 3 → IsRes w (B.r h) (B.m h) (kvs (s.res h))
  csb : blk w B.cs = some (.cells #[ptr (B.c 0), ptr (B.c 1), ptr (B.c 2), ptr (B.c 3)] 40 (0, 0))
  rsb : blk w B.rs = some (.cells #[ptr (B.r 0), ptr (B.r 1), ptr (B.r 2)] 24 (0, 0))
  cmb : ∃ es clock, blk w B.cm = some (.map es clock) ∧ IntMap es s.cut
  pend : w.ownsRow 0 56 7 pv s.pend.length (qs s.pend)
  t_reg : ∀ b, fpR B.rb B.mb L b → tag b = 0
  t_clk : ∀ k, k < 4 → tag (B.c k) = 1 + k
  t_res : ∀ h, h < 3 → tag (B.r h) = 5 + h ∧ tag (B.m h) = 5 + h
  t_cs : tag B.cs = 8
  t_rs : tag B.rs = 9
  t_cm : tag B.cm = 10
  t_pend : ∀ g, pv.ownBlock = some g → tag g = 11
  ext : Ext (fun _ => False) w0 w
  t_old : ∀ b, b < w0.heap.size → tag b = 99
section
variable {w0 w w' : World} {B : Bk} {L : List (ByteArray × Slot)} {tag : Nat → Nat} {pv : Value} {s : SS} {i : Nat}
theorem Rep.k_reg (h : Rep w0 w B L tag pv s) (hx : Ext (fun b => tag b = i) w w') (hi : i ≠ 0) : IsReg w' B.rb B.mb L :=
  h.reg.ext hx (fun b hb e => hi (by rw [← e, h.t_reg b hb]))
theorem Rep.k_clk (h : Rep w0 w B L tag pv s) (hx : Ext (fun b => tag b = i) w w') (k : Nat) (hk : k < 4) (hi : i ≠ 1 + k) : blk w' (B.c k) = some (.cells #[.int .i64 (s.u k), .int .i64 (s.tt k)] 98 (0, 0)) :=
  (hx.blk (blk_lt (h.clk k hk)) (fun e => hi (by rw [← e, h.t_clk k hk]))).trans (h.clk k hk)
theorem Rep.k_res (h : Rep w0 w B L tag pv s) (hx : Ext (fun b => tag b = i) w w') (k : Nat) (hk : k < 3) (hi : i ≠ 5 + k) : IsRes w' (B.r k) (B.m k) (kvs (s.res k)) :=
  (h.res k hk).ext hx (fun e => hi (by rw [← e, (h.t_res k hk).1])) (fun e => hi (by rw [← e, (h.t_res k hk).2]))
theorem Rep.k_cs (h : Rep w0 w B L tag pv s) (hx : Ext (fun b => tag b = i) w w') (hi : i ≠ 8) : blk w' B.cs = some (.cells #[ptr (B.c 0), ptr (B.c 1), ptr (B.c 2), ptr (B.c 3)] 40 (0, 0)) :=
  (hx.blk (blk_lt h.csb) (fun e => hi (by rw [← e, h.t_cs]))).trans h.csb
theorem Rep.k_rs (h : Rep w0 w B L tag pv s) (hx : Ext (fun b => tag b = i) w w') (hi : i ≠ 9) : blk w' B.rs = some (.cells #[ptr (B.r 0), ptr (B.r 1), ptr (B.r 2)] 24 (0, 0)) :=
  (hx.blk (blk_lt h.rsb) (fun e => hi (by rw [← e, h.t_rs]))).trans h.rsb
theorem Rep.k_cm (h : Rep w0 w B L tag pv s) (hx : Ext (fun b => tag b = i) w w') (hi : i ≠ 10) : ∃ es clock, blk w' B.cm = some (.map es clock) ∧ IntMap es s.cut := by
  obtain ⟨es, c, h1, h2⟩ := h.cmb
  exact ⟨es, c, (hx.blk (blk_lt h1) (fun e => hi (by rw [← e, h.t_cm]))).trans h1, h2⟩
theorem Rep.k_pend (h : Rep w0 w B L tag pv s) (hx : Ext (fun b => tag b = i) w w') (hi : i ≠ 11) : w'.ownsRow 0 56 7 pv s.pend.length (qs s.pend) :=
  ownsRow_ext h.pend hx (fun g hg e => hi (by rw [← e, h.t_pend g hg]))

theorem Rep.k_ext (h : Rep w0 w B L tag pv s) (hx : Ext (fun b => tag b = i) w w') (hi : i ≠ 99) : Ext (fun _ => False) w0 w' :=
  h.ext.trans' hx (fun b hb e => hi (by rw [← e, h.t_old b hb]))
/-- nothing old turns -/
theorem Rep.quiet (h : Rep w0 w B L tag pv s) (hx0 : Ext (fun _ => False) w w') : Rep w0 w' B L tag pv s := by
  have hx : Ext (fun b => tag b = 0 ∧ False) w w' := hx0.mono (fun _ _ h => h.elim)
  exact ⟨h.reg.ext hx0 (fun _ _ => id), h.hl, fun k hk => (hx0.blk (blk_lt (h.clk k hk)) id).trans (h.clk k hk), fun k hk => (h.res k hk).ext hx0 id id, (hx0.blk (blk_lt h.csb) id).trans h.csb, (hx0.blk (blk_lt h.rsb) id).trans h.rsb,
    (by obtain ⟨es, c, h1, h2⟩ := h.cmb; exact ⟨es, c, (hx0.blk (blk_lt h1) id).trans h1, h2⟩), ownsRow_ext h.pend hx0 (fun _ _ => id), h.t_reg, h.t_clk, h.t_res, h.t_cs, h.t_rs, h.t_cm, h.t_pend, h.ext.trans hx0, h.t_old⟩
/-- a clock moves -/
theorem Rep.clock (h : Rep w0 w B L tag pv s) (k : Nat) (hk : k < 4) (hx : Ext (fun b => b = B.c k) w w') {u' t' : Int} (hb : blk w' (B.c k) = some (.cells #[.int .i64 u', .int .i64 t'] 98 (0, 0))) :
    Rep w0 w' B L tag pv { s with u := fun j => if j = k then u' else s.u j, tt := fun j => if j = k then t' else s.tt j } := by
  have hy : Ext (fun b => tag b = 1 + k) w w' := hx.mono (fun b _ e => by rw [e, h.t_clk k hk])
  refine ⟨h.k_reg hy (by omega), h.hl, fun j hj => ?_, fun j hj => h.k_res hy j hj (by omega), h.k_cs hy (by omega), h.k_rs hy (by omega), h.k_cm hy (by omega), h.k_pend hy (by omega), h.t_reg, h.t_clk, h.t_res, h.t_cs, h.t_rs, h.t_cm, h.t_pend, h.k_ext hy (by omega), h.t_old⟩
  by_cases e : j = k
  · subst e; simpa using hb
  · simpa [e] using h.k_clk hy j hj (by omega)
/-- a resolver turns -/
theorem Rep.resolver (h : Rep w0 w B L tag pv s) (k : Nat) (hk : k < 3) (hx : Ext (fun b => b = B.m k) w w') {l' : List (ByteArray × KV)} (hb : IsRes w' (B.r k) (B.m k) (kvs l')) :
    Rep w0 w' B L tag pv { s with res := fun j => if j = k then l' else s.res j } := by
  have hy : Ext (fun b => tag b = 5 + k) w w' := hx.mono (fun b _ e => by rw [e, (h.t_res k hk).2])
  refine ⟨h.k_reg hy (by omega), h.hl, fun j hj => h.k_clk hy j hj (by omega), fun j hj => ?_, h.k_cs hy (by omega), h.k_rs hy (by omega), h.k_cm hy (by omega), h.k_pend hy (by omega), h.t_reg, h.t_clk, h.t_res, h.t_cs, h.t_rs, h.t_cm, h.t_pend, h.k_ext hy (by omega), h.t_old⟩
  by_cases e : j = k
  · subst e; simpa using hb
  · simpa [e] using h.k_res hy j hj (by omega)
/-- the map of the epochs that may be cut turns -/
theorem Rep.cutmap (h : Rep w0 w B L tag pv s) {es' : Array MapEntry} {clock' : Nat} {c' : List (Int × Bool)} (hm : IntMap es' c') :
    Rep w0 (setBlock w B.cm (.map es' clock')) B L tag pv { s with cut := c' } := by
  have hy : Ext (fun b => tag b = 10) w (setBlock w B.cm (.map es' clock')) := (Ext.refl _ w).setBlock _ _ (fun _ => h.t_cm)
  obtain ⟨es, c, h1, _⟩ := h.cmb
  exact ⟨h.k_reg hy (by omega), h.hl, fun j hj => h.k_clk hy j hj (by omega), fun j hj => h.k_res hy j hj (by omega), h.k_cs hy (by omega), h.k_rs hy (by omega), ⟨es', clock', blk_setBlock_same h1 _, hm⟩, h.k_pend hy (by omega), h.t_reg, h.t_clk, h.t_res, h.t_cs, h.t_rs, h.t_cm, h.t_pend, h.k_ext hy (by omega), h.t_old⟩
/-- the pending ones are laid anew -/
theorem Rep.pending (h : Rep w0 w B L tag pv s) (hx : Ext (fun b => pv.ownBlock = some b) w w') {pv' : Value} {p' : List Qn} (hp : w'.ownsRow 0 56 7 pv' p'.length (qs p'))
    (hloc : ∀ g, pv'.ownBlock = some g → pv.ownBlock = some g ∨ w.heap.size ≤ g) : ∃ tag', Rep w0 w' B L tag' pv' { s with pend := p' } := by
  have hy : Ext (fun b => tag b = 11) w w' := hx.mono (fun b _ e => h.t_pend b e)
  refine ⟨fun b => if b < w.heap.size then tag b else 11, h.k_reg hy (by omega), h.hl, fun j hj => h.k_clk hy j hj (by omega), fun j hj => h.k_res hy j hj (by omega), h.k_cs hy (by omega), h.k_rs hy (by omega), h.k_cm hy (by omega), hp, fun b hb => ?_, fun j hj => ?_, fun j hj => ?_, ?_, ?_, ?_, fun g hg => ?_, h.k_ext hy (by omega), fun b hb => (if_pos (Nat.lt_of_lt_of_le hb h.ext.size)).trans (h.t_old b hb)⟩
  · rw [if_pos (h.reg.lt hb)]; exact h.t_reg b hb
  · rw [if_pos (blk_lt (h.clk j hj))]; exact h.t_clk j hj
  · rw [if_pos (h.res j hj).lt.1, if_pos (h.res j hj).lt.2]; exact h.t_res j hj
  · rw [if_pos (blk_lt h.csb)]; exact h.t_cs
  · rw [if_pos (blk_lt h.rsb)]; exact h.t_rs
  · obtain ⟨es, c, h1, _⟩ := h.cmb
    rw [if_pos (blk_lt h1)]; exact h.t_cm
  · rcases hloc g hg with e | e
    · show (if g < w.heap.size then tag g else 11) = 11
      split
      · exact h.t_pend g e
      · rfl
    · show (if g < w.heap.size then tag g else 11) = 11
      rw [if_neg (by omega)]
/-- the registry turns -/
theorem Rep.registry (h : Rep w0 w B L tag pv s) (hx : Ext (fpR B.rb B.mb L) w w') {L' : List (ByteArray × Slot)} (hr : IsReg w' B.rb B.mb L') (hf : ∀ b, fpR B.rb B.mb L' b → fpR B.rb B.mb L b ∨ w.heap.size ≤ b) :
    ∃ tag', Rep w0 w' B L' tag' pv { s with l := slotL L' nm } := by
  have hy : Ext (fun b => tag b = 0) w w' := hx.mono (fun b _ e => h.t_reg b e)
  refine ⟨fun b => if b < w.heap.size then tag b else 0, hr, rfl, fun j hj => h.k_clk hy j hj (by omega), fun j hj => h.k_res hy j hj (by omega), h.k_cs hy (by omega), h.k_rs hy (by omega), h.k_cm hy (by omega), h.k_pend hy (by omega), fun b hb => ?_, fun j hj => ?_, fun j hj => ?_, ?_, ?_, ?_, fun g hg => ?_, h.k_ext hy (by omega), fun b hb => (if_pos (Nat.lt_of_lt_of_le hb h.ext.size)).trans (h.t_old b hb)⟩
  · show (if b < w.heap.size then tag b else 0) = 0
    rcases hf b hb with e | e
    · rw [if_pos (h.reg.lt e)]; exact h.t_reg b e
    · rw [if_neg (by omega)]
  · rw [if_pos (blk_lt (h.clk j hj))]; exact h.t_clk j hj
  · rw [if_pos (h.res j hj).lt.1, if_pos (h.res j hj).lt.2]; exact h.t_res j hj
  · rw [if_pos (blk_lt h.csb)]; exact h.t_cs
  · rw [if_pos (blk_lt h.rsb)]; exact h.t_rs
  · obtain ⟨es, c, h1, _⟩ := h.cmb
    rw [if_pos (blk_lt h1)]; exact h.t_cm
  · obtain ⟨cur, hc⟩ := ownsRow_blk h.pend hg
    rw [if_pos (blk_lt hc)]; exact h.t_pend g hg
end
end Go.Proofs.Ytgmopnbejjfbjaa
