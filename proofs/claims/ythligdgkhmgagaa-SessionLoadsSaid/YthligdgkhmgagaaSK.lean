/-
  The reference of package session: what lies in memory (IsRef); find, Last. append from any slice. Conditions: none beyond IsRef.
-/
import Derived.Test.YthligdgkhmgagaaSH
import Derived.Test.YthligdgkhmgagaaSorted
import Derived.Maps.AppendAt
import Derived.Laws.AppendOwnNone
import Derived.Deep.RegionLaw
namespace Go.Proofs.Ythligdgkhmgagaa
open Go.RowKit Go.MapKept
open Go.ChangeMaps (setBlock)

/-! ### append, whatever the source -/
theorem grownBy_refl (w : World) (row : Option Nat) : w.grownBy w row := ⟨rfl, rfl, rfl, Nat.le_refl _, fun _ _ _ => rfl⟩
/-- the m elements from the slice's head on hold these cells -/
def Lies (w : World) (ao : Option Addr) (m : Nat) (news : List Value) : Prop := m = 0 ∨ ∃ ad, ao = some ad ∧ ∀ j u, news[j]? = some u → w.cell? (ad.add j) = some u
theorem Lies.ext {S : Nat → Prop} {w w' : World} {ao : Option Addr} {m : Nat} {news : List Value} (h : Lies w ao m news) (hx : Ext S w w') (hn : ∀ ad, ao = some ad → 0 < m → ¬ S ad.block) (hp : m = 0 ∨ 0 < news.length) : Lies w' ao m news := by
  by_cases h0 : m = 0
  · exact .inl h0
  · rcases h with h | ⟨ad, rfl, h⟩
    · exact .inl h
    · refine .inr ⟨ad, rfl, fun j u hu => ?_⟩
      have hb : (ad.add j).block = ad.block := by unfold Addr.add; split <;> rfl
      have hlt : ad.block < w.heap.size := by rw [← hb]; exact World.block_lt_of_cell? w _ (h j u hu)
      exact (hx.cell (p := ad.add j) (by rw [hb]; exact hlt) (by rw [hb]; exact hn ad rfl (by omega))).trans (h j u hu)
section
variable {P : Program} {w : World}
theorem run_append_any (base : Nat) (t ty e : TypeId) (i : TypeInfo) (z : Value) (size bytes : Nat) (ht : P.underlying t = some (.slice e)) (hi : P.info? e = some i) (hz : i.zero = some z)
    (hsize : i.size = size) (hby : i.bytes = bytes) (hzs : z.cells.size = size) (hsz : 0 < size)
    (v : Value) (n : Nat) (xs : List Value) (hown : w.ownsRow base e size v n xs)
    (ao : Option Addr) (m c : Nat) (hc : ao = none → c = 0) (news : List Value) (hl : news.length = m * size) (hnews : Lies w ao m news) (h1 : ∀ u ∈ news, u.oneCell' = true)
    (h63 : n + m ≤ maxLen) (hbytes : (n + m) * bytes ≤ 140737488355328) (hbase : base ≤ w.heap.size) :
    ∃ v' w', (Builtin.append_ #[t, t] ty #[v, .slice ao m c]).run P w = .ok v' w' ∧ w'.ownsRow base e size v' (n + m) (xs ++ news) ∧ w.grownBy w' v.ownBlock ∧ (v'.ownBlock = v.ownBlock ∨ v'.ownBlock = some w.heap.size) := by
  cases ao with
  | none =>
    have hm : m = 0 := by
      rcases hnews with h | ⟨ad, h, _⟩
      · exact h
      · cases h
    subst hm
    have hc0 := hc rfl
    subst hc0
    have hn : news = [] := List.eq_nil_of_length_eq_zero (by rw [hl]; simp)
    subst hn
    refine ⟨v, w, run_append_owned_none w base t ty e i size ht hi v n xs hown, by simpa using hown, grownBy_refl _ _, .inl rfl⟩
  | some ad =>
    have hn : ∀ j u, news[j]? = some u → w.cell? (ad.add j) = some u := by
      rcases hnews with h | ⟨ad', h, h2⟩
      · subst h
        have hn : news = [] := List.eq_nil_of_length_eq_zero (by rw [hl]; simp)
        subst hn
        intro j u hu; simp at hu
      · cases h; exact h2
    obtain ⟨v', w', hr, h2, h3, _, h5⟩ := run_append_own_at (P := P) w base t ty e i z size bytes ht hi hz hsize hby hzs hsz v n xs hown ad m c news hl hn h1 h63 hbytes hbase
    exact ⟨v', w', hr, h2, h3, h5⟩
theorem wpList_append_any {ops : Array Oper} {rest : List Oper} {o : Oper} {a : Act} {Q : Exit → Act → World → Prop} (hgd : o.guard = none) (s x : Operand) (t : TypeId)
    (ho : o.op = .call { callee := .builtin .append, args := #[s, x], argTypes := #[t, t] })
    (base : Nat) (e : TypeId) (i : TypeInfo) (z : Value) (size bytes : Nat) (ht : P.underlying t = some (.slice e)) (hi : P.info? e = some i) (hz : i.zero = some z)
    (hsize : i.size = size) (hby : i.bytes = bytes) (hzs : z.cells.size = size) (hsz : 0 < size)
    (v : Value) (n : Nat) (xs : List Value) (hs : a.eval s = v) (hown : w.ownsRow base e size v n xs)
    (ao : Option Addr) (m c : Nat) (hc : ao = none → c = 0) (news : List Value) (hx : a.eval x = .slice ao m c) (hl : news.length = m * size) (hnews : Lies w ao m news) (h1 : ∀ u ∈ news, u.oneCell' = true)
    (h63 : n + m ≤ maxLen) (hbytes : (n + m) * bytes ≤ 140737488355328) (hbase : base ≤ w.heap.size)
    (h : ∀ v' w', w'.ownsRow base e size v' (n + m) (xs ++ news) → w.grownBy w' v.ownBlock → (v'.ownBlock = v.ownBlock ∨ v'.ownBlock = some w.heap.size) → wpList P ops Q rest (a.put o.dst v') w') :
    wpList P ops Q (o :: rest) a w := by
  refine wpList_plain hgd fun K hK => ?_
  obtain ⟨v', w', hr, h2, h3, h5⟩ := run_append_any (P := P) (w := w) base t o.type e i z size bytes ht hi hz hsize hby hzs hsz v n xs hown ao m c hc news hl hnews h1 h63 hbytes hbase
  unfold Oper.wp execOp
  simp only [ho, resolve, invoke, builtin, Sem.run_bind, Sem.run_pure, Result.andThen_ok, List.map_toArray, List.map_cons, List.map_nil, hs, hx, hr]
  exact hK _ _ (h v' w' h2 h3 h5)
theorem step_append_any {ops : Array Oper} {o : Oper} {a : Act} {K : Act → World → Prop} {Q : Exit → Act → World → Prop} {E : Prop} (hgd : o.guard = none) (s x : Operand) (t : TypeId)
    (ho : o.op = .call { callee := .builtin .append, args := #[s, x], argTypes := #[t, t] })
    (base : Nat) (e : TypeId) (i : TypeInfo) (z : Value) (size bytes : Nat) (ht : P.underlying t = some (.slice e)) (hi : P.info? e = some i) (hz : i.zero = some z)
    (hsize : i.size = size) (hby : i.bytes = bytes) (hzs : z.cells.size = size) (hsz : 0 < size)
    (v : Value) (n : Nat) (xs : List Value) (hs : a.eval s = v) (hown : w.ownsRow base e size v n xs)
    (ao : Option Addr) (m c : Nat) (hc : ao = none → c = 0) (news : List Value) (hx : a.eval x = .slice ao m c) (hl : news.length = m * size) (hnews : Lies w ao m news) (h1 : ∀ u ∈ news, u.oneCell' = true)
    (h63 : n + m ≤ maxLen) (hbytes : (n + m) * bytes ≤ 140737488355328) (hbase : base ≤ w.heap.size)
    (h : ∀ v' w', w'.ownsRow base e size v' (n + m) (xs ++ news) → w.grownBy w' v.ownBlock → (v'.ownBlock = v.ownBlock ∨ v'.ownBlock = some w.heap.size) → K (a.put o.dst v') w') :
    if Region.wanted o (yielded ops a.tmps) = true then Oper.wp P o a w K Q else E := by
  have hw : Region.wanted o (yielded ops a.tmps) = true := by simp [Region.wanted, hgd]
  rw [if_pos hw]
  obtain ⟨v', w', hr, h2, h3, h5⟩ := run_append_any (P := P) (w := w) base t o.type e i z size bytes ht hi hz hsize hby hzs hsz v n xs hown ao m c hc news hl hnews h1 h63 hbytes hbase
  unfold Oper.wp execOp
  simp only [ho, resolve, invoke, builtin, Sem.run_bind, Sem.run_pure, Result.andThen_ok, List.map_toArray, List.map_cons, List.map_nil, hs, hx, hr]
  exact h v' w' h2 h3 h5
end
/-! ### rows of a fixed width -/
section
variable {β : Type} {f : β → List Value} {m : Nat}
theorem fm_length (hf : ∀ x, (f x).length = m) (l : List β) : (l.flatMap f).length = l.length * m := by
  induction l with
  | nil => simp
  | cons x r ih => rw [List.flatMap_cons, List.length_append, hf, ih, List.length_cons, Nat.succ_mul]; omega
theorem fm_drop (hf : ∀ x, (f x).length = m) (l : List β) (i : Nat) : (l.flatMap f).drop (i * m) = (l.drop i).flatMap f := by
  induction l generalizing i with
  | nil => simp
  | cons x r ih =>
    cases i with
    | zero => simp
    | succ i => rw [List.flatMap_cons, Nat.succ_mul, Nat.add_comm, ← List.drop_drop, List.drop_left' (hf x), ih]; rfl
theorem fm_take (hf : ∀ x, (f x).length = m) (l : List β) (i : Nat) : (l.flatMap f).take (i * m) = (l.take i).flatMap f := by
  induction l generalizing i with
  | nil => simp
  | cons x r ih =>
    cases i with
    | zero => simp
    | succ i => rw [List.flatMap_cons, Nat.succ_mul, Nat.add_comm, List.take_add, List.take_left' (hf x), List.drop_left' (hf x), ih]; rfl
theorem fm_get (hf : ∀ x, (f x).length = m) (l : List β) (i : Nat) {x : β} (h : l[i]? = some x) (j : Nat) (hj : j < m) : (l.flatMap f)[i * m + j]? = (f x)[j]? := by
  have h1 : (l.flatMap f)[i * m + j]? = ((l.flatMap f).drop (i * m))[j]? := by rw [List.getElem?_drop]
  rw [h1, fm_drop hf]
  obtain ⟨hi, he⟩ := List.getElem?_eq_some_iff.1 h
  rw [List.drop_eq_getElem_cons hi, he, List.flatMap_cons, List.getElem?_append_left (by rw [hf]; exact hj)]
/-- a row's cells, by element -/
theorem row_at {w : World} {base : Nat} {e : TypeId} {n g cap : Nat} {l : List β} (hf : ∀ x, (f x).length = m) (h : w.ownsRow base e m (.slice (some ⟨g, 0, none⟩) n cap) n (l.flatMap f)) (i : Nat) {x : β} (hx : l[i]? = some x) (j : Nat) (hj : j < m) {u : Value} (hu : (f x)[j]? = some u) :
    w.cell? ⟨g, i * m + j, none⟩ = some u := by
  have := h.cells (g := g) rfl (i * m + j) u (by rw [fm_get hf l i hx j hj]; exact hu)
  rwa [Addr.add_lit, Nat.zero_add] at this
/-- a part of a row lies there, as a source -/
theorem row_lies {w : World} {base : Nat} {e : TypeId} {n g cap : Nat} {l : List β} (hf : ∀ x, (f x).length = m) (h : w.ownsRow base e m (.slice (some ⟨g, 0, none⟩) n cap) n (l.flatMap f)) (i k off : Nat) (ho : off = i * m) :
    Lies w (some ⟨g, off, none⟩) k (((l.drop i).take k).flatMap f) := by
  subst ho
  refine .inr ⟨_, rfl, fun j u hu => ?_⟩
  rw [← fm_take hf, ← fm_drop hf] at hu
  have hj : j < k * m := by
    have := (List.getElem?_eq_some_iff.1 hu).1
    rw [List.length_take] at this; omega
  rw [List.getElem?_take_of_lt hj, List.getElem?_drop] at hu
  have := h.cells (g := g) rfl (i * m + j) u hu
  rw [Addr.add_lit, Nat.zero_add] at this
  rw [Addr.add_lit]
  exact this
end
/-! ### what lies in memory of the reference -/
theorem iget_k {α : Type} (l : List (Int × α)) (k : Int) : iget l k = kget l k := by
  induction l with
  | nil => rfl
  | cons q r ih => obtain ⟨a, b⟩ := q; simp only [iget, kget, ih]
theorem iput_k {α : Type} (l : List (Int × α)) (k : Int) (v : α) : iput l k v = kput l k v := by
  induction l with
  | nil => rfl
  | cons q r ih => obtain ⟨a, b⟩ := q; simp only [iput, kput, ih]
theorem ikeys_k {α : Type} {l : List (Int × α)} (h : (l.map Prod.fst).Nodup) : ikeys l = (ksort leI l).map Prod.fst := by
  have h1 := ikeys_lt h
  have h2 : ((ksort leI l).map Prod.fst).Pairwise (fun x y => x < y) := List.pairwise_map.2 ((ksort_lt linI h).imp (fun {a b} h => by unfold ltK leI at h; simp at h; exact h))
  have hp : (ikeys l).Perm ((ksort leI l).map Prod.fst) := (ikeys_perm l).trans ((ksort_perm l).map _).symm
  exact List.Perm.eq_of_pairwise (le := fun x y => x < y) (fun a b _ _ h1 h2 => by omega) h1 h2 hp
def cellsC (p : Int × Ans) : List Value := [.int .i64 p.1, .int .i64 p.2.n, .string p.2.s]
def cellsS (p : Int × Int) : List Value := [.int .i64 p.1, .int .i64 p.2]
theorem cellsC_len : ∀ p, (cellsC p).length = 3 := fun _ => rfl
theorem cellsS_len : ∀ p, (cellsS p).length = 2 := fun _ => rfl
def sC (T : Tbl) : List (Int × Ans) := ksort leI T.cl
def sS (T : Tbl) : List (Int × Int) := ksort leI T.st
def IsRef (w : World) (v : Value) (T : Tbl) : Prop :=
  ∃ vc vs, v = .agg #[vc, .int .i64 T.gen, vs] ∧ w.ownsRow 0 74 3 vc (sC T).length ((sC T).flatMap cellsC) ∧ w.ownsRow 0 104 2 vs (sS T).length ((sS T).flatMap cellsS)
theorem ownsRow_keep {w w' : World} {base : Nat} {e : TypeId} {size : Nat} {v : Value} {n : Nat} {xs : List Value} (h : w.ownsRow base e size v n xs) (hx : Ext (fun _ => False) w w') : w'.ownsRow base e size v n xs := ownsRow_ext h hx (fun _ _ h => h)
theorem IsRef.keep {w w' : World} {v : Value} {T : Tbl} (h : IsRef w v T) (hx : Ext (fun _ => False) w w') : IsRef w' v T := by
  obtain ⟨vc, vs, rfl, h1, h2⟩ := h
  exact ⟨vc, vs, rfl, ownsRow_keep h1 hx, ownsRow_keep h2 hx⟩
theorem row_type {w : World} {base : Nat} {e : TypeId} {size : Nat} {v : Value} {n : Nat} {xs : List Value} (h : w.ownsRow base e size v n xs) {g : Nat} (hg : v.ownBlock = some g) : ∃ cur, blk w g = some (.cells cur e (0, 0)) := by
  rcases h.2 with ⟨h1, _⟩ | ⟨g', c, cur, h1, _, h3, _⟩
  · rw [h1] at hg; cases hg
  · rw [h1] at hg; cases hg; exact ⟨cur, h3⟩
/-- what package session turns is no part of the reference's -/
theorem IsRef.table {w w' : World} {v : Value} {T T' : Tbl} {tb cb sb : Nat} {S : Nat → Prop} (h : IsRef w v T) (ht : IsTable w tb cb sb T') (hx : Ext S w w') (hS : ∀ k, S k → tset tb cb sb k) : IsRef w' v T := by
  obtain ⟨vc, vs, rfl, h1, h2⟩ := h
  have key : ∀ {e : TypeId} {x : Value} {size n : Nat} {xs : List Value}, w.ownsRow 0 e size x n xs → e ≠ 60 → ∀ g, x.ownBlock = some g → ¬ S g := fun {e x size n xs} hr he g hg hs => by
    obtain ⟨cur, hb⟩ := row_type hr hg
    obtain ⟨t1, ⟨e1, c1, t2, _⟩, ⟨e2, c2, t3, _⟩, _⟩ := ht
    rcases hS g hs with rfl | rfl | rfl
    · rw [t1] at hb; cases hb; exact he rfl
    · rw [t2] at hb; cases hb
    · rw [t3] at hb; cases hb
  exact ⟨vc, vs, rfl, ownsRow_ext h1 hx (key h1 (by decide)), ownsRow_ext h2 hx (key h2 (by decide))⟩
theorem sC_lt {T : Tbl} (h : TGood T) : (sC T).Pairwise (ltK leI) := ksort_lt linI h.nodup
theorem sC_get {T : Tbl} (h : TGood T) (k : Int) : kget (sC T) k = iget T.cl k := by rw [iget_k]; exact kget_ksort h.nodup k
set_option maxRecDepth 100000 in
set_option maxHeartbeats 1000000 in
theorem rin_any (a : Int) (w : World) : Calls Try.prog 59 #[.int .i64 a] w fun r w' => r = .returned (.bool (inI a)) ∧ w' = w := by
  by_cases h : 1 ≤ a
  · have hi : inI a = decide (a ≤ 4611686018427387904) := by unfold inI; simp [h]
    rw [hi]
    clear hi
    go_enter Try.func59, Try.ntmps59
    go_wp2
    go_ret
    exact ⟨rfl, rfl⟩
  · have hi : inI a = false := by unfold inI; simp [h]
    rw [hi]
    clear hi
    go_enter Try.func59, Try.ntmps59
    go_wp2
    go_ret
    exact ⟨rfl, rfl⟩
end Go.Proofs.Ythligdgkhmgagaa
