/-
  The laws on package names: the calls' cells; few; what a run's registries keep. Conditions: Inv.
-/
import Derived.Test.YtgmopnbejjfbjaaR18
namespace Go.Proofs.Ytgmopnbejjfbjaa
open Go.RowKit Go.MapKept
open Go.ChangeMaps (setBlock)

def NOp.cs (x : NOp) : List Value := [.int .i64 x.k, .string x.n, .int .i64 x.a, .int .i64 x.b, .int .i64 x.t]
def NOp.v (x : NOp) : Value := .agg #[.int .i64 x.k, .string x.n, .int .i64 x.a, .int .i64 x.b, .int .i64 x.t]
/-- the operations' cells lie in block b from off on -/
def Ops (w : World) (b off : Nat) (l : List NOp) : Prop := ∀ i (h : i < l.length) j u, (l[i].cs)[j]? = some u → w.cell? ⟨b, off + (i * 5 + j), none⟩ = some u
theorem Ops.ext {S : Nat → Prop} {w w' : World} {b off : Nat} {l : List NOp} (h : Ops w b off l) (hx : Ext S w w') (hb : 0 < l.length → b < w.heap.size ∧ ¬ S b) : Ops w' b off l :=
  fun i hi j u hu => (hx.cell (p := ⟨b, off + (i * 5 + j), none⟩) (hb (by omega)).1 (hb (by omega)).2).trans (h i hi j u hu)
theorem Ops.at {w : World} {b off : Nat} {l : List NOp} (h : Ops w b off l) (i : Nat) (hi : i < l.length) :
    w.cell? ⟨b, off + i * 5, none⟩ = some (.int .i64 l[i].k) ∧ w.cell? ⟨b, off + i * 5 + 1, none⟩ = some (.string l[i].n) ∧ w.cell? ⟨b, off + i * 5 + 2, none⟩ = some (.int .i64 l[i].a) ∧ w.cell? ⟨b, off + i * 5 + 3, none⟩ = some (.int .i64 l[i].b) ∧ w.cell? ⟨b, off + i * 5 + 4, none⟩ = some (.int .i64 l[i].t) := by
  have a := h i hi 0 _ rfl
  have b' := h i hi 1 _ rfl
  have c := h i hi 2 _ rfl
  have d := h i hi 3 _ rfl
  have e := h i hi 4 _ rfl
  simp only [Nat.add_zero, ← Nat.add_assoc] at a b' c d e
  exact ⟨a, b', c, d, e⟩
def fewX (x : NOp) : Bool := decide (x.n.size ≤ 60) && decide (x.a ≤ 4611686018427387904)
def fewB (l : List NOp) (most : Nat) : Bool := l.all fewX && decide (l.length ≤ most)
theorem fewB_bad {l : List NOp} {most : Nat} {x : NOp} (hx : x ∈ l) (h : fewX x = false) : fewB l most = false := by
  unfold fewB
  have : l.all fewX = false := by rw [List.all_eq_false]; exact ⟨x, hx, by simp [h]⟩
  rw [this]; rfl
set_option maxRecDepth 100000 in
set_option maxHeartbeats 1000000 in
theorem few_any (w : World) (b off cap : Nat) (l : List NOp) (most : Nat) (hl : Ops w b off l) (hlen : l.length ≤ 9223372036854775807) (hsz : ∀ x ∈ l, x.n.size ≤ 9223372036854775807) (hm : most ≤ 1000) :
    Calls Try.prog 23 #[.slice (some ⟨b, off, none⟩) l.length cap, .int .i64 most] w fun r w' => r = .returned (.bool (fewB l most)) ∧ w' = w := by
  have Hl := Lib.hid hl
  have Hsz := Lib.hid hsz
  clear hl hsz
  go_enter Try.func23, Try.ntmps23
  go_wp2_with fail
  go_loopg [8] l.length (fun g v8 wr => wr = w ∧ ∃ j : Nat, j ≤ l.length ∧ g = l.length - j ∧ v8 = .int .i64 j ∧ (l.take j).all fewX = true)
  case atStart => exact ⟨rfl, 0, Nat.zero_le _, rfl, rfl, by simp⟩
  case round =>
    obtain ⟨rfl, j, hj, rfl, rfl, hall⟩ := hrel
    have Hall := Lib.hid hall
    clear hall
    by_cases hjl : j < l.length
    · obtain ⟨c0, c1, c2, c3, c4⟩ := Hl.out.at j hjl
      obtain ⟨x, hx⟩ : ∃ x, l[j] = x := ⟨_, rfl⟩
      have hxs := Hsz.out l[j] (List.getElem_mem hjl)
      have hmem := List.getElem_mem hjl
      rw [hx] at c0 c1 c2 c3 c4 hxs hmem
      have htk : (l.take (j + 1)).all fewX = fewX x := by
        rw [List.take_add_one, List.getElem?_eq_getElem hjl, hx, List.all_append, Hall.out]; simp
      have Htk := Lib.hid htk
      have Hfew : Hid (fewX x = false → fewB l most = false) := Lib.hid (fewB_bad hmem)
      clear hx htk hmem
      have hfx : fewX x = false ↔ (60 : Int) < x.n.size ∨ 4611686018427387904 < x.a := by unfold fewX; simp; omega
      have Hfx := Lib.hid hfx
      clear hfx
      by_cases h1 : (60 : Int) < x.n.size
      · go_wp2
        go_ret
        exact ⟨by rw [Hfew.out (Hfx.out.2 (.inl h1))]; rfl, rfl⟩
      · by_cases h2 : 4611686018427387904 < x.a
        · go_wp2
          go_ret
          exact ⟨by rw [Hfew.out (Hfx.out.2 (.inr h2))]; rfl, rfl⟩
        · have hgood : fewX x = true := by
            cases h : fewX x
            · rcases Hfx.out.1 h with h | h
              · exact absurd h h1
              · exact absurd h h2
            · rfl
          have Hgood := Lib.hid hgood
          clear hgood
          go_wp2
          go_roundg (l.length - (j + 1))
          case measure => omega
          case rel => exact ⟨rfl, j + 1, by omega, rfl, by go_num, by rw [Htk.out]; exact Hgood.out⟩
    · have hje : l.take j = l := List.take_of_length_le (by omega)
      have hf : fewB l most = decide (l.length ≤ most) := by
        unfold fewB
        rw [← hje, Hall.out, hje]; simp
      have Hf := Lib.hid hf
      clear hje hf
      go_wp2
      go_ret
      exact ⟨by rw [Hf.out]; rfl, rfl⟩

/-! ### what a run keeps -/
structure Inv (M : List (ByteArray × List Ep)) (j : Nat) : Prop where
  nodup : (M.map Prod.fst).Nodup
  len : M.length ≤ j
  each : ∀ p ∈ M, isNameB p.1 = true ∧ 1 ≤ p.2.length ∧ p.2.length ≤ j ∧ ∀ x ∈ p.2, okEp x
theorem Inv.small {M : List (ByteArray × List Ep)} {j : Nat} (h : Inv M j) (hj : j ≤ 1000) : Small M :=
  ⟨h.nodup, Nat.le_trans h.len hj, fun p hp => by
    obtain ⟨a, _, b, c⟩ := h.each p hp
    refine ⟨?_, Nat.le_trans b hj, c⟩
    unfold isNameB at a
    simp at a
    omega⟩
theorem Inv.zero : Inv [] 0 := ⟨by simp, by simp, by simp⟩
theorem Inv.more {M : List (ByteArray × List Ep)} {j : Nat} (h : Inv M j) : Inv M (j + 1) := ⟨h.nodup, Nat.le_succ_of_le h.len, fun p hp => by
  obtain ⟨a, a', b, c⟩ := h.each p hp
  exact ⟨a, a', Nat.le_succ_of_le b, c⟩⟩
theorem aput_len {α : Type} (l : List (ByteArray × α)) (s : ByteArray) (v : α) : (aput l s v).length ≤ l.length + 1 ∧ ((assoc l s).isSome = true → (aput l s v).length = l.length) := by
  induction l with
  | nil => simp [aput, assoc]
  | cons p r ih =>
    obtain ⟨k, u⟩ := p
    simp only [aput, assoc]
    split
    · simp
    · simp only [List.length_cons]
      exact ⟨by omega, fun h => by have := ih.2 h; omega⟩
theorem aput_nodup {α : Type} {l : List (ByteArray × α)} (h : (l.map Prod.fst).Nodup) (s : ByteArray) (v : α) : ((aput l s v).map Prod.fst).Nodup := by rw [aput_k]; exact kput_nodup h
theorem Inv.put {M : List (ByteArray × List Ep)} {j : Nat} (h : Inv M j) {n : ByteArray} (hn : isNameB n = true) {l : List Ep} (h1 : 1 ≤ l.length) (h2 : l.length ≤ j + 1) (h3 : ∀ x ∈ l, okEp x) : Inv (aput M n l) (j + 1) :=
  ⟨aput_nodup h.nodup n l, by have := (aput_len M n l).1; have := h.len; omega, fun p hp => by
    rcases mem_aput hp with rfl | hp
    · exact ⟨hn, h1, h2, h3⟩
    · obtain ⟨a, a', b, c⟩ := h.each p hp
      exact ⟨a, a', Nat.le_succ_of_le b, c⟩⟩
theorem Inv.get {M : List (ByteArray × List Ep)} {j : Nat} (h : Inv M j) (n : ByteArray) : ((assoc M n).getD []).length ≤ j ∧ (∀ x ∈ (assoc M n).getD [], okEp x) ∧ ((assoc M n).getD [] ≠ [] → isNameB n = true) := by
  cases ha : assoc M n with
  | none => simp
  | some l =>
    obtain ⟨a, _, b, c⟩ := h.each _ (mem_of_assoc ha)
    exact ⟨b, c, fun _ => a⟩
theorem Inv.publish {M : List (ByteArray × List Ep)} {j : Nat} (h : Inv M j) (n : ByteArray) (a t now : Int) : Inv (publishM M n a t now).1 (j + 1) := by
  unfold publishM
  split
  · rename_i hb
    simp only [Bool.and_eq_true] at hb
    simp only
    split
    · exact h.more
    · obtain ⟨g1, g2, _⟩ := h.get n
      refine h.put hb.1.1 (by simp) (by simp; omega) (fun x hx => ?_)
      rcases List.mem_append.1 hx with hx | hx
      · exact g2 x hx
      · have hv := hb.1.2
        unfold validB at hv
        simp at hx hv
        subst hx
        unfold okEp
        simp only
        omega
  · exact h.more
theorem note_ok {l : List Ep} (h : ∀ x ∈ l, okEp x) {now : Int} (hn : readB now = true) : ∀ x ∈ noteM l now, okEp x := fun x hx => by
  unfold noteM at hx
  rcases List.mem_append.1 hx with hx | hx
  · exact h x ((List.dropLast_sublist l).subset hx)
  · cases hl : l.getLast? with
    | none => rw [hl] at hx; cases hx
    | some y =>
      rw [hl] at hx
      simp at hx
      have := h y (List.mem_of_getLast? hl)
      unfold readB at hn
      simp at hn
      subst hx
      unfold okEp at *
      simp only
      omega
theorem Inv.lookup {M : List (ByteArray × List Ep)} {j : Nat} (h : Inv M j) (n : ByteArray) (now : Int) : Inv (lookupM M n now).1 (j + 1) := by
  unfold lookupM
  split
  · rename_i hb
    simp only
    split
    · exact h.more
    · rename_i x hx
      obtain ⟨g1, g2, g3⟩ := h.get n
      have hne : (assoc M n).getD [] ≠ [] := by intro e; rw [e] at hx; cases hx
      have hpos := List.length_pos_iff.2 hne
      exact h.put (g3 hne) (by rw [note_length]; omega) (by rw [note_length]; omega) (note_ok g2 hb)
  · exact h.more
theorem Inv.step {M : List (ByteArray × List Ep)} {j : Nat} (h : Inv M j) (x : NOp) : Inv (stepM M x) (j + 1) := by
  unfold stepM
  split
  · exact h.publish _ _ _ _
  split
  · exact h.lookup _ _
  · exact h.more
theorem ref_zero (w : World) (v : Value) (h : w.ownsRow 0 122 2 v 0 []) : IsRef45 w v [] := ⟨[], ⟨h, by simp⟩, by simp [ksort]⟩
end Go.Proofs.Ytgmopnbejjfbjaa
