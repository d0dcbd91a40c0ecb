/-
  What a registry holds (IsReg), and how a put keeps it. Conditions: none beyond each lemma's own.
-/
import Derived.Test.YtgmopnbejjfbjaaX6
import Derived.Deep.AppendLies
namespace Go.Proofs.Ytgmopnbejjfbjaa
open Go.RowKit Go.MapKept
open Go.ChangeMaps (setBlock)

/-- the map's entries, and its clock -/
abbrev StrMapS (es : Array MapEntry) (clock : Nat) (l : List (ByteArray × Value)) : Prop := StrMap es l ∧ Stamped es clock
theorem assoc_none {α : Type} {l : List (ByteArray × α)} {s : ByteArray} (h : assoc l s = none) : ∀ p ∈ l, p.1 ≠ s := by
  induction l with
  | nil => intro p hp; cases hp
  | cons q r ih =>
    obtain ⟨a, b⟩ := q
    simp only [assoc] at h
    split at h
    · cases h
    · rename_i hn
      intro p hp
      rcases List.mem_cons.1 hp with rfl | hp
      · exact hn
      · exact ih h p hp
/-- 'run_update_str', the stamps kept -/
theorem run_update_st {P : Program} {t k e : TypeId} {b : Nat} {es : Array MapEntry} {clock : Nat} {l : List (ByteArray × Value)} (ht : P.underlying t = some (.map k e)) (hk : P.underlying k = some .string) (hl : StrMap es l) (hst : Stamped es clock) (s : ByteArray) (u : Value) :
    ∃ es' clock', (∀ w : World, blk w b = some (.map es clock) → (Instr.mapUpdate t (.map (some b)) (.string s) u).run P w = .ok () (setBlock w b (.map es' clock'))) ∧ StrMapS es' clock' (aput l s u) := by
  rcases findNow_str s es.toList l 0 hl with ⟨h1, h2, h3⟩ | ⟨j, e', v, h1, h2, h4, h5, h6⟩
  · refine ⟨es.push { key := .string s, val := u, born := clock }, clock + 1, fun w hb => ?_, ?_, ?_⟩
    · simp [Instr.mapUpdate, run_underlying ht, MapKept.run_getObj_map hb, MapKept.run_checkKey hk (show IsKey .string (.string s) from trivial), MapKept.run_findKey hk h2, Result.andThen, MapKept.run_setObj_map _ hb, ChangeMaps.setBlock]
    · unfold StrMap at *
      simp [hl, h3]
    · refine stamped_push hst (fun x hx e => ?_)
      have : (x.key, x.val) ∈ es.toList.map (fun e => (e.key, e.val)) := List.mem_map.2 ⟨x, hx, rfl⟩
      rw [hl] at this
      obtain ⟨p, hp, hpe⟩ := List.mem_map.1 this
      refine assoc_none h1 p hp ?_
      have hk2 : Value.string p.1 = x.key := congrArg Prod.fst hpe
      rw [e] at hk2
      exact Value.string.inj hk2
  · refine ⟨es.modify j fun e => { e with key := .string s, val := u }, clock, fun w hb => ?_, ?_, ?_⟩
    · have h4' : es[j]? = some e' := by simpa using h4
      simp only [Nat.zero_add] at h2
      simp [Instr.mapUpdate, run_underlying ht, MapKept.run_getObj_map hb, MapKept.run_checkKey hk (show IsKey .string (.string s) from trivial), MapKept.run_findKey hk h2, Result.andThen, MapKept.run_setObj_map _ hb, ChangeMaps.setBlock, h4', h5, run_keyThatStays (show IsKey .string (.string s) from trivial)]
    · unfold StrMap
      have := h6 u
      rw [Array.toList_modify]
      exact this
    · refine stamped_modify hst j _ (fun _ _ => rfl) (fun x _ hx => ?_)
      have h4' : es[j]? = some e' := by simpa using h4
      rw [h4'] at hx
      cases hx
      exact h5.symm
structure Slot where
  v : Value
  l : List Ep
/-- the registry at rb, its map's block mb: its names with their epochs, each name's epochs in a row of its own -/
def IsReg (w : World) (rb mb : Nat) (L : List (ByteArray × Slot)) : Prop :=
  blk w rb = some (.cells #[.map (some mb)] 96 (0, 0)) ∧ (∃ es clock, blk w mb = some (.map es clock) ∧ StrMapS es clock (L.map fun p => (p.1, p.2.v))) ∧
  (∀ p ∈ L, w.ownsRow 0 100 3 p.2.v p.2.l.length (eps p.2.l) ∧ p.2.v.ownBlock ≠ none) ∧ L.Pairwise (fun p q => p.2.v.ownBlock ≠ q.2.v.ownBlock)
def regM (L : List (ByteArray × Slot)) : List (ByteArray × List Ep) := L.map fun p => (p.1, p.2.l)
/-- the blocks that the registry may write -/
def fpR (rb mb : Nat) (L : List (ByteArray × Slot)) (b : Nat) : Prop := b = rb ∨ b = mb ∨ ∃ p ∈ L, p.2.v.ownBlock = some b

theorem assoc_map {α β : Type} (f : α → β) (l : List (ByteArray × α)) (s : ByteArray) : assoc (l.map fun p => (p.1, f p.2)) s = (assoc l s).map f := by
  induction l with
  | nil => rfl
  | cons p r ih =>
    obtain ⟨k, v⟩ := p
    simp only [List.map_cons, assoc] at *
    by_cases h : k = s
    · simp [h]
    · simp [h, ih]
theorem aput_map {α β : Type} (f : α → β) (l : List (ByteArray × α)) (s : ByteArray) (v : α) : aput (l.map fun p => (p.1, f p.2)) s (f v) = (aput l s v).map fun p => (p.1, f p.2) := by
  induction l with
  | nil => rfl
  | cons p r ih =>
    obtain ⟨k, u⟩ := p
    simp only [List.map_cons, aput] at *
    by_cases h : k = s
    · simp [h]
    · simp [h, ih]
theorem mem_of_assoc {α : Type} {l : List (ByteArray × α)} {s : ByteArray} {v : α} (h : assoc l s = some v) : (s, v) ∈ l := by
  induction l with
  | nil => simp [assoc] at h
  | cons p r ih =>
    obtain ⟨k, u⟩ := p
    simp only [assoc] at h
    by_cases hk : k = s
    · simp [hk] at h; subst h; subst hk; simp
    · simp [hk] at h; exact List.mem_cons_of_mem _ (ih h)
theorem mem_aput {α : Type} {l : List (ByteArray × α)} {s : ByteArray} {v : α} {p : ByteArray × α} (h : p ∈ aput l s v) : p = (s, v) ∨ p ∈ l := by
  induction l with
  | nil => simp [aput] at h; exact .inl h
  | cons q r ih =>
    obtain ⟨k, u⟩ := q
    simp only [aput] at h
    by_cases hk : k = s
    · simp [hk] at h; subst hk
      rcases h with h | h
      · exact .inl h
      · exact .inr (List.mem_cons_of_mem _ h)
    · simp [hk] at h
      rcases h with h | h
      · exact .inr (by simp [h])
      · rcases ih h with h | h
        · exact .inl h
        · exact .inr (List.mem_cons_of_mem _ h)
theorem aput_pw_new {α : Type} (R : α → α → Prop) (hsym : ∀ a b, R a b → R b a) {l : List (ByteArray × α)} {s : ByteArray} {v : α} (h : l.Pairwise (fun p q => R p.2 q.2))
    (hv : ∀ p ∈ l, R p.2 v) : (aput l s v).Pairwise (fun p q => R p.2 q.2) := by
  induction l with
  | nil => simp [aput]
  | cons p r ih =>
    obtain ⟨k, u⟩ := p
    obtain ⟨h1, h2⟩ := List.pairwise_cons.1 h
    simp only [aput]
    by_cases hk : k = s
    · simp only [hk, if_true]
      exact List.pairwise_cons.2 ⟨fun q hq => hsym _ _ (hv q (List.mem_cons_of_mem _ hq)), h2⟩
    · simp only [hk, if_false]
      refine List.pairwise_cons.2 ⟨fun q hq => ?_, ih h2 (fun p hp => hv p (List.mem_cons_of_mem _ hp))⟩
      rcases mem_aput hq with rfl | hq
      · exact hv (k, u) (by simp)
      · exact h1 q hq
theorem aput_pw_old {α : Type} (R : α → α → Prop) {l : List (ByteArray × α)} {s : ByteArray} {v u : α} (h : l.Pairwise (fun p q => R p.2 q.2)) (hu : assoc l s = some u)
    (h1 : ∀ x, R x u → R x v) (h2 : ∀ x, R u x → R v x) : (aput l s v).Pairwise (fun p q => R p.2 q.2) := by
  induction l with
  | nil => simp [assoc] at hu
  | cons p r ih =>
    obtain ⟨k, x⟩ := p
    obtain ⟨g1, g2⟩ := List.pairwise_cons.1 h
    simp only [assoc] at hu
    simp only [aput]
    by_cases hk : k = s
    · simp only [hk, if_true, Option.some.injEq] at hu ⊢
      subst hu
      exact List.pairwise_cons.2 ⟨fun q hq => h2 _ (g1 q hq), g2⟩
    · simp only [hk, if_false] at hu ⊢
      refine List.pairwise_cons.2 ⟨fun q hq => ?_, ih g2 hu⟩
      rcases mem_aput hq with rfl | hq
      · exact h1 _ (g1 (s, u) (mem_of_assoc hu))
      · exact g1 q hq
theorem mem_aput_pw {α : Type} (R : α → α → Prop) (hsym : ∀ a b, R a b → R b a) {l : List (ByteArray × α)} {s : ByteArray} {v : α} (h : l.Pairwise (fun p q => R p.2 q.2)) {p : ByteArray × α} (hp : p ∈ aput l s v) :
    p = (s, v) ∨ (p ∈ l ∧ ∀ u, assoc l s = some u → R p.2 u) := by
  induction l with
  | nil => simp [aput] at hp; exact .inl hp
  | cons q r ih =>
    obtain ⟨k, x⟩ := q
    obtain ⟨g1, g2⟩ := List.pairwise_cons.1 h
    simp only [aput, assoc] at *
    by_cases hk : k = s
    · simp only [hk, if_true, List.mem_cons, Option.some.injEq] at hp ⊢
      rcases hp with hp | hp
      · exact .inl hp
      · exact .inr ⟨.inr hp, fun u hu => hu ▸ hsym _ _ (g1 p hp)⟩
    · simp only [hk, if_false, List.mem_cons] at hp ⊢
      rcases hp with rfl | hp
      · exact .inr ⟨.inl rfl, fun u hu => g1 (s, u) (mem_of_assoc hu)⟩
      · rcases ih g2 hp with h' | ⟨h1, h2⟩
        · exact .inl h'
        · exact .inr ⟨.inr h1, h2⟩
/-- the same for a map's store: the new block as a function of the value -/
theorem run_update_fun {P : Program} {t k e : TypeId} {b : Nat} {es : Array MapEntry} {clock : Nat} {l : List (ByteArray × Value)} (ht : P.underlying t = some (.map k e)) (hk : P.underlying k = some .string) (hl : StrMapS es clock l) (s : ByteArray) :
    ∃ f : Value → Obj, ∀ u, (∃ es' clock', f u = .map es' clock' ∧ StrMapS es' clock' (aput l s u)) ∧ ∀ w : World, blk w b = some (.map es clock) → (Instr.mapUpdate t (.map (some b)) (.string s) u).run P w = .ok () (setBlock w b (f u)) := by
  refine ⟨fun u => .map (Classical.choose (run_update_st (P := P) (b := b) (clock := clock) ht hk hl.1 hl.2 s u)) (Classical.choose (Classical.choose_spec (run_update_st (P := P) (b := b) (clock := clock) ht hk hl.1 hl.2 s u))), fun u => ?_⟩
  have h := Classical.choose_spec (Classical.choose_spec (run_update_st (P := P) (b := b) (clock := clock) ht hk hl.1 hl.2 s u))
  exact ⟨⟨_, _, rfl, h.2⟩, h.1⟩
theorem ownsRow_shape {w : World} {base : Nat} {e : TypeId} {size : Nat} {v : Value} {n : Nat} {xs : List Value} (h : w.ownsRow base e size v n xs) : ∃ ao cap, v = .slice ao n cap := by
  rcases h.2 with ⟨h1, h2⟩ | ⟨g, cap, cur, h1, _⟩
  · exact ⟨none, 0, by rw [h1, h2]⟩
  · exact ⟨_, _, h1⟩

def publishM (M : List (ByteArray × List Ep)) (n : ByteArray) (a t now : Int) : List (ByteArray × List Ep) × Int × Int :=
  if isNameB n && validB a t && readB now then
    let l := (assoc M n).getD []
    if 1024 ≤ l.length then (M, 0, 8) else (aput M n (l ++ [⟨a, t, 0⟩]), l.length + 1, 0)
  else (M, 0, 1)

def PubPost (w : World) (rb mb : Nat) (L : List (ByteArray × Slot)) (m : List (ByteArray × List Ep) × Int × Int) (r : Ending) (w' : World) : Prop :=
  r = .returned (.tuple #[.int .i64 m.2.1, .int .i64 m.2.2]) ∧ Ext (fpR rb mb L) w w' ∧ ∃ L', IsReg w' rb mb L' ∧ regM L' = m.1 ∧ ∀ b, fpR rb mb L' b → fpR rb mb L b ∨ w.heap.size ≤ b

/-- the value at a name: nil where there is none -/
def slotV (L : List (ByteArray × Slot)) (n : ByteArray) : Value := match assoc L n with | some p => p.v | none => .slice none 0 0
def slotL (L : List (ByteArray × Slot)) (n : ByteArray) : List Ep := match assoc L n with | some p => p.l | none => []
theorem slotL_eq (L : List (ByteArray × Slot)) (n : ByteArray) : slotL L n = (assoc (regM L) n).getD [] := by
  unfold slotL regM
  rw [assoc_map]
  cases assoc L n <;> rfl
theorem IsReg.owns {w : World} {rb mb : Nat} {L} (h : IsReg w rb mb L) (n : ByteArray) : w.ownsRow 0 100 3 (slotV L n) (slotL L n).length (eps (slotL L n)) := by
  unfold slotV slotL
  cases hn : assoc L n with
  | none => exact World.ownsRow_nil _ _ _ _
  | some p => exact (h.2.2.1 _ (mem_of_assoc hn)).1
theorem IsReg.ne {w : World} {rb mb : Nat} {L} (h : IsReg w rb mb L) : rb ≠ mb := by
  obtain ⟨h1, ⟨es, c, h2, _⟩, _⟩ := h
  intro e; subst e; rw [h1] at h2; cases h2
theorem ownsRow_blk {w : World} {base : Nat} {e : TypeId} {size : Nat} {v : Value} {n : Nat} {xs : List Value} (h : w.ownsRow base e size v n xs) {g : Nat} (hg : v.ownBlock = some g) : ∃ cur, blk w g = some (.cells cur e (0, 0)) := by
  rcases h.2 with ⟨rfl, _⟩ | ⟨g', cap, cur, rfl, _, hh, _⟩
  · simp [Value.ownBlock] at hg
  · simp [Value.ownBlock] at hg; subst hg; exact ⟨cur, hh⟩
theorem IsReg.rb_ne {w : World} {rb mb : Nat} {L} (h : IsReg w rb mb L) (n : ByteArray) : (slotV L n).ownBlock ≠ some rb ∧ (slotV L n).ownBlock ≠ some mb := by
  obtain ⟨h1, ⟨es, c, h2, _⟩, _⟩ := id h
  refine ⟨fun e => ?_, fun e => ?_⟩
  · obtain ⟨cur, hc⟩ := ownsRow_blk (h.owns n) e
    rw [h1] at hc; simp at hc
  · obtain ⟨cur, hc⟩ := ownsRow_blk (h.owns n) e
    rw [h2] at hc; simp at hc
theorem slotV_own {L : List (ByteArray × Slot)} {n : ByteArray} {g : Nat} (h : (slotV L n).ownBlock = some g) : ∃ p ∈ L, p.2.v.ownBlock = some g := by
  unfold slotV at h
  cases hn : assoc L n with
  | none => rw [hn] at h; simp [Value.ownBlock] at h
  | some p => rw [hn] at h; exact ⟨_, mem_of_assoc hn, h⟩
/-- a name's row is written or replaced, and the map's entry -/
theorem IsReg.put {w w1 : World} {rb mb : Nat} {L : List (ByteArray × Slot)} (h : IsReg w rb mb L) {n : ByteArray} (hx : Ext (fun b => (slotV L n).ownBlock = some b) w w1) {v' : Value} {l' : List Ep}
    (hown : w1.ownsRow 0 100 3 v' l'.length (eps l')) {g : Nat} (hg : v'.ownBlock = some g) (hloc : (slotV L n).ownBlock = some g ∨ w.heap.size ≤ g) {O : Obj}
    (hO : ∃ es' c', O = .map es' c' ∧ StrMapS es' c' (aput (L.map fun p => (p.1, p.2.v)) n v')) : IsReg (setBlock w1 mb O) rb mb (aput L n ⟨v', l'⟩) := by
  have hne := h.ne
  have hrb := h.rb_ne n
  obtain ⟨h1, ⟨es, c, h2, h3⟩, h4, h5⟩ := id h
  have g1 := (hx.blk (blk_lt h1) hrb.1).trans h1
  have g2 := (hx.blk (blk_lt h2) hrb.2).trans h2
  obtain ⟨es', c', rfl, hs⟩ := hO
  refine ⟨(blk_setBlock_other _ _ _ _ hne).trans g1, ⟨es', c', blk_setBlock_same g2 _, ?_⟩, ?_, ?_⟩
  · have := aput_map Slot.v L n ⟨v', l'⟩
    simp only at this
    rw [← this]; exact hs
  · intro p hp
    have hset : ∀ {v : Value} {m : Nat} {xs : List Value}, w1.ownsRow 0 100 3 v m xs → (setBlock w1 mb (.map es' c')).ownsRow 0 100 3 v m xs := fun {v m xs} ho =>
      ownsRow_ext (S := fun b => b = mb) ho ((Ext.refl _ w1).setBlock mb _ (fun _ => rfl)) (fun g' hg' e => by
        subst e
        obtain ⟨cur, hc⟩ := ownsRow_blk ho hg'
        rw [g2] at hc; simp at hc)
    rcases mem_aput_pw (fun (a b : Slot) => a.v.ownBlock ≠ b.v.ownBlock) (fun _ _ h => Ne.symm h) h5 hp with rfl | ⟨hp, hp'⟩
    · exact ⟨hset hown, by rw [hg]; simp⟩
    · refine ⟨hset (ownsRow_ext (h4 p hp).1 hx (fun g' hg' e => ?_)), (h4 p hp).2⟩
      unfold slotV at e
      cases hn : assoc L n with
      | none => rw [hn] at e; simp [Value.ownBlock] at e
      | some u => rw [hn] at e; exact hp' u hn (hg'.trans e.symm)
  · rcases hloc with hloc | hloc
    · cases hn : assoc L n with
      | none => unfold slotV at hloc; rw [hn] at hloc; simp [Value.ownBlock] at hloc
      | some u =>
        have e : u.v.ownBlock = v'.ownBlock := by
          unfold slotV at hloc; rw [hn] at hloc; exact hloc.trans hg.symm
        refine aput_pw_old (fun (a b : Slot) => a.v.ownBlock ≠ b.v.ownBlock) h5 hn (fun x hx => ?_) (fun x hx => ?_)
        · simpa [← e] using hx
        · simpa [← e] using hx
    · refine aput_pw_new (fun (a b : Slot) => a.v.ownBlock ≠ b.v.ownBlock) (fun _ _ h => Ne.symm h) h5 (fun p hp e => ?_)
      have e' : p.2.v.ownBlock = some g := e.trans hg
      obtain ⟨cur, hc⟩ := ownsRow_blk (h4 p hp).1 e'
      have := blk_lt hc
      omega
theorem IsReg.ext {w w' : World} {rb mb : Nat} {L : List (ByteArray × Slot)} {S : Nat → Prop} (h : IsReg w rb mb L) (hx : Ext S w w') (hn : ∀ b, fpR rb mb L b → ¬ S b) : IsReg w' rb mb L := by
  obtain ⟨h1, ⟨es, c, h2, h3⟩, h4, h5⟩ := h
  exact ⟨(hx.blk (blk_lt h1) (hn _ (.inl rfl))).trans h1, ⟨es, c, (hx.blk (blk_lt h2) (hn _ (.inr (.inl rfl)))).trans h2, h3⟩,
    fun p hp => ⟨ownsRow_ext (h4 p hp).1 hx (fun g hg => hn g (.inr (.inr ⟨p, hp, hg⟩))), (h4 p hp).2⟩, h5⟩
theorem IsReg.lt {w : World} {rb mb : Nat} {L : List (ByteArray × Slot)} (h : IsReg w rb mb L) {b : Nat} (hb : fpR rb mb L b) : b < w.heap.size := by
  obtain ⟨h1, ⟨es, c, h2, h3⟩, h4, h5⟩ := h
  rcases hb with rfl | rfl | ⟨p, hp, hg⟩
  · exact blk_lt h1
  · exact blk_lt h2
  · obtain ⟨cur, hc⟩ := ownsRow_blk (h4 p hp).1 hg
    exact blk_lt hc
theorem fpR_aput {rb mb : Nat} {L : List (ByteArray × Slot)} {n : ByteArray} {s : Slot} {g B : Nat} (hg : s.v.ownBlock = some g) (hloc : (slotV L n).ownBlock = some g ∨ B ≤ g) {b : Nat} (hb : fpR rb mb (aput L n s) b) : fpR rb mb L b ∨ B ≤ b := by
  rcases hb with rfl | rfl | ⟨p, hp, hpg⟩
  · exact .inl (.inl rfl)
  · exact .inl (.inr (.inl rfl))
  · rcases mem_aput hp with rfl | hp
    · have : g = b := Option.some.inj (hg.symm.trans hpg)
      subst this
      rcases hloc with h | h
      · exact .inl (.inr (.inr (slotV_own h)))
      · exact .inr h
    · exact .inl (.inr (.inr ⟨p, hp, hpg⟩))
theorem regM_aput (L : List (ByteArray × Slot)) (n : ByteArray) (s : Slot) : regM (aput L n s) = aput (regM L) n s.l := (aput_map Slot.l L n s).symm
end Go.Proofs.Ytgmopnbejjfbjaa
