/-
  Package names: Load: what it reads, by value; what stands while it reads. Conditions: none beyond each lemma's own.
-/
import Derived.Test.YtgmopnbejjfbjaaR31
namespace Go.Proofs.Ytgmopnbejjfbjaa
open Go.RowKit Go.MapKept
open Go.ChangeMaps (setBlock)

/-! ### by value -/
def epsP : Nat → List Ep → RS → Option (List Ep × RS)
  | 0, acc, s => some (acc, s)
  | k + 1, acc, s => match epP s with
    | some (e, s') => epsP k (acc ++ [e]) s'
    | none => none
def rowsP : Nat → ByteArray → List (ByteArray × List Ep) → RS → Option (List (ByteArray × List Ep) × RS)
  | 0, _, acc, s => some (acc, s)
  | k + 1, last, acc, s =>
    if isNameB (ofL (textM s).1) = true ∧ leS (ofL (textM s).1) last = false ∧ 1 ≤ (countM 1024 (textM s).2).1 then
      match epsP (countM 1024 (textM s).2).1 [] (countM 1024 (textM s).2).2 with
      | some (l, s') => rowsP k (ofL (textM s).1) (acc ++ [(ofL (textM s).1, l)]) s'
      | none => none
    else none
def finP : Option (List (ByteArray × List Ep) × RS) → Option (List (ByteArray × List Ep))
  | some (K, s) => if endM s = 0 then some K else none
  | none => none
def loadP (b : ByteArray) : Option (List (ByteArray × List Ep)) :=
  finP (rowsP (countM b.size ⟨b.data.toList, 0⟩).1 { data := #[] } [] (countM b.size ⟨b.data.toList, 0⟩).2)
theorem epsP_some {k : Nat} {acc : List Ep} {s s' : RS} {e : Ep} (h : epP s = some (e, s')) : epsP (k + 1) acc s = epsP k (acc ++ [e]) s' := by
  conv => lhs; unfold epsP
  rw [h]
theorem epsP_none {k : Nat} {acc : List Ep} {s : RS} (h : epP s = none) : epsP (k + 1) acc s = none := by unfold epsP; rw [h]
/-- the rows before, and this name's, where it has any -/
def accM (acc : List (ByteArray × List Ep)) (n : ByteArray) (l : List Ep) : List (ByteArray × List Ep) := acc ++ if l = [] then [] else [(n, l)]
theorem assoc_append_none {α : Type} {a b : List (ByteArray × α)} {n : ByteArray} (h : assoc a n = none) : assoc (a ++ b) n = assoc b n := by
  induction a with
  | nil => rfl
  | cons p r ih =>
    obtain ⟨k, v⟩ := p
    simp only [assoc] at h
    simp only [List.cons_append, assoc]
    by_cases hk : k = n
    · simp [hk] at h
    · rw [if_neg hk] at h ⊢; exact ih h
theorem aput_append_none {α : Type} {a b : List (ByteArray × α)} {n : ByteArray} (v : α) (h : assoc a n = none) : aput (a ++ b) n v = a ++ aput b n v := by
  induction a with
  | nil => rfl
  | cons p r ih =>
    obtain ⟨k, u⟩ := p
    simp only [assoc] at h
    simp only [List.cons_append, aput]
    by_cases hk : k = n
    · simp [hk] at h
    · rw [if_neg hk] at h ⊢; rw [ih h]
theorem accM_slot {acc : List (ByteArray × List Ep)} {n : ByteArray} (h : assoc acc n = none) (l : List Ep) : (assoc (accM acc n l) n).getD [] = l := by
  unfold accM
  rw [assoc_append_none h]
  by_cases hl : l = []
  · simp [hl, assoc]
  · simp [hl, assoc]
theorem accM_put {acc : List (ByteArray × List Ep)} {n : ByteArray} (h : assoc acc n = none) (l : List Ep) (e : Ep) : aput (accM acc n l) n (l ++ [e]) = accM acc n (l ++ [e]) := by
  unfold accM
  rw [aput_append_none _ h]
  by_cases hl : l = []
  · simp [hl, aput]
  · simp [hl, aput]
theorem accM_full {acc : List (ByteArray × List Ep)} {n : ByteArray} {l : List Ep} (h : l ≠ []) : accM acc n l = acc ++ [(n, l)] := by unfold accM; rw [if_neg h]
/-- the names so far are not above the last -/
def UpTo (acc : List (ByteArray × List Ep)) (last : ByteArray) : Prop := ∀ p ∈ acc, leS p.1 last = true
theorem UpTo.none {acc : List (ByteArray × List Ep)} {last n : ByteArray} (h : UpTo acc last) (hn : leS n last = false) : assoc acc n = none := by
  cases ha : assoc acc n with
  | none => rfl
  | some v =>
    have := h _ (mem_of_assoc ha)
    simp only at this
    rw [hn] at this; cases this
theorem UpTo.snoc {acc : List (ByteArray × List Ep)} {last n : ByteArray} (h : UpTo acc last) (hn : leS n last = false) (l : List Ep) : UpTo (acc ++ [(n, l)]) n := fun p hp => by
  have hln : leS last n = true := by
    have := linS.total n last
    rw [hn] at this; simpa using this
  rcases List.mem_append.1 hp with hp | hp
  · exact linS.trans _ _ _ (h p hp) hln
  · simp at hp; subst hp
    have := linS.total n n
    simpa using this

/-! ### the map that is built -/
def IsMap (w : World) (mb : Nat) (L : List (ByteArray × Slot)) : Prop :=
  (∃ es clock, blk w mb = some (.map es clock) ∧ StrMapS es clock (L.map fun p => (p.1, p.2.v))) ∧
  (∀ p ∈ L, w.ownsRow 0 100 3 p.2.v p.2.l.length (eps p.2.l) ∧ p.2.v.ownBlock ≠ none) ∧ L.Pairwise (fun p q => p.2.v.ownBlock ≠ q.2.v.ownBlock)
theorem IsMap.owns {w : World} {mb : Nat} {L} (h : IsMap w mb L) (n : ByteArray) : w.ownsRow 0 100 3 (slotV L n) (slotL L n).length (eps (slotL L n)) := by
  unfold slotV slotL
  cases hn : assoc L n with
  | none => exact World.ownsRow_nil _ _ _ _
  | some p => exact (h.2.1 _ (mem_of_assoc hn)).1
theorem IsMap.ne {w : World} {mb : Nat} {L} (h : IsMap w mb L) (n : ByteArray) : (slotV L n).ownBlock ≠ some mb := fun e => by
  obtain ⟨⟨es, c, h2, _⟩, _⟩ := id h
  obtain ⟨cur, hc⟩ := ownsRow_blk (h.owns n) e
  rw [h2] at hc; simp at hc
theorem IsMap.ext {w w' : World} {mb : Nat} {L : List (ByteArray × Slot)} {S : Nat → Prop} (h : IsMap w mb L) (hx : Ext S w w') (h0 : ¬ S mb) (hn : ∀ p ∈ L, ∀ g, p.2.v.ownBlock = some g → ¬ S g) : IsMap w' mb L := by
  obtain ⟨⟨es, c, h2, h3⟩, h4, h5⟩ := h
  exact ⟨⟨es, c, (hx.blk (blk_lt h2) h0).trans h2, h3⟩, fun p hp => ⟨ownsRow_ext (h4 p hp).1 hx (fun g hg => hn p hp g hg), (h4 p hp).2⟩, h5⟩
theorem IsMap.put {w w1 : World} {mb : Nat} {L : List (ByteArray × Slot)} (h : IsMap w mb L) {n : ByteArray} (hx : Ext (fun b => (slotV L n).ownBlock = some b) w w1) {v' : Value} {l' : List Ep}
    (hown : w1.ownsRow 0 100 3 v' l'.length (eps l')) {g : Nat} (hg : v'.ownBlock = some g) (hloc : (slotV L n).ownBlock = some g ∨ w.heap.size ≤ g) {O : Obj}
    (hO : ∃ es' c', O = .map es' c' ∧ StrMapS es' c' (aput (L.map fun p => (p.1, p.2.v)) n v')) : IsMap (setBlock w1 mb O) mb (aput L n ⟨v', l'⟩) := by
  have hmb := h.ne n
  obtain ⟨⟨es, c, h2, h3⟩, h4, h5⟩ := id h
  have g2 := (hx.blk (blk_lt h2) hmb).trans h2
  obtain ⟨es', c', rfl, hs⟩ := hO
  refine ⟨⟨es', c', blk_setBlock_same g2 _, ?_⟩, ?_, ?_⟩
  · have := aput_map Slot.v L n ⟨v', l'⟩
    simp only at this
    rw [← this]; exact hs
  · intro p hp
    have hset : ∀ {v : Value} {m : Nat} {xs : List Value}, w1.ownsRow 0 100 3 v m xs → (setBlock w1 mb (.map es' c')).ownsRow 0 100 3 v m xs := fun {v m xs} ho =>
      ownsRow_ext (S := fun b => b = mb) ho ((Ext.refl _ w1).setBlock mb _ (fun _ => rfl)) (fun g' hg' e => by
        subst e
        obtain ⟨cur, hc⟩ := ownsRow_blk ho hg'
        rw [g2] at hc; simp at hc)
    rcases mem_aput_pw (fun (a b : Slot) => a.v.ownBlock ≠ b.v.ownBlock) (fun _ _ h => Ne.symm h) h5 hp with rfl | ⟨hp, hp'⟩
    · exact ⟨hset hown, by rw [hg]; simp⟩
    · refine ⟨hset (ownsRow_ext (h4 p hp).1 hx (fun g' hg' e => ?_)), (h4 p hp).2⟩
      unfold slotV at e
      cases hn : assoc L n with
      | none => rw [hn] at e; simp [Value.ownBlock] at e
      | some u => rw [hn] at e; exact hp' u hn (hg'.trans e.symm)
  · rcases hloc with hloc | hloc
    · cases hn : assoc L n with
      | none => unfold slotV at hloc; rw [hn] at hloc; simp [Value.ownBlock] at hloc
      | some u =>
        have e : u.v.ownBlock = v'.ownBlock := by
          unfold slotV at hloc; rw [hn] at hloc; exact hloc.trans hg.symm
        refine aput_pw_old (fun (a b : Slot) => a.v.ownBlock ≠ b.v.ownBlock) h5 hn (fun x hx => ?_) (fun x hx => ?_)
        · simpa [← e] using hx
        · simpa [← e] using hx
    · refine aput_pw_new (fun (a b : Slot) => a.v.ownBlock ≠ b.v.ownBlock) (fun _ _ h => Ne.symm h) h5 (fun p hp e => ?_)
      have e' : p.2.v.ownBlock = some g := e.trans hg
      obtain ⟨cur, hc⟩ := ownsRow_blk (h4 p hp).1 e'
      have := blk_lt hc
      omega
theorem IsRd.ext {w w' : World} {p : Nat} {s : RS} {S : Nat → Prop} (h : IsRd w p s) (hx : Ext S w w') (h0 : ¬ S p) (hn : ∀ g cur, U8 w g cur → ¬ S g) : IsRd w' p s := by
  obtain ⟨v, hp, hv⟩ := h
  exact ⟨v, (hx.blk (blk_lt hp) h0).trans hp, hv.ext hx hn⟩
/-- while it reads: everything is the call's own -/
structure LdSt (w wi : World) (p mb : Nat) (L : List (ByteArray × Slot)) (s : RS) : Prop where
  ext : Ext (fun _ => False) w wi
  rd : IsRd wi p s
  map : IsMap wi mb L
  np : w.heap.size ≤ p
  nm : w.heap.size ≤ mb
  own : ∀ q ∈ L, ∀ g, q.2.v.ownBlock = some g → w.heap.size ≤ g
theorem LdSt.keep {w wi w' : World} {p mb : Nat} {L : List (ByteArray × Slot)} {s : RS} (h : LdSt w wi p mb L s) (hx : Ext (fun _ => False) wi w') : LdSt w w' p mb L s :=
  ⟨h.ext.trans hx, h.rd.keep hx, h.map.ext hx id (fun _ _ _ _ h => h), h.np, h.nm, h.own⟩
theorem LdSt.read {w wi w' : World} {p mb : Nat} {L : List (ByteArray × Slot)} {s s' : RS} (h : LdSt w wi p mb L s) (hx : Ext (fun b => b = p) wi w') (hr : IsRd w' p s') : LdSt w w' p mb L s' := by
  obtain ⟨v, hp, _⟩ := h.rd
  refine ⟨h.ext.trans' hx (fun k hk (e : k = p) => absurd h.np (by omega)), hr, h.map.ext hx (fun e => ?_) (fun q hq g hg e => ?_), h.np, h.nm, h.own⟩
  · obtain ⟨⟨es, c, h2, _⟩, _⟩ := h.map
    rw [show p = mb from e.symm, h2] at hp; cases hp
  · obtain ⟨cur, hc⟩ := ownsRow_blk (h.map.2.1 q hq).1 hg
    rw [show p = g from e.symm, hc] at hp; cases hp
theorem LdSt.put {w wi w1 : World} {p mb : Nat} {L : List (ByteArray × Slot)} {s : RS} (h : LdSt w wi p mb L s) {n : ByteArray} (hx : Ext (fun b => (slotV L n).ownBlock = some b) wi w1) {v' : Value} {l' : List Ep}
    (hown : w1.ownsRow 0 100 3 v' l'.length (eps l')) {g : Nat} (hg : v'.ownBlock = some g) (hloc : (slotV L n).ownBlock = some g ∨ wi.heap.size ≤ g) {O : Obj}
    (hO : ∃ es' c', O = .map es' c' ∧ StrMapS es' c' (aput (L.map fun p => (p.1, p.2.v)) n v')) : LdSt w (setBlock w1 mb O) p mb (aput L n ⟨v', l'⟩) s := by
  have hold : ∀ b, (slotV L n).ownBlock = some b → w.heap.size ≤ b := fun b e => by
    obtain ⟨q, hq, hqe⟩ := slotV_own e
    exact h.own q hq b hqe
  have hX : Ext (fun b => (slotV L n).ownBlock = some b ∨ b = mb) wi (setBlock w1 mb O) := (hx.mono (fun b _ h => .inl h)).setBlock mb _ (fun _ => .inr rfl)
  obtain ⟨v, hp, hv⟩ := id h.rd
  refine ⟨h.ext.trans' hX (fun k hk e => ?_), h.rd.ext hX (fun e => ?_) (fun g cur hc e => ?_), h.map.put hx hown hg hloc hO, h.np, h.nm, fun q hq g' hg' => ?_⟩
  · rcases e with e | e
    · exact absurd (hold _ e) (by omega)
    · exact absurd h.nm (by omega)
  · rcases e with e | e
    · obtain ⟨cur, hc⟩ := ownsRow_blk (h.map.owns n) e
      rw [hc] at hp; cases hp
    · obtain ⟨⟨es, c, h2, _⟩, _⟩ := h.map
      rw [e, h2] at hp; cases hp
  · obtain ⟨f, hc⟩ := hc
    rcases e with e | e
    · obtain ⟨cur2, hc2⟩ := ownsRow_blk (h.map.owns n) e
      rw [hc2] at hc; cases hc
    · obtain ⟨⟨es, c, h2, _⟩, _⟩ := h.map
      rw [e, h2] at hc; cases hc
  · rcases mem_aput hq with rfl | hq
    · have : g = g' := Option.some.inj (hg.symm.trans hg')
      subst this
      rcases hloc with e | e
      · exact hold _ e
      · exact Nat.le_trans h.ext.size e
    · exact h.own q hq g' hg'
/-- Load's end -/
def LoadPost (w : World) (rb : Nat) (b : ByteArray) (r : Ending) (w' : World) : Prop :=
  match loadP b with
  | some K => r = .returned (.int .i64 0) ∧ (∃ mb L, IsReg w' rb mb L ∧ regM L = K ∧ ∀ k, fpR rb mb L k → k = rb ∨ w.heap.size ≤ k) ∧ Ext (fun k => k = rb) w w'
  | none => r = .returned (.int .i64 11) ∧ Ext (fun _ => False) w w'
theorem load_none {w w' : World} {rb : Nat} {b : ByteArray} (h : loadP b = none) (hx : Ext (fun _ => False) w w') : LoadPost w rb b (.returned (.int .i64 11)) w' := by
  unfold LoadPost; rw [h]; exact ⟨rfl, hx⟩
theorem load_some {w wi : World} {p mb rb : Nat} {L : List (ByteArray × Slot)} {s : RS} {b : ByteArray} (h : LdSt w wi p mb L s) (hl : loadP b = some (regM L)) {v : Value} (hrb : blk w rb = some (.cells #[v] 96 (0, 0))) :
    LoadPost w rb b (.returned (.int .i64 0)) (wi.setCell ⟨rb, 0, none⟩ (.map (some mb))) := by
  unfold LoadPost; rw [hl]
  have hlt := blk_lt hrb
  have hx : Ext (fun k => k = rb) wi (wi.setCell ⟨rb, 0, none⟩ (.map (some mb))) := (Ext.refl _ wi).setCell _ (fun _ => rfl)
  have hm := h.map.ext hx (fun e => by have := h.nm; omega) (fun q hq g hg e => by have := h.own q hq g hg; omega)
  have hr := (h.ext.blk hlt id).trans hrb
  refine ⟨rfl, ⟨mb, L, ⟨by simpa using blk_setCell_same hr 0 (.map (some mb)), hm⟩, rfl, fun k hk => ?_⟩, (h.ext.mono (fun _ _ h => h.elim)).trans hx⟩
  rcases hk with rfl | rfl | ⟨q, hq, hg⟩
  · exact .inl rfl
  · exact .inr h.nm
  · exact .inr (h.own q hq _ hg)
end Go.Proofs.Ytgmopnbejjfbjaa
