/-
  Package names: the order of names; ranging over a map with string keys. Conditions: none beyond each lemma's own.
-/
import Derived.Test.YtgmopnbejjfbjaaWS
import Derived.Maps.RangeWalk
import Derived.Sort.OwnSorted
namespace Go.Proofs.Ytgmopnbejjfbjaa
open Go.RowKit Go.MapKept
open Go.ChangeMaps (setBlock)

/-! ### strings compared -/
def cmpS (a b : ByteArray) : Int := if leS b a = false then -1 else if leS a b = false then 1 else 0
theorem isNaNs_any (a : ByteArray) (w : World) : Calls Try.prog 63 #[.string a] w fun e w' => e = .returned (.bool false) ∧ w' = w := by
  have h0 : (a.toList != a.toList) = false := by simp
  go_enter Try.func63, Try.ntmps63
  go_wp2
  go_ret
  exact ⟨ret_bool (by simp), rfl⟩
set_option maxHeartbeats 1000000 in
theorem compareS_any (a b : ByteArray) (w : World) : Calls Try.prog 40 #[.string a, .string b] w fun e w' => e = .returned (.int .i64 (cmpS a b)) ∧ w' = w := by
  have l1 := less_leS a b
  have l2 := less_leS b a
  cases h1 : leS b a with
  | false =>
    rw [h1] at l1
    have hr : cmpS a b = -1 := by simp [cmpS, h1]
    rw [hr]
    clear hr h1 l2
    go_enter Try.func40, Try.ntmps40
    go_wp2_with (first | (go_at_call 63; refine (isNaNs_any _ _).mono ?_; rintro r w' ⟨rfl, hw⟩; obtain rfl := hw.symm))
    go_ret
    exact ⟨rfl, rfl⟩
  | true =>
    rw [h1] at l1
    cases h2 : leS a b with
    | false =>
      rw [h2] at l2
      have hr : cmpS a b = 1 := by simp [cmpS, h1, h2]
      have l3 := bytes_ne (a := a) (b := b) (fun e => by subst e; rw [h1] at h2; cases h2)
      rw [hr]
      clear hr h1 h2
      go_enter Try.func40, Try.ntmps40
      go_wp2_with (first | (go_at_call 63; refine (isNaNs_any _ _).mono ?_; rintro r w' ⟨rfl, hw⟩; obtain rfl := hw.symm))
      go_ret
      exact ⟨rfl, rfl⟩
    | true =>
      rw [h2] at l2
      have hr : cmpS a b = 0 := by simp [cmpS, h1, h2]
      have l3 := bytes_eq (linS.anti a b h2 h1)
      rw [hr]
      clear hr h1 h2
      go_enter Try.func40, Try.ntmps40
      go_wp2_with (first | (go_at_call 63; refine (isNaNs_any _ _).mono ?_; rintro r w' ⟨rfl, hw⟩; obtain rfl := hw.symm))
      go_ret
      exact ⟨rfl, rfl⟩
theorem names1_any (a b : ByteArray) (w : World) : Calls Try.prog 39 #[.string a, .string b] w fun e w' => e = .returned (.int .i64 (cmpS a b)) ∧ w' = w := by
  go_enter Try.func39, Try.ntmps39
  go_wp2_with fail
  refine (compareS_any _ _ _).mono ?_
  rintro r w' ⟨rfl, hw⟩; obtain rfl := hw.symm
  go_wp2
  go_ret
  exact ⟨rfl, rfl⟩

/-! ### ranging over a map with string keys -/
/-- the iterator in block r over the map in block mb -/
def Iter (w : World) (r mb : Nat) (es : Array MapEntry) (clock : Nat) (seen : Array Nat) : Prop :=
  blk w r = some (.mapIter (some mb) clock seen clock) ∧ blk w mb = some (.map es clock)
def LeftIs (es : Array MapEntry) (seen : Array Nat) (l : List (ByteArray × Value)) : Prop :=
  (leftOf es seen).toList.map (fun e => (e.key, e.val)) = l.map fun p => (Value.string p.1, p.2)
theorem leftIs_start {es : Array MapEntry} {l : List (ByteArray × Value)} (h : StrMap es l) : LeftIs es #[] l := by
  unfold LeftIs leftOf
  rw [Array.filter_eq_self.2 (fun x _ => by simp)]
  exact h
theorem split_born (e : MapEntry) : ∀ (l : List MapEntry) (m : List (ByteArray × Value)), (l.map (·.born)).Nodup → l.map (fun e => (e.key, e.val)) = (m.map fun p => (Value.string p.1, p.2)) → e ∈ l →
    ∃ k m', e.key = .string k ∧ (l.filter fun x => !(x.born == e.born)).map (fun e => (e.key, e.val)) = (m'.map fun p => (Value.string p.1, p.2)) ∧ m.Perm ((k, e.val) :: m')
  | [], _, _, _, he => by cases he
  | _ :: _, [], _, h, _ => by simp at h
  | x :: l, (k, v) :: m, hn, h, he => by
    simp only [List.map_cons, List.cons.injEq, Prod.mk.injEq] at h
    obtain ⟨⟨hk, hv⟩, hr⟩ := h
    have hn' : x.born ∉ l.map (·.born) ∧ (l.map (·.born)).Nodup := List.nodup_cons.1 hn
    by_cases hx : e = x
    · subst hx
      refine ⟨k, m, hk, ?_, by rw [hv]⟩
      rw [List.filter_cons_of_neg (by simp), List.filter_eq_self.2 (fun y hy => ?_)]
      · exact hr
      · have : y.born ≠ e.born := fun e1 => hn'.1 (by rw [← e1]; exact List.mem_map.2 ⟨y, hy, rfl⟩)
        simpa using this
    · have he' : e ∈ l := (List.mem_cons.1 he).resolve_left hx
      obtain ⟨k', m', h1, h2, h3⟩ := split_born e l m hn'.2 hr he'
      have hb : x.born ≠ e.born := fun e1 => hn'.1 (by rw [e1]; exact List.mem_map.2 ⟨e, he', rfl⟩)
      refine ⟨k', (k, v) :: m', h1, ?_, (h3.cons _).trans (List.Perm.swap _ _ _)⟩
      rw [List.filter_cons_of_pos (by simpa using hb)]
      simp only [List.map_cons, List.cons.injEq]
      exact ⟨by rw [hk, hv], h2⟩
theorem left_push (es : Array MapEntry) (seen : Array Nat) (b : Nat) : (leftOf es (seen.push b)).toList = (leftOf es seen).toList.filter fun x => !(x.born == b) := by
  unfold leftOf
  rw [Array.toList_filter, Array.toList_filter, List.filter_filter]
  refine List.filter_congr (fun x _ => ?_)
  rw [contains_push]
  cases seen.contains x.born <;> cases x.born == b <;> rfl
theorem left_nodup {es : Array MapEntry} {clock : Nat} (hst : Stamped es clock) (seen : Array Nat) : ((leftOf es seen).toList.map (·.born)).Nodup := by
  unfold leftOf
  rw [Array.toList_filter]
  exact hst.2.1.sublist (List.filter_sublist.map _)
theorem left_step {es : Array MapEntry} {clock : Nat} (hst : Stamped es clock) {seen : Array Nat} {l : List (ByteArray × Value)} (h : LeftIs es seen l) {e : MapEntry} (he : e ∈ (leftOf es seen).toList) :
    ∃ k l', e.key = .string k ∧ LeftIs es (seen.push e.born) l' ∧ l.Perm ((k, e.val) :: l') := by
  obtain ⟨k, l', h1, h2, h3⟩ := split_born e _ l (left_nodup hst seen) h he
  exact ⟨k, l', h1, by unfold LeftIs; rw [left_push]; exact h2, h3⟩
section
variable {P : Program} {w : World} {ops : Array Oper} {rest : List Oper} {o : Oper} {a : Act} {Q : Exit → Act → World → Prop}
theorem wpList_range_str (hg : o.guard = none) (m : Operand) (t : TypeId) (hop : o.op = Op.range t m) {k e : TypeId} (ht : P.underlying t = some (.map k e)) {b : Nat} {es : Array MapEntry} {clock : Nat} (hb : blk w b = some (.map es clock))
    (hm : a.eval m = .map (some b))
    (hK : Iter (w.alloc (.mapIter (some b) clock #[] clock)) w.heap.size b es clock #[] → wpList P ops Q rest (a.put o.dst (.pointer (some ⟨w.heap.size, 0, none⟩))) (w.alloc (.mapIter (some b) clock #[] clock))) :
    wpList P ops Q (o :: rest) a w := by
  refine wpList_plain hg fun K' hK' => ?_
  have hrun := run_range_map (P := P) w t k e b es clock ht hb
  unfold Oper.wp
  simp [execOp, hop, hm, hrun, Result.andThen]
  exact hK' _ _ (hK ⟨blk_alloc_at _ _, (blk_alloc_past _ _ _ (blk_lt hb)).trans hb⟩)
theorem wpList_next_str (hg : o.guard = none) (it : Operand) (hop : o.op = Op.next it false) {r b : Nat} {es : Array MapEntry} {clock : Nat} {seen : Array Nat} (hst : Stamped es clock) {l : List (ByteArray × Value)} (hl : LeftIs es seen l) (hI : Iter w r b es clock seen)
    (hit : a.eval it = .pointer (some ⟨r, 0, none⟩))
    (hDone : l = [] → wpList P ops Q rest (a.put o.dst (.tuple #[.bool false])) w)
    (hMore : ∀ (k : ByteArray) (v : Value) (l' : List (ByteArray × Value)) (seen' : Array Nat) (w' : World), l.Perm ((k, v) :: l') → LeftIs es seen' l' → Iter w' r b es clock seen' → Ext (fun x => x = r) w w' →
      (Instr.entry (.pointer (some ⟨r, 0, none⟩))).run P w' = .ok (.tuple #[.string k, v]) w' → wpList P ops Q rest (a.put o.dst (.tuple #[.bool true, .string k, v])) w') :
    wpList P ops Q (o :: rest) a w := by
  refine wpList_plain hg fun K' hK' => ?_
  unfold Oper.wp
  rcases run_next_at (P := P) w o.type r b clock clock seen es clock hI.1 hI.2 hst.1 (Nat.le_refl _) with ⟨h0, hrun⟩ | ⟨e, he, w1, hw1, hrun⟩
  · simp [execOp, hop, hit, hrun, Result.andThen]
    refine hK' _ _ (hDone ?_)
    have hz : (leftOf es seen).toList = [] := List.eq_nil_of_length_eq_zero (by simpa using h0)
    unfold LeftIs at hl
    rw [hz] at hl
    exact List.map_eq_nil_iff.1 hl.symm
  · obtain ⟨k, l', hk, hl', hp⟩ := left_step hst hl he
    have hne : ¬ b = r := fun e1 => by
      have h1 := hI.1; rw [← e1, hI.2] at h1; cases h1
    have hx : Ext (fun x => x = r) w w1 := by
      rcases hw1 with rfl | rfl
      · exact Ext.refl _ _
      · exact (Ext.refl _ _).drew
    have hr1 : blk w1 r = some (.mapIter (some b) clock seen clock) := by
      rcases hw1 with rfl | rfl
      · exact hI.1
      · exact hI.1
    have hb1 : blk w1 b = some (.map es clock) := by
      rcases hw1 with rfl | rfl
      · exact hI.2
      · exact hI.2
    have hI' : Iter (setBlock w1 r (.mapIter (some b) clock (seen.push e.born) clock)) r b es clock (seen.push e.born) :=
      ⟨blk_setBlock_same hr1 _, (blk_setBlock_other _ _ _ _ hne).trans hb1⟩
    have hen := run_entry_at (P := P) _ r b clock seen es clock e hI'.1 hI'.2 (mem_left he).1 hst.2.1
    rw [hk] at hen
    simp [execOp, hop, hit, hrun, Result.andThen, hk]
    exact hK' _ _ (hMore k e.val l' _ _ hp hl' hI' (hx.setBlock _ _ (fun _ => rfl)) hen)
end
end Go.Proofs.Ytgmopnbejjfbjaa
