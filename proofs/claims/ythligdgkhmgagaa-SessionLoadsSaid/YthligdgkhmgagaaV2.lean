/-
  Package session: what Load reads with: get, its two closures; an entry stored at a new key. Conditions: the reader stands as RkSt says.
-/
import Derived.Test.YthligdgkhmgagaaV1
namespace Go.Proofs.Ythligdgkhmgagaa
open Go.RowKit Go.MapKept
open Go.ChangeMaps (setBlock)

theorem list_modify_last {α : Type} (l : List α) (a : α) (f : α → α) : (l ++ [a]).modify l.length f = l ++ [f a] := by
  induction l with
  | nil => rfl
  | cons x r ih => rw [List.cons_append, List.length_cons, List.modify_succ_cons, ih]; rfl
section
variable {P : Program} {t k e : TypeId} {b clock : Nat} {es : Array MapEntry} {l : List (Int × Value)}
/-- 'm[s], .. = v, ..' where the map has no s: the entry is laid, then its value is stored -/
theorem run_entry_new (ht : P.underlying t = some (.map k e)) (hk : P.underlying k = some (.int .i64)) {z : Value} (hz : ∀ u : World, (zeroValue e).run P u = .ok z u) (hl : IntMap es l) (hst : Stamped es clock) (s : Int) (habs : iget l s = none) :
    ∃ O, (∀ w : World, blk w b = some (.map es clock) → (Instr.mapEntry t (.map (some b)) (.int .i64 s)).run P w = .ok (.tuple #[z, .int .i64 clock]) (setBlock w b O)) ∧
      ∀ u : Value, ∃ es' clock', (∀ w : World, blk w b = some O → (Instr.entryStore t (.map (some b)) (.int .i64 clock) u).run P w = .ok () (setBlock w b (.map es' clock'))) ∧ IntMap es' (l ++ [(s, u)]) ∧ Stamped es' clock' := by
  have hl' := hl
  unfold IntMap at hl'
  rcases findNow_int s es.toList l 0 hl' with ⟨h1, h2, h3⟩ | ⟨j, e', v, h1, _⟩
  · have hnew : ∀ x ∈ es.toList, x.key ≠ .int .i64 s := fun x hx he => by
      have : (x.key, x.val) ∈ es.toList.map (fun e => (e.key, e.val)) := List.mem_map.2 ⟨x, hx, rfl⟩
      rw [hl'] at this
      obtain ⟨p, hp, hpe⟩ := List.mem_map.1 this
      have h5 : Value.int .i64 p.1 = x.key := congrArg Prod.fst hpe
      rw [he] at h5
      exact iget_none habs p hp (Value.int.inj h5).2
    refine ⟨.map (es.push { key := .int .i64 s, val := z, born := clock }) (clock + 1), fun w hb => ?_, fun u => ⟨es.push { key := .int .i64 s, val := u, born := clock }, clock + 1, fun w hb => ?_, ?_, ?_⟩⟩
    · simp [Instr.mapEntry, run_underlying ht, MapKept.run_getObj_map hb, MapKept.run_checkKey hk (show IsKey (.int .i64) (.int .i64 s) from rfl), MapKept.run_findKey hk h2, hz, Result.andThen, MapKept.run_setObj_map _ hb, setBlock, goInt]
    · have hidx : (es.push (⟨.int .i64 s, z, clock⟩ : MapEntry)).findIdx? (fun e => ((e.born : Nat) : Int) == ((clock : Nat) : Int)) = some es.size := by
        rw [Array.findIdx?_push]
        have hn : es.findIdx? (fun e => ((e.born : Nat) : Int) == ((clock : Nat) : Int)) = none := by
          rw [Array.findIdx?_eq_none_iff]
          intro x hx
          have := hst.1 x (by simpa using hx)
          simp; omega
        rw [hn]; simp
      have hmod : (es.push (⟨.int .i64 s, z, clock⟩ : MapEntry)).modify es.size (fun e => { e with val := u }) = es.push ⟨.int .i64 s, u, clock⟩ := by
        apply Array.ext'
        rw [Array.toList_modify, Array.toList_push, Array.toList_push, ← Array.length_toList, list_modify_last]
      simp [Instr.entryStore, MapKept.run_getObj_map hb, asInt, asIntOf, hidx, hmod, MapKept.run_setObj_map _ hb, Result.andThen, setBlock]
    · unfold IntMap
      simp [hl']
    · exact stamped_push hst hnew
  · rw [habs] at h1; cases h1
end
/-- the reader, and the box that says whether all went well -/
structure RkSt (w : World) (p ob : Nat) (s : RS) (ok : Bool) : Prop where
  rd : IsRd w p s
  ok : blk w ob = some (.cells #[.bool ok] 4 (0, 0))
theorem RkSt.ne {w : World} {p ob : Nat} {s : RS} {ok : Bool} (h : RkSt w p ob s ok) : ¬ p = ob := fun e => by
  obtain ⟨v, hp, _⟩ := h.rd
  have := h.ok
  rw [← e, hp] at this; cases this
theorem RkSt.keep {w w' : World} {p ob : Nat} {s : RS} {ok : Bool} (h : RkSt w p ob s ok) (hx : Ext (fun _ => False) w w') : RkSt w' p ob s ok :=
  ⟨h.rd.keep hx, (hx.blk (blk_lt h.ok) id).trans h.ok⟩
theorem RkSt.read {w w' : World} {p ob : Nat} {s s' : RS} {ok : Bool} (h : RkSt w p ob s ok) (hr : IsRd w' p s') (hx : Ext (fun b => b = p) w w') : RkSt w' p ob s' ok :=
  ⟨hr, (hx.blk (blk_lt h.ok) (fun e => h.ne e.symm)).trans h.ok⟩
theorem IsRd.ext {w w' : World} {p : Nat} {s : RS} {S : Nat → Prop} (h : IsRd w p s) (hx : Ext S w w') (h0 : ¬ S p) (hn : ∀ g cur, U8 w g cur → ¬ S g) : IsRd w' p s := by
  obtain ⟨v, hp, hv⟩ := h
  exact ⟨v, (hx.blk (blk_lt hp) h0).trans hp, hv.ext hx hn⟩
theorem RkSt.set {w : World} {p ob : Nat} {s : RS} {ok : Bool} (h : RkSt w p ob s ok) (b : Bool) : RkSt (w.setCell ⟨ob, 0, none⟩ (.bool b)) p ob s b ∧ Ext (fun k => k = ob) w (w.setCell ⟨ob, 0, none⟩ (.bool b)) := by
  have hx : Ext (fun k => k = ob) w (w.setCell ⟨ob, 0, none⟩ (.bool b)) := (Ext.refl _ w).setCell _ (fun _ => rfl)
  exact ⟨⟨h.rd.ext hx h.ne (fun g cur hc e => by subst e; exact hc.ne h.ok (by decide)), by simpa using blk_setCell_same h.ok 0 (.bool b)⟩, hx⟩
def goodN (least n : Nat) : Bool := decide (least ≤ n) && decide (n ≤ 4611686018427387904)
def getV (least n : Nat) : Int := if goodN least n then (n : Int) else 0
def GetPost (w : World) (p ob least : Nat) (n : Nat) (s' : RS) (ok : Bool) (r : Ending) (w' : World) : Prop :=
  r = .returned (.int .i64 (getV least n)) ∧ RkSt w' p ob s' (ok && goodN least n) ∧ Ext (fun k => k = p ∨ k = ob) w w'
set_option maxRecDepth 100000 in
set_option maxHeartbeats 2000000 in
theorem get_any (w : World) (p ob : Nat) (s : RS) (ok : Bool) (least : Nat) (h : RkSt w p ob s ok) (hl : least ≤ 4611686018427387905) :
    Calls Try.prog 36 #[.pointer (some ⟨p, 0, none⟩), .int .i64 least, .pointer (some ⟨ob, 0, none⟩)] w (GetPost w p ob least (numberM s).1 (numberM s).2 ok) := by
  have hnum := number_any w p s h.rd
  have hlt := numberM_lt' s
  obtain ⟨⟨n, s'⟩, hm⟩ : ∃ m, numberM s = m := ⟨_, rfl⟩
  rw [hm] at hnum hlt ⊢
  simp only at hlt ⊢
  have Hnum := Lib.hid hnum
  have Hh := Lib.hid h
  clear hnum h hm
  go_enter Try.func36, Try.ntmps36
  go_wp2_with fail
  refine Hnum.out.mono ?_
  rintro r w2 ⟨rfl, hr2, hx2⟩
  have h2 := Hh.out.read hr2 hx2
  have Hx2 := Lib.hid (hx2.mono (fun b _ (e : b = p) => (.inl e : b = p ∨ b = ob)))
  have H2 := Lib.hid h2
  have c0 : w2.cell? ⟨ob, 0, none⟩ = some (.bool ok) := by simpa using cell_of_cells h2.ok 0
  have f0 := free_of_cells h2.ok 0
  have hlo := blk_lt h2.ok
  have hset := h2.set false
  have Hset := Lib.hid hset
  clear hr2 hx2 h2 hset Hh Hnum
  simp only
  by_cases hbig : 4611686018427387904 < n
  · have d1 : (4611686018427387904 : Int) < n := by omega
    have hg : goodN least n = false := by simp [goodN]; omega
    have hv : getV least n = 0 := by unfold getV; rw [hg]; rfl
    have hfin : GetPost w p ob least n s' ok (.returned (.int .i64 0)) (w2.setCell ⟨ob, 0, none⟩ (.bool false)) := by
      unfold GetPost; rw [hv, hg, Bool.and_false]
      exact ⟨rfl, Hset.out.1, Hx2.out.trans (Hset.out.2.mono (fun b _ (e : b = ob) => .inr e))⟩
    have Hfin := Lib.hid hfin
    clear hfin hg hv hbig
    go_wp2
    go_ret
    exact Hfin.out
  · have d1 : ¬ (4611686018427387904 : Int) < n := by omega
    have hwi : IntKind.i64.wrap (n : Int) = n := IntWalk.i64_in _ (by omega)
    by_cases hlow : n < least
    · have d2 : (n : Int) < least := by omega
      have hg : goodN least n = false := by simp [goodN]; omega
      have hv : getV least n = 0 := by unfold getV; rw [hg]; rfl
      have hfin : GetPost w p ob least n s' ok (.returned (.int .i64 0)) (w2.setCell ⟨ob, 0, none⟩ (.bool false)) := by
        unfold GetPost; rw [hv, hg, Bool.and_false]
        exact ⟨rfl, Hset.out.1, Hx2.out.trans (Hset.out.2.mono (fun b _ (e : b = ob) => .inr e))⟩
      have Hfin := Lib.hid hfin
      clear hfin hg hv hbig hlow
      go_wp2
      go_ret
      exact Hfin.out
    · have d2 : ¬ (n : Int) < least := by omega
      have hg : goodN least n = true := by simp [goodN]; omega
      have hv : getV least n = n := by unfold getV; rw [hg]; rfl
      have hfin : GetPost w p ob least n s' ok (.returned (.int .i64 n)) w2 := by
        unfold GetPost; rw [hv, hg, Bool.and_true]
        exact ⟨rfl, H2.out, Hx2.out⟩
      have Hfin := Lib.hid hfin
      clear hfin hg hv hbig hlow
      go_wp2
      go_ret
      exact Hfin.out
set_option maxRecDepth 100000 in
set_option maxHeartbeats 1000000 in
theorem load2_any (w : World) (p X : Nat) (s : RS) (h : IsRd w p s) (hX : blk w X = some (.cells #[.pointer (some ⟨p, 0, none⟩)] 78 (0, 0))) :
    Calls Try.prog 39 #[.pointer (some ⟨X, 0, none⟩)] w (IntPost w p (intM s)) := by
  have hi := int_any w p s h
  have c0 : w.cell? ⟨X, 0, none⟩ = some (.pointer (some ⟨p, 0, none⟩)) := by simpa using cell_of_cells hX 0
  have Hi := Lib.hid hi
  clear hi h hX
  go_enter Try.func39, Try.ntmps39
  go_wp2_with fail
  refine Hi.out.mono ?_
  rintro r w1 ⟨rfl, h1⟩
  have H1 := Lib.hid h1
  clear h1
  go_wp2
  go_ret
  exact ⟨rfl, H1.out⟩
def LoAnsPost (w : World) (p ob : Nat) (s : RS) (ok : Bool) (r : Ending) (w' : World) : Prop :=
  r = .returned (.agg #[.int .i64 (getV 1 (numberM s).1), .string (ofL (textM (numberM s).2).1)]) ∧ RkSt w' p ob (textM (numberM s).2).2 (ok && goodN 1 (numberM s).1) ∧ Ext (fun k => k = p ∨ k = ob) w w'
set_option maxRecDepth 100000 in
set_option maxHeartbeats 2000000 in
theorem load1_any (w : World) (p ob X : Nat) (s : RS) (ok : Bool) (h : RkSt w p ob s ok) (hX : blk w X = some (.cells #[.pointer (some ⟨p, 0, none⟩)] 78 (0, 0))) :
    Calls Try.prog 35 #[.pointer (some ⟨X, 0, none⟩), .pointer (some ⟨ob, 0, none⟩)] w (LoAnsPost w p ob s ok) := by
  obtain ⟨w1, hw1⟩ : ∃ w1, w1 = w.alloc (.cells #[.int .i64 0, .string { data := #[] }] 63) := ⟨_, rfl⟩
  have hx1 : Ext (fun _ => False) w w1 := by rw [hw1]; exact (Ext.refl _ w).alloc _
  have hR : blk w1 w.heap.size = some (.cells #[.int .i64 0, .string { data := #[] }] 63 (0, 0)) := by rw [hw1]; exact blk_alloc_at _ _
  have h1 := h.keep hx1
  have hX1 := (hx1.blk (blk_lt hX) id).trans hX
  have hget : ∀ W, RkSt W p ob s ok → Calls Try.prog 36 #[.pointer (some ⟨p, 0, none⟩), .int .i64 1, .pointer (some ⟨ob, 0, none⟩)] W (GetPost W p ob 1 (numberM s).1 (numberM s).2 ok) := fun W hW => get_any W p ob s ok 1 hW (by omega)
  have htx := fun (W : World) (hW : IsRd W p (numberM s).2) => text_any W p _ hW
  unfold LoAnsPost
  obtain ⟨⟨n, s1⟩, hm⟩ : ∃ m, numberM s = m := ⟨_, rfl⟩
  simp only [hm] at hget htx ⊢
  obtain ⟨⟨tl, s2⟩, hm2⟩ : ∃ m, textM s1 = m := ⟨_, rfl⟩
  simp only [hm2] at htx ⊢
  have htx' : ∀ W, IsRd W p s1 → Calls Try.prog 37 #[.pointer (some ⟨p, 0, none⟩)] W fun r w' => r = .returned (.string (ofL tl)) ∧ IsRd w' p s2 ∧ Ext (fun b => b = p) W w' := htx
  unfold GetPost at hget
  generalize ofL tl = t at *
  generalize getV 1 n = gv at *
  generalize goodN 1 n = gd at *
  have c0 : w1.cell? ⟨X, 0, none⟩ = some (.pointer (some ⟨p, 0, none⟩)) := by simpa using cell_of_cells hX1 0
  have hXp : ¬ X = p := fun e => by
    obtain ⟨v, hp, _⟩ := h1.rd
    rw [e, hp] at hX1; cases hX1
  have hXo : ¬ X = ob := fun e => by
    have := h1.ok
    rw [e, this] at hX1; cases hX1
  have hlX := blk_lt hX1
  have hXR : ¬ X = w.heap.size := fun e => by have := blk_lt hX; omega
  have hRX : ¬ w.heap.size = X := fun e => hXR e.symm
  have hRp : ¬ w.heap.size = p := fun e => by have := h.rd.lt; omega
  have hRo : ¬ w.heap.size = ob := fun e => by have := blk_lt h.ok; omega
  have Hget := Lib.hid hget
  have Htx := Lib.hid htx'
  have H1 := Lib.hid h1
  have HR := Lib.hid hR
  have Hx1 := Lib.hid hx1
  clear hget htx htx' h1 hR hx1 hX hX1 h hm hm2
  go_enter Try.func35, Try.ntmps35
  go_upto_region 1 with fail
  rw [← hw1]
  clear hw1
  generalize hRs : w.heap.size = R at *
  go_region_held3 (fun w' => w'.cell? ⟨X, 0, none⟩ = some (.pointer (some ⟨p, 0, none⟩)))
    (first | assumption | go_keep)
    (first
      | (go_at_call 36; (with_reducible refine (Hget.out _ (H1.out.keep ((Ext.refl (fun _ => False) w1).drew))).mono ?_); rintro r w2 ⟨rfl, h2, hx2⟩; have c0 := (hx2.cell (p := ⟨X, 0, none⟩) hlX (fun e => e.elim hXp hXo)).trans c0; have hR2 := (hx2.blk (blk_lt (w := w1.drew) HR.out) (fun e => e.elim hRp hRo)).trans HR.out; have H2 := Lib.hid h2; have Hx2 := Lib.hid (((Ext.refl (fun k => k = p ∨ k = ob) w1).drew).trans hx2); have HR2 := Lib.hid hR2; have hlX2 := Nat.lt_of_lt_of_le hlX hx2.size; clear h2 hx2 hR2)
      | (go_at_call 37; (with_reducible refine (Htx.out _ H2.out.rd).mono ?_); rintro r w3 ⟨rfl, hr3, hx3⟩; have c0 := (hx3.cell (p := ⟨X, 0, none⟩) hlX2 hXp).trans c0; have hR3 := (hx3.blk (blk_lt HR2.out) hRp).trans HR2.out; obtain ⟨q0, q1⟩ := cells_two hR3; have g0 := free_of_cells hR3 0; have g1 := free_of_cells hR3 1; have hlR := blk_lt hR3; have H3 := Lib.hid (H2.out.read hr3 hx3); have Hx3 := Lib.hid (Hx2.out.trans (hx3.mono (fun b _ (e : b = p) => (.inl e : b = p ∨ b = ob)))); have HR3 := Lib.hid hR3; clear hr3 hx3 hR3))
  all_goals go_wp2_with fail
  all_goals
    have hq := set2_done HR3.out (.int .i64 gv) (.string t)
    have hfin : RkSt (set2 w3 R (.int .i64 gv) (.string t)) p ob s2 (ok && gd) ∧ Ext (fun k => k = p ∨ k = ob) w (set2 w3 R (.int .i64 gv) (.string t)) := by
      refine ⟨⟨H3.out.rd.ext hq.2 (fun (e : p = R) => hRp e.symm) (fun g cur hc (e : g = R) => by subst e; exact hc.ne HR3.out (by decide)), (hq.2.blk (blk_lt H3.out.ok) (fun (e : ob = R) => hRo e.symm)).trans H3.out.ok⟩, ?_⟩
      exact ((ext_any Hx1.out (fun k => k = p ∨ k = ob)).trans Hx3.out).trans' (hq.2.mono (fun b _ (e : b = R) => (.inr e : (b = p ∨ b = ob) ∨ b = R))) (fun k hk e => e.elim id (fun e => absurd hk (by omega)))
    unfold set2 at hq hfin
    obtain ⟨z0, z1⟩ := cells_two hq.1
    exact bodyPost_ret (v := .agg #[.int .i64 gv, .string t]) (by simp [results, Try.results35, go_sem, z0, z1]) rfl ⟨rfl, hfin⟩
end Go.Proofs.Ythligdgkhmgagaa
