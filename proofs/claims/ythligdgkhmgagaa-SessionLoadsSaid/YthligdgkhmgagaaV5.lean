/-
  Package session: Load. Conditions: the table's cells; the text is small.
-/
import Derived.Test.YthligdgkhmgagaaV4
namespace Go.Proofs.Ythligdgkhmgagaa
open Go.RowKit Go.MapKept
open Go.ChangeMaps (setBlock)

/-- while it loads: everything is the call's own -/
structure LoSt (w wi : World) (p ob X xb : Nat) (v0 v1 v2 : Value) (s : RS) (ok : Bool) : Prop where
  ext : Ext (fun _ => False) w wi
  rd : RkSt wi p ob s ok
  x : blk wi X = some (.cells #[.pointer (some ⟨p, 0, none⟩)] 78 (0, 0))
  t : blk wi xb = some (.cells #[v0, v1, v2] 60 (0, 0))
  np : w.heap.size ≤ p
  no : w.heap.size ≤ ob
  nt : w.heap.size ≤ xb
theorem LoSt.keep {w wi w' : World} {p ob X xb : Nat} {v0 v1 v2 : Value} {s : RS} {ok : Bool} (h : LoSt w wi p ob X xb v0 v1 v2 s ok) (hx : Ext (fun _ => False) wi w') : LoSt w w' p ob X xb v0 v1 v2 s ok :=
  ⟨h.ext.trans hx, h.rd.keep hx, (hx.blk (blk_lt h.x) id).trans h.x, (hx.blk (blk_lt h.t) id).trans h.t, h.np, h.no, h.nt⟩
theorem LoSt.ne {w wi : World} {p ob X xb : Nat} {v0 v1 v2 : Value} {s : RS} {ok : Bool} (h : LoSt w wi p ob X xb v0 v1 v2 s ok) : (¬ X = p ∧ ¬ X = ob) ∧ (¬ xb = p ∧ ¬ xb = ob) ∧ ¬ X = xb := by
  obtain ⟨v, hp, _⟩ := h.rd.rd
  have ho := h.rd.ok
  have hx := h.x
  have ht := h.t
  refine ⟨⟨fun e => ?_, fun e => ?_⟩, ⟨fun e => ?_, fun e => ?_⟩, fun e => ?_⟩
  · rw [e, hp] at hx; cases hx
  · rw [e, ho] at hx; cases hx
  · rw [e, hp] at ht; cases ht
  · rw [e, ho] at ht; cases ht
  · rw [e, ht] at hx; cases hx
theorem LoSt.read {w wi w' : World} {p ob X xb : Nat} {v0 v1 v2 : Value} {s s' : RS} {ok ok' : Bool} (h : LoSt w wi p ob X xb v0 v1 v2 s ok) (hx : Ext (fun k => k = p ∨ k = ob) wi w') (hr : RkSt w' p ob s' ok') : LoSt w w' p ob X xb v0 v1 v2 s' ok' := by
  obtain ⟨⟨n1, n2⟩, ⟨n3, n4⟩, _⟩ := h.ne
  exact ⟨h.ext.trans' hx (fun k hk e => e.elim (fun e => absurd h.np (by omega)) (fun e => absurd h.no (by omega))), hr, (hx.blk (blk_lt h.x) (fun e => e.elim n1 n2)).trans h.x, (hx.blk (blk_lt h.t) (fun e => e.elim n3 n4)).trans h.t, h.np, h.no, h.nt⟩
/-- a field of the new table is written -/
theorem LoSt.put {w wi : World} {p ob X xb : Nat} {v0 v1 v2 u0 u1 u2 : Value} {s : RS} {ok : Bool} (h : LoSt w wi p ob X xb v0 v1 v2 s ok) (i : Nat) (u : Value) (he : #[v0, v1, v2].setIfInBounds i u = #[u0, u1, u2]) :
    LoSt w (wi.setCell ⟨xb, i, none⟩ u) p ob X xb u0 u1 u2 s ok ∧ Ext (fun k => k = xb) wi (wi.setCell ⟨xb, i, none⟩ u) := by
  obtain ⟨_, ⟨n3, n4⟩, n5⟩ := h.ne
  have hx : Ext (fun k => k = xb) wi (wi.setCell ⟨xb, i, none⟩ u) := (Ext.refl _ wi).setCell _ (fun _ => rfl)
  exact ⟨⟨h.ext.trans' hx (fun k hk (e : k = xb) => absurd h.nt (by omega)), ⟨h.rd.rd.ext hx (fun (e : p = xb) => n3 e.symm) (fun g cur hc (e : g = xb) => by subst e; exact hc.ne h.t (by decide)), (hx.blk (blk_lt h.rd.ok) (fun (e : ob = xb) => n4 e.symm)).trans h.rd.ok⟩, (hx.blk (blk_lt h.x) n5).trans h.x, by rw [← he]; exact blk_setCell_same h.t i u, h.np, h.no, h.nt⟩, hx⟩
def LoadPost (w : World) (tb : Nat) (o : Option Tbl) (r : Ending) (w' : World) : Prop :=
  match o with
  | some K => r = .returned (.int .i64 0) ∧ (∃ cb sb, IsTable w' tb cb sb K ∧ w.heap.size ≤ cb ∧ w.heap.size ≤ sb) ∧ Ext (fun k => k = tb) w w'
  | none => r = .returned (.int .i64 11) ∧ Ext (fun _ => False) w w'
theorem load_none {w w' : World} {tb : Nat} {o : Option Tbl} (h : o = none) (hx : Ext (fun _ => False) w w') : LoadPost w tb o (.returned (.int .i64 11)) w' := by
  subst h; exact ⟨rfl, hx⟩
theorem imap_not_cells {w : World} {mb B : Nat} {l : List (Int × Value)} {cs : Array Value} {t : TypeId} {f : Nat × Nat} (h : IsIMap w mb l) (hb : blk w B = some (.cells cs t f)) : ¬ mb = B := fun e => by
  obtain ⟨es, c, hm, _⟩ := h
  rw [e, hb] at hm; cases hm
theorem run_len_imap2 {P : Program} {w : World} {b clock : Nat} {es : Array MapEntry} {l : List (Int × Value)} {t k e : TypeId} (ht : P.underlying t = some (.map k e)) (hl : IntMap es l) (ty : TypeId) (hw : blk w b = some (.map es clock)) : (Builtin.len_ #[t] ty #[.map (some b)]).run P w = .ok (.int .i64 l.length) w := by
  simp [Builtin.len_, run_underlying ht, MapKept.run_getObj_map hw, Result.andThen, hl.size, goInt]
def setT (w : World) (R : Nat) (u0 u1 u2 : Value) : World := ((w.setCell ⟨R, 0, none⟩ u0).setCell ⟨R, 1, none⟩ u1).setCell ⟨R, 2, none⟩ u2
theorem setT_done {w : World} {R : Nat} {v0 v1 v2 : Value} {t : TypeId} (h : blk w R = some (.cells #[v0, v1, v2] t (0, 0))) (u0 u1 u2 : Value) :
    blk (setT w R u0 u1 u2) R = some (.cells #[u0, u1, u2] t (0, 0)) ∧ Ext (fun b => b = R) w (setT w R u0 u1 u2) := by
  unfold setT
  exact ⟨by simpa using blk_setCell_same (blk_setCell_same (blk_setCell_same h 0 u0) 1 u1) 2 u2, (((Ext.refl (fun b => b = R) w).setCell (p := ⟨R, 0, none⟩) _ (fun _ => rfl)).setCell (p := ⟨R, 1, none⟩) _ (fun _ => rfl)).setCell (p := ⟨R, 2, none⟩) _ (fun _ => rfl)⟩
set_option maxRecDepth 100000 in
set_option maxHeartbeats 4000000 in
theorem load_any (w : World) (tb : Nat) (t0 t1 t2 : Value) (htb : blk w tb = some (.cells #[t0, t1, t2] 60 (0, 0))) (b : ByteArray) (hs : b.size ≤ 1000000) :
    Calls Try.prog 21 #[.pointer (some ⟨tb, 0, none⟩), .string b] w (LoadPost w tb (loadP b.data.toList)) := by
  obtain ⟨cap, w1, hcv, hb1, hx1⟩ := run_string_bytesAt w b hs
  have hll : b.data.toList.length = b.size := Array.length_toList
  have hnew := newreader_any w1 _ _ _ _ hb1 (by rw [hll]; exact hs)
  have hlp : loadP b.data.toList = match rowsC (countM (⟨b.data.toList, 0⟩ : RS).l.length ⟨b.data.toList, 0⟩).1 0 [] (countM (⟨b.data.toList, 0⟩ : RS).l.length ⟨b.data.toList, 0⟩).2 with | some (cl, s) => midT cl s | none => none := rfl
  have hr1 := fun (W : World) (p ob X : Nat) (h : RkSt W p ob ⟨b.data.toList, 0⟩ true) (hX : blk W X = some (.cells #[.pointer (some ⟨p, 0, none⟩)] 78 (0, 0))) => Read1_any W p ob X _ true h hX
  simp only [if_true] at hr1
  generalize rowsC (countM (⟨b.data.toList, 0⟩ : RS).l.length ⟨b.data.toList, 0⟩).1 0 [] (countM (⟨b.data.toList, 0⟩ : RS).l.length ⟨b.data.toList, 0⟩).2 = R1 at *
  generalize loadP b.data.toList = LP at *
  unfold NewRdPost at hnew
  generalize (⟨b.data.toList, 0⟩ : RS) = s0 at *
  have Hnew := Lib.hid hnew
  have Hr1 := Lib.hid hr1
  have Hlp := Lib.hid hlp
  have Hx1 := Lib.hid hx1
  have Htb := Lib.hid htb
  clear hnew hr1 hlp hx1 htb hb1 hll
  go_enter Try.func21, Try.ntmps21
  go_wp2_with fail
  refine Hnew.out.mono ?_
  rintro r w2 ⟨p, rfl, hrd2, hx2, hp2⟩
  have Hrd2 := Lib.hid hrd2
  have Hx2 := Lib.hid (Hx1.out.trans hx2)
  have hpw : w.heap.size ≤ p := Nat.le_trans Hx1.out.size hp2
  clear hrd2 hx2 hcv hp2 Hx1 Hnew
  go_upto_region 3 with fail
  obtain ⟨w3, hw3⟩ : ∃ w3, w3 = (w2.alloc (.cells #[.pointer (some ⟨p, 0, none⟩)] 78)).alloc (.cells #[.bool true] 4) := ⟨_, rfl⟩
  have hX3 : blk w3 w2.heap.size = some (.cells #[.pointer (some ⟨p, 0, none⟩)] 78 (0, 0)) := by rw [hw3]; exact (blk_alloc_past _ _ _ (by simp)).trans (blk_alloc_at _ _)
  have ho3 : blk w3 (w2.heap.size + 1) = some (.cells #[.bool true] 4 (0, 0)) := by rw [hw3]; simpa using blk_alloc_at (w2.alloc (.cells #[.pointer (some ⟨p, 0, none⟩)] 78)) (.cells #[.bool true] 4)
  have hx3 : Ext (fun _ => False) w2 w3 := by rw [hw3]; exact ((Ext.refl _ w2).alloc _).alloc _
  rw [← hw3]
  have hob : w.heap.size ≤ w2.heap.size + 1 := by have := Hx2.out.size; omega
  have Hrk := Lib.hid (show RkSt w3 p (w2.heap.size + 1) s0 true from ⟨Hrd2.out.keep hx3, ho3⟩)
  have HX3 := Lib.hid hX3
  have Hx3 := Lib.hid (Hx2.out.trans hx3)
  generalize w2.heap.size + 1 = ob at *
  generalize w2.heap.size = X at *
  clear hw3 hX3 ho3 hx3 Hrd2 Hx2
  go_wp2_with fail
  refine (new_any w3).mono ?_
  rintro r w4 ⟨xb, cb0, sb0, rfl, ht4, hx4, hxb, _, _⟩
  have hI4 : LoSt w w4 p ob X xb (.map (some cb0)) (.int .i64 0) (.map (some sb0)) s0 true := ⟨Hx3.out.trans hx4, Hrk.out.keep hx4, (hx4.blk (blk_lt HX3.out) id).trans HX3.out, ht4.1, hpw, hob, Nat.le_trans Hx3.out.size hxb⟩
  have HI4 := Lib.hid hI4
  clear hI4 ht4 hx4 hxb Hrk HX3 Hx3 hpw hob
  obtain ⟨x0⟩ : Nonempty (w4.cell? ⟨X, 0, none⟩ = some (.pointer (some ⟨p, 0, none⟩))) := ⟨by simpa using cell_of_cells HI4.out.x 0⟩
  have hlx := blk_lt HI4.out.x
  go_wp2_with fail
  refine (Hr1.out w4 p ob X HI4.out.rd HI4.out.x).mono ?_
  rintro r w5 hp5
  -- the clients: what came of them
  have h5 : ∃ (ok : Bool) (s1 : RS) (o1 : Option Nat), r = .returned (.map o1) ∧ RkSt w5 p ob s1 ok ∧ Ext (fun k => k = p ∨ k = ob) w4 w5 ∧ ((ok = true ∧ ∃ cl m1, o1 = some m1 ∧ R1 = some (cl, s1) ∧ IsIMap w5 m1 (imap Ans.v cl) ∧ w4.heap.size ≤ m1) ∨ (ok = false ∧ R1 = none)) := by
    cases R1 with
    | none =>
      obtain ⟨o', s', h1, h2, h3⟩ := hp5
      exact ⟨false, s', o', h1, h2, h3, .inr ⟨rfl, rfl⟩⟩
    | some q =>
      obtain ⟨cl, s1⟩ := q
      obtain ⟨m1, h1, h2, h3, h4, h5⟩ := hp5
      exact ⟨true, s1, some m1, h1, h4, h5, .inl ⟨rfl, cl, m1, rfl, rfl, h2, h3⟩⟩
  obtain ⟨ok1, s1, o1, rfl, hrk5, hx5, hcase⟩ := h5
  have hI5 := HI4.out.read hx5 hrk5
  obtain ⟨c0, c1, c2⟩ := box_cells hI5.t
  have g0 := free_of_cells hI5.t 0
  have hlt5 := blk_lt hI5.t
  obtain ⟨hI6, hx6⟩ := hI5.put (u0 := .map o1) (u1 := .int .i64 0) (u2 := .map (some sb0)) 0 (.map o1) rfl
  have hlp6 : (ok1 = true ∧ ∃ cl m1, o1 = some m1 ∧ LP = midT cl s1 ∧ IsIMap (w5.setCell ⟨xb, 0, none⟩ (.map o1)) m1 (imap Ans.v cl) ∧ w.heap.size ≤ m1) ∨ (ok1 = false ∧ LP = none) := by
    rcases hcase with ⟨e, cl, m1, e1, e2, e3, e4⟩ | ⟨e, e2⟩
    · exact .inl ⟨e, cl, m1, e1, by rw [Hlp.out, e2], e3.ext hx6 (imap_not_cells e3 hI5.t), Nat.le_trans HI4.out.ext.size e4⟩
    · exact .inr ⟨e, by rw [Hlp.out, e2]⟩
  have HI6 := Lib.hid hI6
  have Hlp6 := Lib.hid hlp6
  clear hp5 hcase hrk5 hx5 hI5 hI6 hx6 hlp6 HI4 Hr1 Hlp x0 hlx
  go_upto_region 5 with fail
  generalize w5.setCell ⟨xb, 0, none⟩ (.map o1) = w6 at *
  clear c0 c1 c2 g0 hlt5
  have x0 : w6.cell? ⟨X, 0, none⟩ = some (.pointer (some ⟨p, 0, none⟩)) := by simpa using cell_of_cells HI6.out.x 0
  have hlx := blk_lt HI6.out.x
  have hget : Calls Try.prog 36 #[.pointer (some ⟨p, 0, none⟩), .int .i64 0, .pointer (some ⟨ob, 0, none⟩)] w6 (GetPost w6 p ob 0 (numberM s1).1 (numberM s1).2 ok1) := get_any w6 p ob s1 ok1 0 HI6.out.rd (by omega)
  have hmid : ∀ cl, midT cl s1 = if (numberM s1).1 ≤ 4611686018427387904 then finT cl (numberM s1).1 (rowsT (countM (numberM s1).2.l.length (numberM s1).2).1 0 [] (countM (numberM s1).2.l.length (numberM s1).2).2) else none := fun cl => rfl
  unfold GetPost at hget
  obtain ⟨⟨n, s2⟩, hm⟩ : ∃ m, numberM s1 = m := ⟨_, rfl⟩
  simp only [hm] at hget hmid
  have Hget := Lib.hid hget
  have Hmid := Lib.hid hmid
  clear hget hmid hm
  go_wp2_with fail
  refine Hget.out.mono ?_
  rintro r w7 ⟨rfl, hrk7, hx7⟩
  have hI7 := HI6.out.read hx7 hrk7
  obtain ⟨c0, c1, c2⟩ := box_cells hI7.t
  have g1 := free_of_cells hI7.t 1
  have hlt7 := blk_lt hI7.t
  obtain ⟨hI8, hx8⟩ := hI7.put (u0 := .map o1) (u1 := .int .i64 (getV 0 n)) (u2 := .map (some sb0)) 1 (.int .i64 (getV 0 n)) rfl
  have hlp8 : ((ok1 && goodN 0 n) = true ∧ ∃ cl m1, o1 = some m1 ∧ getV 0 n = n ∧ LP = finT cl n (rowsT (countM s2.l.length s2).1 0 [] (countM s2.l.length s2).2) ∧ IsIMap (w7.setCell ⟨xb, 1, none⟩ (.int .i64 (getV 0 n))) m1 (imap Ans.v cl) ∧ w.heap.size ≤ m1) ∨ ((ok1 && goodN 0 n) = false ∧ LP = none) := by
    obtain ⟨⟨n1, n2⟩, ⟨n3, n4⟩, _⟩ := HI6.out.ne
    rcases Hlp6.out with ⟨rfl, cl, m1, e1, e2, e3, e4⟩ | ⟨rfl, e2⟩
    · by_cases hn : n ≤ 4611686018427387904
      · have hg : goodN 0 n = true := by simp [goodN]; omega
        have hv : getV 0 n = n := by unfold getV; rw [hg]; rfl
        refine .inl ⟨by rw [hg]; rfl, cl, m1, e1, hv, by rw [e2, Hmid.out, if_pos hn], (e3.ext hx7 (fun e => ?_)).ext hx8 (fun (e : m1 = xb) => ?_), e4⟩
        · rcases e with e | e
          · obtain ⟨v, hp, _⟩ := HI6.out.rd.rd
            exact imap_not_cells e3 hp e
          · exact imap_not_cells e3 HI6.out.rd.ok e
        · exact imap_not_cells e3 HI6.out.t e
      · have hg : goodN 0 n = false := by simp [goodN]; omega
        exact .inr ⟨by rw [hg]; rfl, by rw [e2, Hmid.out, if_neg hn]⟩
    · exact .inr ⟨rfl, e2⟩
  generalize (ok1 && goodN 0 n) = ok2 at *
  generalize getV 0 n = gv at *
  have HI8 := Lib.hid hI8
  have Hlp8 := Lib.hid hlp8
  clear hrk7 hx7 hI7 hI8 hx8 hlp8 HI6 Hlp6 Hget Hmid x0 hlx
  go_upto_region 6 with fail
  generalize w7.setCell ⟨xb, 1, none⟩ (.int .i64 gv) = w8 at *
  clear c0 c1 c2 g1 hlt7
  have x0 : w8.cell? ⟨X, 0, none⟩ = some (.pointer (some ⟨p, 0, none⟩)) := by simpa using cell_of_cells HI8.out.x 0
  have hlx := blk_lt HI8.out.x
  have hr2 := Read2_any w8 p ob X s2 ok2 HI8.out.rd HI8.out.x
  generalize rowsT (countM s2.l.length s2).1 0 [] (countM s2.l.length s2).2 = R2 at *
  have Hr2 := Lib.hid hr2
  clear hr2
  go_wp2_with fail
  refine Hr2.out.mono ?_
  rintro r w9 hp9
  have h9 : ∃ (ok : Bool) (s3 : RS) (o2 : Option Nat), r = .returned (.map o2) ∧ RkSt w9 p ob s3 ok ∧ Ext (fun k => k = p ∨ k = ob) w8 w9 ∧ ((ok = true ∧ ok2 = true ∧ ∃ st m2, o2 = some m2 ∧ R2 = some (st, s3) ∧ IsIMap w9 m2 (imap codeV st) ∧ w8.heap.size ≤ m2) ∨ (ok = false ∧ (ok2 = false ∨ R2 = none))) := by
    cases ok2 with
    | false =>
      obtain ⟨o', s', h1, h2, h3⟩ := hp9
      exact ⟨false, s', o', h1, h2, h3, .inr ⟨rfl, .inl rfl⟩⟩
    | true =>
      simp only [if_true] at hp9
      cases R2 with
      | none =>
        obtain ⟨o', s', h1, h2, h3⟩ := hp9
        exact ⟨false, s', o', h1, h2, h3, .inr ⟨rfl, .inr rfl⟩⟩
      | some q =>
        obtain ⟨st, s3⟩ := q
        obtain ⟨m2, h1, h2, h3, h4, h5⟩ := hp9
        exact ⟨true, s3, some m2, h1, h4, h5, .inl ⟨rfl, rfl, st, m2, rfl, rfl, h2, h3⟩⟩
  obtain ⟨ok3, s3, o2, rfl, hrk9, hx9, hcase⟩ := h9
  have hI9 := HI8.out.read hx9 hrk9
  obtain ⟨c0, c1, c2⟩ := box_cells hI9.t
  have g2 := free_of_cells hI9.t 2
  have hlt9 := blk_lt hI9.t
  obtain ⟨hI10, hx10⟩ := hI9.put (u0 := .map o1) (u1 := .int .i64 gv) (u2 := .map o2) 2 (.map o2) rfl
  have hlp10 : (ok3 = true ∧ ∃ cl m1 st m2, o1 = some m1 ∧ o2 = some m2 ∧ gv = n ∧ LP = finT cl n (some (st, s3)) ∧ IsIMap (w9.setCell ⟨xb, 2, none⟩ (.map o2)) m1 (imap Ans.v cl) ∧ IsIMap (w9.setCell ⟨xb, 2, none⟩ (.map o2)) m2 (imap codeV st) ∧ w.heap.size ≤ m1 ∧ w.heap.size ≤ m2 ∧ m1 ≠ m2) ∨ (ok3 = false ∧ LP = none) := by
    rcases hcase with ⟨e, e1, st, m2, e2, e3, e4, e5⟩ | ⟨e, e1⟩
    · rcases Hlp8.out with ⟨_, cl, m1, f1, f2, f3, f4, f5⟩ | ⟨f, _⟩
      · have hlm := f4.lt
        refine .inl ⟨e, cl, m1, st, m2, f1, e2, f2, by rw [f3, e3], (f4.ext hx9 (fun e => ?_)).ext hx10 (fun (e : m1 = xb) => imap_not_cells f4 HI8.out.t e), e4.ext hx10 (fun (e : m2 = xb) => imap_not_cells e4 hI9.t e), f5, Nat.le_trans HI8.out.ext.size e5, by omega⟩
        rcases e with e | e
        · obtain ⟨v, hp, _⟩ := HI8.out.rd.rd
          exact imap_not_cells f4 hp e
        · exact imap_not_cells f4 HI8.out.rd.ok e
      · rw [e1] at f; cases f
    · refine .inr ⟨e, ?_⟩
      rcases Hlp8.out with ⟨f, cl, m1, f1, f2, f3, f4, f5⟩ | ⟨_, f⟩
      · rcases e1 with e1 | e1
        · rw [f] at e1; cases e1
        · rw [f3, e1]; rfl
      · exact f
  have HI10 := Lib.hid hI10
  have Hlp10 := Lib.hid hlp10
  clear hp9 hcase hrk9 hx9 hI9 hI10 hx10 hlp10 HI8 Hlp8 Hr2 x0 hlx
  go_upto_region 7 with fail
  generalize w9.setCell ⟨xb, 2, none⟩ (.map o2) = w10 at *
  clear c0 c1 c2 g2 hlt9
  have x0 : w10.cell? ⟨X, 0, none⟩ = some (.pointer (some ⟨p, 0, none⟩)) := by simpa using cell_of_cells HI10.out.x 0
  have hlx := blk_lt HI10.out.x
  have k0 : w10.cell? ⟨ob, 0, none⟩ = some (.bool ok3) := by simpa using cell_of_cells HI10.out.rd.ok 0
  have hlo := blk_lt HI10.out.rd.ok
  obtain ⟨c0, c1, c2⟩ := box_cells HI10.out.t
  have hlt := blk_lt HI10.out.t
  rcases Hlp10.out with ⟨rfl, cl, m1, st, m2, rfl, rfl, rfl, hlp, hm1, hm2, q1, q2, q3⟩ | ⟨rfl, hlp⟩
  · have hendW := fun (nq : Nat) => end_any (w10.drewN nq) p s3 (HI10.out.rd.rd.keep ((Ext.refl (fun _ => False) w10).drewN nq))
    obtain ⟨es2, clk2, hmb2, hl2, _⟩ := id hm2
    have hln := fun (ty : TypeId) (W : World) (h : blk W m2 = some (.map es2 clk2)) => run_len_imap2 (P := Try.prog) Try.underlying58 hl2 ty h
    have hsl : (imap codeV st).length = st.length := by simp [imap]
    rw [hsl] at hln
    have hfinT : finT cl n (some (st, s3)) = if endM s3 = 0 ∧ (decide (0 < n) = decide (0 < st.length)) then some ⟨cl, n, st⟩ else none := rfl
    rw [hfinT] at hlp
    have Hend := Lib.hid (fun nq => (Calls.quiet_of_same (hendW nq)))
    obtain ⟨sl, hsl2⟩ : ∃ sl, st.length = sl := ⟨_, rfl⟩
    rw [hsl2] at hln hlp
    have Hln := Lib.hid hln
    clear hsl hfinT hl2 hendW Hlp10 hln hsl2
    by_cases he : endM s3 = 0
    · rw [he] at Hend
      by_cases h1 : n = 0
      · subst h1
        by_cases h2 : sl = 0
        · subst h2
          have hlp2 : LP = some ⟨cl, ((0 : Nat) : Int), st⟩ := by rw [hlp, if_pos ⟨he, rfl⟩]
          have Hlp2 := Lib.hid hlp2
          have Hm1 := Lib.hid hm1
          have Hm2 := Lib.hid hm2
          have hln := fun (ty : TypeId) (nq : Nat) => Hln.out ty (w10.drewN nq) ((((Ext.refl (fun _ => False) w10).drewN nq).blk (blk_lt hmb2) id).trans hmb2)
          have hln0 := fun (ty : TypeId) => Hln.out ty w10 hmb2
          clear hlp hlp2 hm1 hm2 he
          go_wp2_with fail
          go_quiet ((go_at_call 41; exact Hend.out _))
          have HQ := Lib.hid (HI10.out.keep ((Ext.refl (fun _ => False) w10).drewN nq))
          have HM1 := Lib.hid (Hm1.out.ext ((Ext.refl (fun _ => False) w10).drewN nq) id)
          have HM2 := Lib.hid (Hm2.out.ext ((Ext.refl (fun _ => False) w10).drewN nq) id)
          generalize w10.drewN nq = wq at *
          clear c0 c1 c2 x0 k0 hlx hlo hlt hmb2 hln hln0 Hln Hend HI10 Hm1 Hm2
          obtain ⟨c0, c1, c2⟩ := box_cells HQ.out.t
          have hlt := blk_lt HQ.out.t
          have htq := (HQ.out.ext.blk (blk_lt Htb.out) id).trans Htb.out
          obtain ⟨b0, b1, b2⟩ := box_cells htq
          have g0 := free_of_cells htq 0
          have g1 := free_of_cells htq 1
          have g2 := free_of_cells htq 2
          have hltb := blk_lt htq
          have hq := setT_done htq (.map (some m1)) (.int .i64 0) (.map (some m2))
          have hfin : LoadPost w tb LP (.returned (.int .i64 0)) (setT wq tb (.map (some m1)) (.int .i64 0) (.map (some m2))) := by
            rw [Hlp2.out]
            refine ⟨rfl, ⟨m1, m2, ⟨hq.1, HM1.out.ext hq.2 (fun (e : m1 = tb) => ?_), HM2.out.ext hq.2 (fun (e : m2 = tb) => ?_), q3⟩, q1, q2⟩, (ext_any HQ.out.ext (fun k => k = tb)).trans hq.2⟩
            · have := blk_lt Htb.out; omega
            · have := blk_lt Htb.out; omega
          have Hfin := Lib.hid hfin
          unfold setT at Hfin
          clear hq hfin htq
          go_wp2
          go_ret
          exact Hfin.out
        · have d2 : (0 : Int) < (sl : Int) := by omega
          have d3 : 0 < sl := by omega
          have hlp2 : LP = none := by rw [hlp, if_neg (fun h => by have := h.2; simp at this; omega)]
          clear h2
          have Hfin := Lib.hid (fun nq => load_none (tb := tb) hlp2 (HI10.out.ext.drewN nq))
          have hln := fun (ty : TypeId) (nq : Nat) => Hln.out ty (w10.drewN nq) ((((Ext.refl (fun _ => False) w10).drewN nq).blk (blk_lt hmb2) id).trans hmb2)
          have hln0 := fun (ty : TypeId) => Hln.out ty w10 hmb2
          clear hlp hlp2 hm1 hm2 q1 q2 q3 HI10 he
          go_wp2_with fail
          go_quiet ((go_at_call 41; exact Hend.out _))
          go_wp2
          go_ret
          exact Hfin.out _
      · have d1 : (0 : Int) < (n : Int) := by omega
        have d0 : 0 < n := by omega
        by_cases h2 : sl = 0
        · subst h2
          have hlp2 : LP = none := by rw [hlp, if_neg (fun h => by have := h.2; simp at this; omega)]
          clear h1
          have Hfin := Lib.hid (fun nq => load_none (tb := tb) hlp2 (HI10.out.ext.drewN nq))
          have hln := fun (ty : TypeId) (nq : Nat) => Hln.out ty (w10.drewN nq) ((((Ext.refl (fun _ => False) w10).drewN nq).blk (blk_lt hmb2) id).trans hmb2)
          have hln0 := fun (ty : TypeId) => Hln.out ty w10 hmb2
          clear hlp hlp2 hm1 hm2 q1 q2 q3 HI10 he
          go_wp2_with fail
          go_quiet ((go_at_call 41; exact Hend.out _))
          go_wp2
          go_ret
          exact Hfin.out _
        · have d2 : (0 : Int) < (sl : Int) := by omega
          have d3 : 0 < sl := by omega
          have hlp2 : LP = some ⟨cl, n, st⟩ := by rw [hlp, if_pos ⟨he, by simp; omega⟩]
          clear h1 h2
          have Hlp2 := Lib.hid hlp2
          have Hm1 := Lib.hid hm1
          have Hm2 := Lib.hid hm2
          have hln := fun (ty : TypeId) (nq : Nat) => Hln.out ty (w10.drewN nq) ((((Ext.refl (fun _ => False) w10).drewN nq).blk (blk_lt hmb2) id).trans hmb2)
          have hln0 := fun (ty : TypeId) => Hln.out ty w10 hmb2
          clear hlp hlp2 hm1 hm2 he
          go_wp2_with fail
          go_quiet ((go_at_call 41; exact Hend.out _))
          have HQ := Lib.hid (HI10.out.keep ((Ext.refl (fun _ => False) w10).drewN nq))
          have HM1 := Lib.hid (Hm1.out.ext ((Ext.refl (fun _ => False) w10).drewN nq) id)
          have HM2 := Lib.hid (Hm2.out.ext ((Ext.refl (fun _ => False) w10).drewN nq) id)
          generalize w10.drewN nq = wq at *
          clear c0 c1 c2 x0 k0 hlx hlo hlt hmb2 hln hln0 Hln Hend HI10 Hm1 Hm2
          obtain ⟨c0, c1, c2⟩ := box_cells HQ.out.t
          have hlt := blk_lt HQ.out.t
          have htq := (HQ.out.ext.blk (blk_lt Htb.out) id).trans Htb.out
          obtain ⟨b0, b1, b2⟩ := box_cells htq
          have g0 := free_of_cells htq 0
          have g1 := free_of_cells htq 1
          have g2 := free_of_cells htq 2
          have hltb := blk_lt htq
          have hq := setT_done htq (.map (some m1)) (.int .i64 n) (.map (some m2))
          have hfin : LoadPost w tb LP (.returned (.int .i64 0)) (setT wq tb (.map (some m1)) (.int .i64 n) (.map (some m2))) := by
            rw [Hlp2.out]
            refine ⟨rfl, ⟨m1, m2, ⟨hq.1, HM1.out.ext hq.2 (fun (e : m1 = tb) => ?_), HM2.out.ext hq.2 (fun (e : m2 = tb) => ?_), q3⟩, q1, q2⟩, (ext_any HQ.out.ext (fun k => k = tb)).trans hq.2⟩
            · have := blk_lt Htb.out; omega
            · have := blk_lt Htb.out; omega
          have Hfin := Lib.hid hfin
          unfold setT at Hfin
          clear hq hfin htq
          go_wp2
          go_ret
          exact Hfin.out
    · have he' : (endM s3 == 0) = false := by simpa using he
      have he2 : (endM s3 != 0) = true := by simpa using he
      have he3 : decide (endM s3 = 0) = false := by simpa using he
      have hlp2 : LP = none := by rw [hlp, if_neg (fun h => he h.1)]
      generalize endM s3 = en at *
      have Hfin := Lib.hid (fun nq => load_none (tb := tb) hlp2 (HI10.out.ext.drewN nq))
      have hln := fun (ty : TypeId) (nq : Nat) => Hln.out ty (w10.drewN nq) ((((Ext.refl (fun _ => False) w10).drewN nq).blk (blk_lt hmb2) id).trans hmb2)
      have hln0 := fun (ty : TypeId) => Hln.out ty w10 hmb2
      clear hlp hlp2 hm1 hm2 q1 q2 q3 HI10 he
      go_wp2_with fail
      go_quiet ((go_at_call 41; exact Hend.out _))
      go_wp2
      go_ret
      exact Hfin.out _
  · have Hfin := Lib.hid (fun nq => load_none (tb := tb) hlp (HI10.out.ext.drewN nq))
    clear hlp HI10 Hlp10
    go_wp2_with fail
    go_quiet (fail)
    go_wp2
    go_ret
    exact Hfin.out _
end Go.Proofs.Ythligdgkhmgagaa
