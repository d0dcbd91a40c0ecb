/-
  Package session: read, for the clients. Conditions: the reader stands as RkSt says; the closure's box.
-/
import Derived.Test.YthligdgkhmgagaaV2
namespace Go.Proofs.Ythligdgkhmgagaa
open Go.RowKit Go.MapKept
open Go.ChangeMaps (setBlock)

theorem imap_snoc {α : Type} (f : α → Value) (l : List (Int × α)) (k : Int) (v : α) : imap f (l ++ [(k, v)]) = imap f l ++ [(k, f v)] := by unfold imap; simp
theorem imap_none {α : Type} (f : α → Value) {l : List (Int × α)} {k : Int} (h : iget l k = none) : iget (imap f l) k = none := by rw [iget_imap, h]; rfl
/-- the keys so far are not above the last -/
def UpI {α : Type} (acc : List (Int × α)) (last : Nat) : Prop := ∀ p ∈ acc, p.1 ≤ last
theorem UpI.none {α : Type} {acc : List (Int × α)} {last : Nat} (h : UpI acc last) {n : Nat} (hn : last < n) : iget acc (n : Int) = none := by
  cases ha : iget acc (n : Int) with
  | none => rfl
  | some v =>
    have := h _ (iget_mem ha)
    simp only at this
    omega
theorem UpI.snoc {α : Type} {acc : List (Int × α)} {last n : Nat} (h : UpI acc last) (hn : last < n) (x : α) : UpI (acc ++ [((n : Int), x)]) n := fun p hp => by
  rcases List.mem_append.1 hp with hp | hp
  · have := h p hp; omega
  · simp at hp; subst hp; simp
/-- while it reads -/
structure LdSt (w wi : World) (p ob X mb : Nat) (l : List (Int × Value)) (s : RS) (ok : Bool) : Prop where
  ext : Ext (fun k => k = p ∨ k = ob) w wi
  rd : RkSt wi p ob s ok
  map : IsIMap wi mb l
  nm : w.heap.size ≤ mb
  x : blk wi X = some (.cells #[.pointer (some ⟨p, 0, none⟩)] 78 (0, 0))
theorem LdSt.keep {w wi w' : World} {p ob X mb : Nat} {l : List (Int × Value)} {s : RS} {ok : Bool} (h : LdSt w wi p ob X mb l s ok) (hx : Ext (fun _ => False) wi w') : LdSt w w' p ob X mb l s ok :=
  ⟨h.ext.trans (ext_any hx _), h.rd.keep hx, h.map.ext hx id, h.nm, (hx.blk (blk_lt h.x) id).trans h.x⟩
theorem LdSt.ne {w wi : World} {p ob X mb : Nat} {l : List (Int × Value)} {s : RS} {ok : Bool} (h : LdSt w wi p ob X mb l s ok) : (¬ mb = p ∧ ¬ mb = ob) ∧ ¬ X = p ∧ ¬ X = ob ∧ ¬ X = mb := by
  obtain ⟨es, c, hm, _⟩ := h.map
  obtain ⟨v, hp, _⟩ := h.rd.rd
  have ho := h.rd.ok
  have hx := h.x
  refine ⟨⟨fun e => ?_, fun e => ?_⟩, fun e => ?_, fun e => ?_, fun e => ?_⟩
  · rw [e, hp] at hm; cases hm
  · rw [e, ho] at hm; cases hm
  · rw [e, hp] at hx; cases hx
  · rw [e, ho] at hx; cases hx
  · rw [e, hm] at hx; cases hx
theorem LdSt.read {w wi w' : World} {p ob X mb : Nat} {l : List (Int × Value)} {s s' : RS} {ok ok' : Bool} (h : LdSt w wi p ob X mb l s ok) (hx : Ext (fun k => k = p ∨ k = ob) wi w') (hr : RkSt w' p ob s' ok') : LdSt w w' p ob X mb l s' ok' := by
  obtain ⟨⟨n1, n2⟩, n3, n4, _⟩ := h.ne
  exact ⟨h.ext.trans hx, hr, h.map.ext hx (fun e => e.elim n1 n2), h.nm, (hx.blk (blk_lt h.x) (fun e => e.elim n3 n4)).trans h.x⟩
theorem LdSt.put {w wi : World} {p ob X mb : Nat} {l l' : List (Int × Value)} {s : RS} {ok : Bool} (h : LdSt w wi p ob X mb l s ok) {O : Obj} {es' : Array MapEntry} {c' : Nat} (h1 : IntMap es' l') (h2 : Stamped es' c') : LdSt w (setBlock (setBlock wi mb O) mb (.map es' c')) p ob X mb l' s ok := by
  obtain ⟨⟨n1, n2⟩, _, _, n5⟩ := h.ne
  obtain ⟨es, c, hm, _⟩ := id h.map
  have hX : Ext (fun b => b = mb) wi (setBlock (setBlock wi mb O) mb (.map es' c')) := ((Ext.refl (fun b => b = mb) wi).setBlock mb O (fun _ => rfl)).setBlock mb _ (fun _ => rfl)
  refine ⟨h.ext.trans' (hX.mono (fun b hb e => (.inr e : (b = p ∨ b = ob) ∨ b = mb))) (fun k hk e => ?_), ⟨h.rd.rd.ext hX (fun (e : p = mb) => n1 e.symm) (fun g cur hc (e : g = mb) => ?_), (hX.blk (blk_lt h.rd.ok) (fun (e : ob = mb) => n2 e.symm)).trans h.rd.ok⟩, ⟨es', c', blk_setBlock_same (blk_setBlock_same hm _) _, h1, h2⟩, h.nm, (hX.blk (blk_lt h.x) n5).trans h.x⟩
  · rcases e with e | e
    · exact e
    · exact absurd h.nm (by omega)
  · obtain ⟨f, hc⟩ := hc
    rw [e, hm] at hc; cases hc
theorem IsRd.small {w : World} {p : Nat} {s : RS} (h : IsRd w p s) : s.l.length ≤ 9223372036854775807 := by
  obtain ⟨v, _, ao, c, _, h1, h2, _⟩ := h
  exact Nat.le_trans h1 h2
def Read1Post (w : World) (p ob : Nat) (o : Option (List (Int × Ans) × RS)) (r : Ending) (w' : World) : Prop :=
  match o with
  | some (cl, s') => ∃ mb, r = .returned (.map (some mb)) ∧ IsIMap w' mb (imap Ans.v cl) ∧ w.heap.size ≤ mb ∧ RkSt w' p ob s' true ∧ Ext (fun k => k = p ∨ k = ob) w w'
  | none => ∃ o' s', r = .returned (.map o') ∧ RkSt w' p ob s' false ∧ Ext (fun k => k = p ∨ k = ob) w w'
theorem Read1Post.bad {w wi : World} {p ob X mb : Nat} {l : List (Int × Value)} {s : RS} (h : LdSt w wi p ob X mb l s false) {o : Option (List (Int × Ans) × RS)} (ho : o = none) (o' : Option Nat) : Read1Post w p ob o (.returned (.map o')) wi := by
  subst ho
  exact ⟨o', s, rfl, h.rd, h.ext⟩
set_option maxRecDepth 100000 in
set_option maxHeartbeats 4000000 in
theorem Read1_any (w : World) (p ob X : Nat) (s0 : RS) (ok : Bool) (h : RkSt w p ob s0 ok) (hX : blk w X = some (.cells #[.pointer (some ⟨p, 0, none⟩)] 78 (0, 0))) :
    Calls Try.prog 34 #[.pointer (some ⟨p, 0, none⟩), .pointer (some ⟨ob, 0, none⟩), .func (.func 35) #[] #[.pointer (some ⟨X, 0, none⟩), .pointer (some ⟨ob, 0, none⟩)]] w (Read1Post w p ob (if ok then rowsC (countM s0.l.length s0).1 0 [] (countM s0.l.length s0).2 else none)) := by
  obtain ⟨o, ho⟩ : ∃ o, (if ok then rowsC (countM s0.l.length s0).1 0 [] (countM s0.l.length s0).2 else none) = o := ⟨_, rfl⟩
  rw [ho]
  have hleft := fun (W : World) (hW : IsRd W p s0) => left_any W p _ hW
  have hsm := h.rd.small
  have hcnt := fun (W : World) (hW : IsRd W p s0) => count_any W p s0.l.length s0 hW (by omega)
  have hmm := @run_makeMap Try.prog
  obtain ⟨w1, hw1⟩ : ∃ w1, w1 = w.alloc (.map #[] 0) := ⟨_, rfl⟩
  have hb1 : blk w1 w.heap.size = some (.map #[] 0) := by rw [hw1]; exact blk_alloc_at _ _
  have hx1 : Ext (fun _ => False) w w1 := by rw [hw1]; exact (Ext.refl _ w).alloc _
  have hI1 : LdSt w w1 p ob X w.heap.size [] s0 ok := ⟨ext_any hx1 _, h.keep hx1, ⟨#[], 0, hb1, rfl, stamped_empty 0⟩, Nat.le_refl _, (hx1.blk (blk_lt hX) id).trans hX⟩
  generalize s0.l.length = ll at *
  obtain ⟨⟨N, s1⟩, hN⟩ : ∃ m, countM ll s0 = m := ⟨_, rfl⟩
  have hNb := countM_le (ll : Int) s0 (by omega)
  simp only [hN] at hcnt
  rw [hN] at ho hNb
  simp only at hNb
  simp only at ho
  have HI1 := Lib.hid hI1
  have Hleft := Lib.hid hleft
  have Hcnt := Lib.hid hcnt
  have Ho := Lib.hid ho
  clear hleft hcnt ho hI1 hb1 hx1 h hX hN
  go_enter Try.func34, Try.ntmps34
  go_upto_region 2 with fail
  rw [← hw1]
  clear hw1
  generalize w.heap.size = mb at *
  go_wp2_with fail
  refine (Hleft.out w1 HI1.out.rd.rd).mono ?_
  rintro r w' ⟨rfl, hw⟩; obtain rfl := hw.symm; clear hw
  go_wp2_with fail
  refine (Hcnt.out w1 HI1.out.rd.rd).mono ?_
  rintro r w2 ⟨rfl, hr2, hx2⟩
  have HI2 := Lib.hid (HI1.out.read (hx2.mono (fun b _ (e : b = p) => .inl e)) (HI1.out.rd.read hr2 hx2))
  clear hr2 hx2 HI1 Hcnt Hleft
  simp only at HI2 ⊢
  go_wp2_with fail
  go_loopg [8, 15] N (fun q v8 v15 wr => ∃ (j last : Nat) (s : RS), j ≤ N ∧ q = N - j ∧ last ≤ 4611686018427387904 ∧ v8 = .int .i64 last ∧ v15 = .int .i64 j ∧
    ((∃ acc : List (Int × Ans), LdSt w wr p ob X mb (imap Ans.v acc) s true ∧ UpI acc last ∧ o = rowsC (N - j) last acc s) ∨ (o = none ∧ ∃ l, LdSt w wr p ob X mb l s false)))
  case atStart =>
    refine ⟨0, 0, s1, Nat.zero_le _, rfl, by omega, rfl, rfl, ?_⟩
    cases ok with
    | true => exact .inl ⟨[], HI2.out, (fun _ h => (by cases h)), Ho.out.symm⟩
    | false => exact .inr ⟨Ho.out.symm, _, HI2.out⟩
  case round =>
    obtain ⟨j, last, s, hj, rfl, hlast, rfl, rfl, hcase⟩ := hrel
    clear HI2 Ho
    by_cases hjN : j < N
    · rcases hcase with ⟨acc, hI, hup, ho⟩ | ⟨ho, l, hI⟩
      · have hget := get_any wr p ob s true (last + 1) hI.rd (by omega)
        rw [show ((last + 1 : Nat) : Int) = (last : Int) + 1 by omega] at hget
        have hstep : N - j = (N - (j + 1)) + 1 := by omega
        rw [hstep] at ho
        have hyes := fun h => rowsC_yes (k := N - (j + 1)) (last := last) (acc := acc) (s := s) h
        have hno := fun h => rowsC_no (k := N - (j + 1)) (last := last) (acc := acc) (s := s) h
        have hlt := numberM_lt' s
        unfold GetPost at hget
        obtain ⟨⟨n, s1⟩, hm⟩ : ∃ m, numberM s = m := ⟨_, rfl⟩
        simp only [hm] at hget hyes hno hlt
        by_cases hgood : last < n ∧ n ≤ 4611686018427387904
        · have hg1 : goodN (last + 1) n = true := by simp [goodN]; omega
          have hg2 : getV (last + 1) n = n := by unfold getV; rw [hg1]; rfl
          rw [hg1, hg2] at hget
          have Hget := Lib.hid hget
          have Hyes := Lib.hid hyes
          have Hno := Lib.hid hno
          have HI := Lib.hid hI
          have Hup := Lib.hid hup
          have Ho := Lib.hid ho
          obtain ⟨hga, hgb⟩ := hgood
          clear hget hyes hno hI hup ho hstep hm hg1 hg2 hlt
          go_wp2_with fail
          refine Hget.out.mono ?_
          rintro r w3 ⟨rfl, hr3, hx3⟩
          have hI3 := HI.out.read hx3 hr3
          have c0 : w3.cell? ⟨ob, 0, none⟩ = some (.bool true) := by simpa using cell_of_cells hI3.rd.ok 0
          have hlo := blk_lt hI3.rd.ok
          have HI3 := Lib.hid hI3
          clear hr3 hx3 hI3 HI Hget
          go_wp2_with fail
          refine (load1_any w3 p ob X s1 true HI3.out.rd HI3.out.x).mono ?_
          rintro r w4 ⟨rfl, hr4, hx4⟩
          have hI4 := HI3.out.read hx4 hr4
          rw [Bool.true_and] at hI4
          clear hr4 hx4 HI3 c0 hlo
          obtain ⟨⟨m, s2⟩, hm2⟩ : ∃ m, numberM s1 = m := ⟨_, rfl⟩
          simp only [hm2] at hI4 Hyes Hno ⊢
          obtain ⟨⟨tl, s3⟩, hm3⟩ : ∃ m, textM s2 = m := ⟨_, rfl⟩
          simp only [hm3] at hI4 Hyes ⊢
          obtain ⟨es, clock, hmb, hl, hst⟩ := id hI4.map
          obtain ⟨O, hent, hsto⟩ := run_entry_new (P := Try.prog) (b := mb) Try.underlying57 Try.underlying3 zeroAns hl hst (n : Int) (imap_none Ans.v (Hup.out.none hga))
          obtain ⟨es', c', hst1, hst2, hst3⟩ := hsto (Ans.v ⟨getV 1 m, ofL tl⟩)
          rw [← imap_snoc] at hst2
          have hI7 := hI4.put (O := O) hst2 hst3
          have he1 := hent w4 hmb
          have he2 := hst1 (setBlock w4 mb O) (blk_setBlock_same hmb _)
          have Hrel : Hid (∀ wx, wx = setBlock (setBlock w4 mb O) mb (.map es' c') → ((∃ acc : List (Int × Ans), LdSt w wx p ob X mb (imap Ans.v acc) s3 true ∧ UpI acc n ∧ o = rowsC (N - (j + 1)) n acc s3) ∨ (o = none ∧ ∃ l, LdSt w wx p ob X mb l s3 false))) := Lib.hid (fun wx e => by
            subst e
            by_cases hgm : 1 ≤ m ∧ m ≤ 4611686018427387904
            · have g1 : goodN 1 m = true := by simp [goodN]; omega
              have g2 : getV 1 m = m := by unfold getV; rw [g1]; rfl
              rw [g1, g2] at hI7
              exact .inl ⟨_, hI7, Hup.out.snoc hga _, by rw [Ho.out]; exact Hyes.out ⟨⟨hga, hgb⟩, hgm⟩⟩
            · have g1 : goodN 1 m = false := by simp only [goodN, Bool.and_eq_false_iff, decide_eq_false_iff_not]; omega
              rw [g1] at hI7
              exact .inr ⟨by rw [Ho.out]; exact Hno.out (fun h => hgm h.2), _, hI7⟩)
          simp only [Ans.v] at he2 Hrel
          generalize getV 1 m = gv at *
          generalize ofL tl = t at *
          clear hI4 hl hst hent hsto hst1 hst2 hst3 hI7 Hyes Hno Ho Hup hm2 hm3 hmb
          go_wp2_with fail
          go_roundg (N - (j + 1))
          case measure => omega
          case rel => exact ⟨j + 1, n, s3, by omega, rfl, hgb, rfl, by go_num, Hrel.out _ rfl⟩
        · have hg1 : goodN (last + 1) n = false := by
            simp only [goodN, Bool.and_eq_false_iff, decide_eq_false_iff_not]; omega
          have hg2 : getV (last + 1) n = 0 := by unfold getV; rw [hg1]; rfl
          rw [hg1, hg2] at hget
          have ho2 : o = none := by rw [ho]; exact hno (fun h => hgood h.1)
          have Hget := Lib.hid hget
          have HI := Lib.hid hI
          have Ho := Lib.hid ho2
          clear hget hyes hno hI hup ho ho2 hstep hm hg1 hg2 hlt hgood
          go_wp2_with fail
          refine Hget.out.mono ?_
          rintro r w3 ⟨rfl, hr3, hx3⟩
          have hI3 := HI.out.read hx3 hr3
          have c0 : w3.cell? ⟨ob, 0, none⟩ = some (.bool false) := by simpa using cell_of_cells hI3.rd.ok 0
          have hlo := blk_lt hI3.rd.ok
          have HI3 := Lib.hid hI3
          clear hr3 hx3 hI3 HI Hget
          go_wp2
          go_ret
          exact Read1Post.bad HI3.out Ho.out none
      · have hget := get_any wr p ob s false (last + 1) hI.rd (by omega)
        rw [show ((last + 1 : Nat) : Int) = (last : Int) + 1 by omega] at hget
        unfold GetPost at hget
        rw [Bool.false_and] at hget
        have Hget := Lib.hid hget
        have HI := Lib.hid hI
        have Ho := Lib.hid ho
        generalize getV (last + 1) (numberM s).1 = gv at *
        clear hget hI ho
        go_wp2_with fail
        refine Hget.out.mono ?_
        rintro r w3 ⟨rfl, hr3, hx3⟩
        have hI3 := HI.out.read hx3 hr3
        have c0 : w3.cell? ⟨ob, 0, none⟩ = some (.bool false) := by simpa using cell_of_cells hI3.rd.ok 0
        have hlo := blk_lt hI3.rd.ok
        have HI3 := Lib.hid hI3
        clear hr3 hx3 hI3 HI Hget
        go_wp2
        go_ret
        exact Read1Post.bad HI3.out Ho.out none
    · have hj' : N - j = 0 := by omega
      rcases hcase with ⟨acc, hI, hup, ho⟩ | ⟨ho, l, hI⟩
      · rw [hj'] at ho
        have ho : o = some (acc, s) := ho
        have hfin : Read1Post w p ob o (.returned (.map (some mb))) wr := by
          rw [ho]; exact ⟨mb, rfl, hI.map, hI.nm, hI.rd, hI.ext⟩
        have Hfin := Lib.hid hfin
        clear hI hup ho hfin hj'
        go_wp2
        go_ret
        exact Hfin.out
      · have Hfin := Lib.hid (Read1Post.bad hI ho (some mb))
        clear hI ho hj'
        go_wp2
        go_ret
        exact Hfin.out
end Go.Proofs.Ythligdgkhmgagaa
