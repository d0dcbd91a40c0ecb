/-
  The reference of package store: Load. Conditions: the text is small.
-/
import Derived.Test.YthipbmppmgkklaaL2
import Derived.Test.YthipbmppmgkklaaB1
namespace Go.Proofs.Ythipbmppmgkklaa
open Go.RowKit Go.MapKept
open Go.ChangeMaps (setBlock)

theorem row_not {w : World} {base : Nat} {e : TypeId} {size : Nat} {v : Value} {n : Nat} {xs : List Value} (h : w.ownsRow base e size v n xs) {b : Nat} {cs : Array Value} {t : TypeId} {f : Nat × Nat} (hb : blk w b = some (.cells cs t f)) (hne : t ≠ e) : ∀ g, v.ownBlock = some g → ¬ g = b := fun g hg e => by
  subst e
  obtain ⟨cur, hc⟩ := row_type h hg
  rw [hb] at hc
  cases hc
  exact hne rfl
structure RlSt (w wi : World) (B : Nat) (u : Value) (s : RS) (vo : Value) (R : KM) : Prop where
  ext : Ext (fun _ => False) w wi
  r : blk wi B = some (.cells #[u, .int .i64 s.c] 97 (0, 0))
  at' : BytesAt wi u s.l
  nb : w.heap.size ≤ B
  out : IsRows wi vo R
  no : ∀ g, vo.ownBlock = some g → w.heap.size ≤ g
theorem RlSt.value {w wi : World} {B : Nat} {u : Value} {s : RS} {vo : Value} {R : KM} (h : RlSt w wi B u s vo R) : IsRs wi (.agg #[u, .int .i64 s.c]) s := ⟨u, rfl, h.at'⟩
theorem RlSt.keep {w wi w' : World} {B : Nat} {u : Value} {s : RS} {vo : Value} {R : KM} (h : RlSt w wi B u s vo R) (hx : Ext (fun _ => False) wi w') : RlSt w w' B u s vo R :=
  ⟨h.ext.trans hx, (hx.blk (blk_lt h.r) id).trans h.r, h.at'.keep hx, h.nb, h.out.keep hx, h.no⟩
theorem RlSt.put {w wi w' : World} {B : Nat} {u u' : Value} {s s' : RS} {vo : Value} {R : KM} (h : RlSt w wi B u s vo R) (hx : Ext (fun _ => False) wi w') (hb : BytesAt w' u' s'.l) : RlSt w (set2 w' B u' (.int .i64 s'.c)) B u' s' vo R := by
  have hr := (hx.blk (blk_lt h.r) id).trans h.r
  have ho := h.out.keep hx
  have hq := set2_done hr u' (.int .i64 s'.c)
  exact ⟨(h.ext.trans hx).trans' hq.2 (fun k hk (e : k = B) => absurd h.nb (by omega)), hq.1, hb.ext hq.2 (fun g cur hc e => by subst e; exact hc.ne hr (by decide)), h.nb, ownsRow_ext ho hq.2 (row_not ho hr (by decide)), h.no⟩
theorem RlSt.app {w wi w1 : World} {B : Nat} {u : Value} {s : RS} {vo v' : Value} {R : KM} (h : RlSt w wi B u s vo R) (hx : Ext (fun k => vo.ownBlock = some k) wi w1) (p : ByteArray × Int)
    (hown : w1.ownsRow 0 89 2 v' (R.length + 1) (R.flatMap cellsP ++ cellsP p)) (hloc : v'.ownBlock = vo.ownBlock ∨ ∀ g, v'.ownBlock = some g → wi.heap.size ≤ g) : RlSt w w1 B u s v' (R ++ [p]) := by
  have hB : ¬ vo.ownBlock = some B := fun e => row_not h.out h.r (by decide) B e rfl
  refine ⟨h.ext.trans' hx (fun k hk e => absurd (h.no k e) (by omega)), (hx.blk (blk_lt h.r) hB).trans h.r, h.at'.ext hx (fun g cur hc e => ?_), h.nb, by unfold IsRows; simpa using hown, fun g hg => ?_⟩
  · obtain ⟨c, h2⟩ := row_type h.out e
    exact hc.ne h2 (by decide)
  · rcases hloc with e | e
    · exact h.no g (e.symm.trans hg)
    · exact Nat.le_trans h.ext.size (e g hg)
def RLoadPost (w : World) (l : List UInt8) (r : Ending) (w' : World) : Prop := ∃ v, r = .returned (.tuple #[v, .bool (refLoad l)]) ∧ Ext (fun _ => False) w w'
theorem rload_no {w w' : World} {l : List UInt8} (h : refLoad l = false) (hx : Ext (fun _ => False) w w') : RLoadPost w l (.returned (.tuple #[.slice none 0 0, .bool false])) w' := ⟨_, by rw [h], hx⟩
theorem refL_succ (k : Nat) (last : ByteArray) (s : RS) : refL (k + 1) last s = if (intM (textM s).2).2.c = 0 ∧ 1 ≤ (ofL (textM s).1).size ∧ (ofL (textM s).1).size ≤ 31 ∧ leS (ofL (textM s).1) last = false then refL k (ofL (textM s).1) (intM (textM s).2).2 else false := rfl
/-- the last key so far -/
def LastIs (R : KM) (last : ByteArray) : Prop := (R = [] → last = { data := #[] }) ∧ ∀ p, R.getLast? = some p → p.1 = last
set_option maxRecDepth 100000 in
set_option maxHeartbeats 4000000 in
theorem rload_any (w : World) (b : ByteArray) (hs : b.size ≤ 1000000) : Calls Try.prog 26 #[.string b] w (RLoadPost w b.data.toList) := by
  obtain ⟨cap, w2, hcv, hb2, hx2⟩ := run_string_bytesAt w b hs
  have hlp : refLoad b.data.toList = refL (countM 1024 ⟨b.data.toList, 0⟩).1 { data := #[] } (countM 1024 ⟨b.data.toList, 0⟩).2 := rfl
  have hle := countM_most 1024 ⟨b.data.toList, 0⟩
  have hcnt : Calls Try.prog 54 #[.agg #[.slice (some ⟨w.heap.size, 0, none⟩) b.size cap, .int .i64 0], .int .i64 1024] w2 (CtPost w2 (countM 1024 ⟨b.data.toList, 0⟩)) := rcount_any w2 _ ⟨b.data.toList, 0⟩ 1024 ⟨_, rfl, hb2⟩ (by omega)
  obtain ⟨⟨N, s0⟩, hN⟩ : ∃ m, countM 1024 ⟨b.data.toList, 0⟩ = m := ⟨_, rfl⟩
  rw [hN] at hlp hcnt
  have hN' : countM ((1024 : Nat) : Int) ⟨b.data.toList, 0⟩ = (N, s0) := hN
  rw [hN'] at hle
  simp only at hlp hle
  have Hcnt := Lib.hid hcnt
  have Hlp := Lib.hid hlp
  have Hx2 := Lib.hid hx2
  clear hcnt hlp hx2 hN hN' hb2
  go_enter Try.func26, Try.ntmps26
  go_wp2_with fail
  refine Hcnt.out.mono ?_
  rintro r w3 ⟨v3, rfl, hr3, hx3⟩
  obtain ⟨a3, c3, rfl, hb3⟩ := hr3.shape
  have Hx3 := Lib.hid (Hx2.out.trans hx3)
  have Hb3 := Lib.hid hb3
  obtain ⟨l0, e0⟩ := s0
  simp only at Hb3 ⊢
  clear hr3 hx3 hb3 hcv Hx2 Hcnt
  go_upto_region 3 with fail
  obtain ⟨w4, hw4⟩ : ∃ w4, w4 = (w3.alloc (.cells #[.slice a3 l0.length c3, .int .i64 e0] 97)).alloc (.cells #[] 89) := ⟨_, rfl⟩
  have hx4 : Ext (fun _ => False) w3 w4 := by rw [hw4]; exact ((Ext.refl _ w3).alloc _).alloc _
  have hb4 : blk w4 w3.heap.size = some (.cells #[.slice a3 l0.length c3, .int .i64 e0] 97 (0, 0)) := by rw [hw4]; exact (blk_alloc_past _ _ _ (by simp)).trans (blk_alloc_at _ _)
  have ho4 : blk w4 (w3.heap.size + 1) = some (.cells #[] 89 (0, 0)) := by rw [hw4]; simpa using blk_alloc_at (w3.alloc (.cells #[.slice a3 l0.length c3, .int .i64 e0] 97)) (.cells #[] 89)
  have hI4 : RlSt w w4 w3.heap.size (.slice a3 l0.length c3) ⟨l0, e0⟩ (.slice (some ⟨w3.heap.size + 1, 0, none⟩) 0 0) [] := ⟨Hx3.out.trans hx4, hb4, Hb3.out.keep hx4, Hx3.out.size, ownsRow_empty 2 ho4, fun g e => by have := Hx3.out.size; have e' : w3.heap.size + 1 = g := Option.some.inj e; omega⟩
  rw [← hw4]
  generalize w3.heap.size = B at *
  have HI4 := Lib.hid hI4
  obtain ⟨i0, hi0, hz0, hz1, hz2⟩ := info_parts Try.infoPair
  clear hw4 hx4 hb4 ho4 hI4 Hx3 Hb3
  go_wp2_with fail
  go_loopg [6, 7] N (fun q v6 v7 wr => ∃ (i : Nat) (last : ByteArray) (u : Value) (s : RS) (R : KM), i ≤ N ∧ q = N - i ∧ v7 = .int .i64 i ∧ RlSt w wr B u s v6 R ∧ R.length = i ∧ LastIs R last ∧ refLoad b.data.toList = refL (N - i) last s)
  case atStart => exact ⟨0, { data := #[] }, _, _, [], Nat.zero_le _, rfl, rfl, HI4.out, rfl, ⟨fun _ => rfl, fun p h => by cases h⟩, Hlp.out⟩
  case round =>
    obtain ⟨i, last, u, s, R, hi, rfl, rfl, hI, hRl, hlast, hlp⟩ := hrel
    clear HI4 Hlp
    have hv := hI.value
    obtain ⟨y0, y1⟩ := box2 hI.r
    have hltB := blk_lt hI.r
    by_cases hiN : i < N
    · have hstep : N - i = (N - (i + 1)) + 1 := by omega
      rw [hstep, refL_succ] at hlp
      have htx := rtxt_any wr _ s hv
      have hlt := textM_le s
      obtain ⟨ub, cb, hub, hle2, hmx, _⟩ := hI.at'
      have hin := fun (W : World) (v : Value) (h : IsRs W v (textM s).2) => rgetint_any W v _ h
      obtain ⟨⟨tl, s1⟩, ht⟩ : ∃ m, textM s = m := ⟨_, rfl⟩
      rw [ht] at htx hlt hlp
      simp only [ht] at hin
      simp only at hlt hlp
      obtain ⟨⟨x, s2⟩, him⟩ : ∃ m, intM s1 = m := ⟨_, rfl⟩
      rw [him] at hlp
      simp only [him] at hin
      simp only at hlp
      have htz : (ofL tl).size ≤ 9223372036854775807 := by
        rw [ofL_size]; unfold maxLen at hmx; omega
      have htx' : Calls Try.prog 55 #[.agg #[u, .int .i64 s.c]] wr fun r w' => ∃ v', r = .returned (.tuple #[v', .string (ofL tl)]) ∧ IsRs w' v' s1 ∧ Ext (fun _ => False) wr w' := htx
      subst hub
      generalize ofL tl = t at *
      obtain ⟨l1, e1⟩ := s1
      obtain ⟨l2, e2⟩ := s2
      have Htx := Lib.hid htx'
      have Hin := Lib.hid hin
      have HI := Lib.hid hI
      have Hlp := Lib.hid hlp
      have HRl := Lib.hid hRl
      have Hlast := Lib.hid hlast
      obtain ⟨sl, sc⟩ := s
      simp only at y1 Htx HI ⊢
      clear htx htx' hin hI hlp hstep hlt ht him hv hRl hlast hle2 hmx
      generalize sl.length = m at *
      go_wp2_with fail
      refine Htx.out.mono ?_
      rintro r w5 ⟨v5, rfl, hr5, hx5⟩
      obtain ⟨a5, c5, rfl, hb5⟩ := hr5.shape
      have HI5 := Lib.hid (HI.out.keep hx5)
      have Hb5 := Lib.hid hb5
      simp only at Hb5 ⊢
      clear hr5 hx5 hb5 HI Htx y0 y1 hltB
      generalize l1.length = m1 at *
      go_upto_region 7 with fail
      obtain ⟨w6, hw6⟩ : ∃ w6, w6 = w5.alloc (.cells #[.slice a5 m1 c5, .int .i64 e1] 97) := ⟨_, rfl⟩
      have hx6 : Ext (fun _ => False) w5 w6 := by rw [hw6]; exact (Ext.refl _ w5).alloc _
      have hb6 : blk w6 w5.heap.size = some (.cells #[.slice a5 m1 c5, .int .i64 e1] 97 (0, 0)) := by rw [hw6]; exact blk_alloc_at _ _
      rw [← hw6]
      have HI6 := Lib.hid (HI5.out.keep hx6)
      have hin6 := Hin.out w6 (.agg #[.slice a5 m1 c5, .int .i64 e1]) ⟨_, rfl, Hb5.out.keep hx6⟩
      have Hin6 := Lib.hid hin6
      obtain ⟨y0, y1⟩ := box2 hb6
      have hlt6 := blk_lt hb6
      generalize w5.heap.size = X5 at *
      clear hw6 hx6 hb6 hin6 Hin HI5 Hb5
      go_wp2_with fail
      refine Hin6.out.mono ?_
      rintro r w7 ⟨v7, rfl, hr7, hx7⟩
      obtain ⟨a7, c7, rfl, hb7⟩ := hr7.shape
      have HI7 := Lib.hid (HI6.out.keep hx7)
      have Hb7 := Lib.hid hb7
      simp only at Hb7 ⊢
      clear hr7 hx7 hb7 HI6 Hin6 y0 y1 hlt6
      obtain ⟨m2, hm2⟩ : ∃ m2, l2.length = m2 := ⟨_, rfl⟩
      rw [hm2] at Hb7 ⊢
      clear hm2
      go_upto_region 8 with fail
      obtain ⟨w8, hw8⟩ : ∃ w8, w8 = w7.alloc (.cells #[.slice a7 m2 c7, .int .i64 e2] 97) := ⟨_, rfl⟩
      have hx8 : Ext (fun _ => False) w7 w8 := by rw [hw8]; exact (Ext.refl _ w7).alloc _
      have hb8 : blk w8 w7.heap.size = some (.cells #[.slice a7 m2 c7, .int .i64 e2] 97 (0, 0)) := by rw [hw8]; exact blk_alloc_at _ _
      rw [← hw8]
      have hI8 := HI7.out.keep hx8
      have hI9 := HI7.out.put (s' := ⟨l2, e2⟩) hx8 (Hb7.out.keep hx8)
      unfold set2 at hI9
      simp only at hI9
      obtain ⟨y0, y1⟩ := box2 hb8
      have hlt8 := blk_lt hb8
      have g0 := free_of_cells hI8.r 0
      have g1 := free_of_cells hI8.r 1
      obtain ⟨z0, z1⟩ := box2 hI8.r
      simp only at z1
      have hltB := blk_lt hI8.r
      have hne1 : ¬ w7.heap.size = B := fun e => by have := blk_lt HI7.out.r; omega
      have hne2 : ¬ B = w7.heap.size := fun e => hne1 e.symm
      generalize w7.heap.size = X7 at *
      have HI9 := Lib.hid hI9
      clear hw8 hx8 hb8 hI8 hI9 HI7 Hb7
      go_upto_region 9 with fail
      clear y0 y1 hlt8 g0 g1 z0 z1 hltB hne1 hne2
      generalize (w8.setCell ⟨B, 0, none⟩ (.slice a7 m2 c7)).setCell ⟨B, 1, none⟩ (.int .i64 e2) = w9 at *
      obtain ⟨y0, y1⟩ := box2 HI9.out.r
      simp only at y1
      have hltB := blk_lt HI9.out.r
      have hlenA : RlSt w w9 B (.slice a7 m2 c7) ⟨l2, e2⟩ u6 R := HI9.out
      obtain ⟨ao, co, hu6⟩ := ownsRow_shape hlenA.out
      rw [HRl.out] at hu6
      subst hu6
      clear hlenA
      by_cases hc0 : e2 = 0
      · subst hc0
        by_cases hz1' : (t.size : Int) < 1
        · have Hno : Hid (refLoad b.data.toList = false) := Lib.hid (by rw [Hlp.out, if_neg (fun h => by have h2 := h.2.1; omega)])
          have Hx := Lib.hid HI9.out.ext
          clear HI9 Hlp Hlast HRl
          go_wp2
          go_ret2
          exact rload_no Hno.out Hx.out
        · by_cases hz2' : (31 : Int) < t.size
          · have Hno : Hid (refLoad b.data.toList = false) := Lib.hid (by rw [Hlp.out, if_neg (fun h => by have h2 := h.2.2.1; omega)])
            have Hx := Lib.hid HI9.out.ext
            clear HI9 Hlp Hlast HRl
            go_wp2
            go_ret2
            exact rload_no Hno.out Hx.out
          · by_cases hi0' : i = 0
            · subst hi0'
              have hcmp : leS t last = false := by
                have hR0 : R = [] := List.eq_nil_of_length_eq_zero HRl.out
                rw [Hlast.out.1 hR0]; exact leS_empty (by omega)
              have hlp := Hlp.out
              rw [if_pos ⟨rfl, by omega, by omega, hcmp⟩] at hlp
              have Hlp2 := Lib.hid hlp
              clear hlp Hlp hcmp
              go_upto_region 11 with fail
              have hout := HI9.out.out
              unfold IsRows at hout
              rw [HRl.out] at hout
              have Hout := Lib.hid hout
              clear hout
              go_wp2_with (first
                | (at_builtin; refine wpList_append_any rfl (.tmp 63) (.tmp 67) 47 rfl 0 89 i0 _ 2 24 Try.underlying47 hi0 hz0 hz1 hz2 rfl (by decide) _ _ _ rfl (Hout.out.alloc _) _ 1 1 (fun e => (by cases e)) (cellsP (t, x)) rfl rfl (.inr ⟨_, rfl, cells_new (cellsP (t, x)) _ rfl⟩) (by simp [cellsP, Value.oneCell']) (by simp only [maxLen]; omega) (by omega) (Nat.zero_le _) ?_; intro vn wn hown hgrow hat; obtain ⟨an, cn, rfl⟩ := ownsRow_shape hown; have Hown := Lib.hid hown; have Hgrow := Lib.hid hgrow; have Hat := Lib.hid hat; clear hown hgrow hat))
              have hxn : Ext (fun k' => (Value.slice ao (0) co).ownBlock = some k') w9 wn := ((Ext.refl (fun k' => (Value.slice ao (0) co).ownBlock = some k') w9).alloc _).grown Hgrow.out (fun r hr _ => hr)
              have hR2 := HI9.out.app hxn (t, x) (by rw [HRl.out]; exact Hown.out) (by
                rcases Hat.out with h | h
                · exact .inl h
                · refine .inr (fun g' hg' => ?_)
                  have h1 : g' = (w9.alloc (.cells (cellsP (t, x)).toArray 89)).heap.size := Option.some.inj (hg'.symm.trans h)
                  have h2 : (w9.alloc (.cells (cellsP (t, x)).toArray 89)).heap.size = w9.heap.size + 1 := by simp
                  omega)
              have HR2 := Lib.hid hR2
              clear hxn hR2 Hown Hgrow Hat HI9 Hout y0 y1 hltB
              go_roundg (N - (0 + 1))
              case measure => omega
              case rel => exact ⟨0 + 1, t, _, _, _, by omega, rfl, by go_num, HR2.out, by simp [HRl.out], ⟨fun h => absurd h (by simp), fun p hp => by simp at hp; subst hp; rfl⟩, Hlp2.out⟩
            · obtain ⟨k, rfl⟩ : ∃ k, i = k + 1 := ⟨i - 1, by omega⟩
              obtain ⟨p, hp⟩ : ∃ p, R[k]? = some p := ⟨_, List.getElem?_eq_getElem (by rw [HRl.out]; omega)⟩
              have hpl : p.1 = last := Hlast.out.2 p (by rw [List.getLast?_eq_getElem?, HRl.out]; exact hp)
              have hout := HI9.out.out
              unfold IsRows at hout
              rw [HRl.out] at hout
              obtain ⟨g, rfl, hglt⟩ := row_form hout (by omega)
              have c0 := row_at (f := cellsP) cellsP_len hout k hp 0 (by omega) rfl
              simp only [Nat.add_zero] at c0
              rw [hpl] at c0
              have d3 : (0 : Int) < (k : Int) + 1 := by omega
              have j0 : (0 : Int) ≤ (k : Int) + 1 - 1 := by omega
              have j1 : (k : Int) + 1 - 1 < (k : Int) + 1 := by omega
              have j2 : ((k : Int) + 1 - 1).toNat = k := by omega
              have j3 : (k : Int) + 1 - 1 = k := by omega
              have w1' : IntKind.i64.wrap ((k : Int) + 1 - 1) = k := by rw [j3]; exact IntWalk.i64_in _ (by omega)
              have l1' := less_leS t last
              have l2' := less_leS last t
              clear hout hp hpl hi0'
              cases hcmp : leS t last with
              | true =>
                have Hno : Hid (refLoad b.data.toList = false) := Lib.hid (by rw [Hlp.out, if_neg (fun h => by have := h.2.2.2; rw [hcmp] at this; cases this)])
                have Hx := Lib.hid HI9.out.ext
                clear HI9 Hlp Hlast HRl
                by_cases heq : t = last
                · subst heq
                  rw [hcmp] at l1'
                  clear l2' hcmp
                  go_wp2
                  go_ret2
                  exact rload_no Hno.out Hx.out
                · have h2 : leS last t = false := by
                    cases h : leS last t with
                    | false => rfl
                    | true => exact absurd (linS.anti _ _ hcmp h) heq
                  have l3 := bytes_ne heq
                  have l4 := bytes_ne (fun e => heq e.symm)
                  rw [h2] at l1'
                  rw [hcmp] at l2'
                  clear h2 heq hcmp
                  go_wp2
                  go_ret2
                  exact rload_no Hno.out Hx.out
              | false =>
                have h2 : leS last t = true := by
                  have := linS.total t last
                  rw [hcmp] at this; simpa using this
                have heq : ¬ t = last := fun e => by subst e; rw [hcmp] at h2; cases h2
                have l3 := bytes_ne heq
                have l4 := bytes_ne (fun e => heq e.symm)
                rw [h2] at l1'
                rw [hcmp] at l2'
                clear h2 heq
                have hlp := Hlp.out
                rw [if_pos ⟨rfl, by omega, by omega, hcmp⟩] at hlp
                have Hlp2 := Lib.hid hlp
                clear hlp Hlp hcmp
                go_upto_region 11 with fail
                have hout := HI9.out.out
                unfold IsRows at hout
                rw [HRl.out] at hout
                have Hout := Lib.hid hout
                clear hout
                go_wp2_with (first
                  | (at_builtin; refine wpList_append_any rfl (.tmp 63) (.tmp 67) 47 rfl 0 89 i0 _ 2 24 Try.underlying47 hi0 hz0 hz1 hz2 rfl (by decide) _ _ _ rfl (Hout.out.alloc _) _ 1 1 (fun e => (by cases e)) (cellsP (t, x)) rfl rfl (.inr ⟨_, rfl, cells_new (cellsP (t, x)) _ rfl⟩) (by simp [cellsP, Value.oneCell']) (by simp only [maxLen]; omega) (by omega) (Nat.zero_le _) ?_; intro vn wn hown hgrow hat; obtain ⟨an, cn, rfl⟩ := ownsRow_shape hown; have Hown := Lib.hid hown; have Hgrow := Lib.hid hgrow; have Hat := Lib.hid hat; clear hown hgrow hat))
                have hxn : Ext (fun k' => (Value.slice (some ⟨g, 0, none⟩) (k + 1) co).ownBlock = some k') w9 wn := ((Ext.refl (fun k' => (Value.slice (some ⟨g, 0, none⟩) (k + 1) co).ownBlock = some k') w9).alloc _).grown Hgrow.out (fun r hr _ => hr)
                have hR2 := HI9.out.app hxn (t, x) (by rw [HRl.out]; exact Hown.out) (by
                  rcases Hat.out with h | h
                  · exact .inl h
                  · refine .inr (fun g' hg' => ?_)
                    have h1 : g' = (w9.alloc (.cells (cellsP (t, x)).toArray 89)).heap.size := Option.some.inj (hg'.symm.trans h)
                    have h2 : (w9.alloc (.cells (cellsP (t, x)).toArray 89)).heap.size = w9.heap.size + 1 := by simp
                    omega)
                have HR2 := Lib.hid hR2
                clear hxn hR2 Hown Hgrow Hat HI9 Hout y0 y1 hltB
                go_roundg (N - (k + 1 + 1))
                case measure => omega
                case rel => exact ⟨k + 1 + 1, t, _, _, _, by omega, rfl, by go_num, HR2.out, by simp [HRl.out], ⟨fun h => absurd h (by simp), fun p hp => by simp at hp; subst hp; rfl⟩, Hlp2.out⟩
      · have hc1 : (e2 == 0) = false := by simpa using hc0
        have Hno : Hid (refLoad b.data.toList = false) := Lib.hid (by rw [Hlp.out, if_neg (fun h => hc0 h.1)])
        have Hx := Lib.hid HI9.out.ext
        have hc2 : (e2 != 0) = true := by simpa using hc0
        have hc3 : decide (e2 = 0) = false := by simpa using hc0
        clear HI9 Hlp
        go_wp2
        go_ret2
        exact rload_no Hno.out Hx.out
    · have hj' : N - i = 0 := by omega
      rw [hj'] at hlp
      have hlp : refLoad b.data.toList = decide (endM s = 0) := hlp
      have Hend := Lib.hid (rend_any wr _ s hv)
      have Hlp := Lib.hid hlp
      have Hx := Lib.hid hI.ext
      clear hI hv hlp hj' hlast hRl
      generalize endM s = en at *
      generalize s.c = scc at *
      go_wp2_with fail
      refine Hend.out.mono ?_
      rintro r w9 ⟨rfl, hx9⟩
      have Hx9 := Lib.hid (Hx.out.trans hx9)
      clear hx9
      go_wp2
      go_ret2
      exact ⟨_, by rw [Hlp.out]; first | rfl | simp, Hx9.out⟩
end Go.Proofs.Ythipbmppmgkklaa
