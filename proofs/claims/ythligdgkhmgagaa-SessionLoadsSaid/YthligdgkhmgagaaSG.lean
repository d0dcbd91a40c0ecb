/-
  The laws on package session: the example of the chapter; few. Conditions: none.
-/
import Derived.Test.YthligdgkhmgagaaSF
namespace Go.Proofs.Ythligdgkhmgagaa
open Go.RowKit Go.MapKept
open Go.ChangeMaps (setBlock)

theorem Ext.own {w0 w w' : World} {S : Nat → Prop} (h : Ext (fun _ => False) w0 w) (hx : Ext S w w') (hb : ∀ k, S k → w0.heap.size ≤ k) : Ext (fun _ => False) w0 w' :=
  h.trans' hx (fun k hk e => absurd hk (by have := hb k e; omega))
def bX : ByteArray := { data := #[120] }
def T0 : Tbl := ⟨[], 0, []⟩
def T1 : Tbl := ⟨[(7, ⟨3, bX⟩)], 0, []⟩
def T2 : Tbl := ⟨[(7, ⟨3, bX⟩)], 2, [(1, 0)]⟩
theorem t1 : answerM T0 7 3 bX = (T1, 0) := by rfl
theorem t2 : noteM T1 2 1 0 = (T2, 0) := by rfl
theorem t3 : clientM T2 7 3 = (bX, 0) := by rfl
theorem t4 : clientM T2 7 2 = (.empty, 9) := by rfl
theorem t5 : clientM T2 7 4 = (.empty, 6) := by rfl
theorem t6 : adminM T2 1 9 = (12, true) := by rfl
theorem t7 : adminM T2 2 1 = (0, true) := by rfl
theorem t8 : adminM T2 3 1 = (0, false) := by rfl
def AwakePost (w : World) (r : Ending) (w' : World) : Prop := r = .returned (.bool true) ∧ Ext (fun _ => False) w w'
set_option maxRecDepth 100000 in
set_option maxHeartbeats 2000000 in
theorem awake_any (w : World) : Calls Try.prog 8 #[] w (AwakePost w) := by
  go_enter Try.func8, Try.ntmps8
  go_wp2_with fail
  refine (new_any w).mono ?_
  rintro r w1 ⟨tb, cb, sb, rfl, hs, hx, h1, h2, h3⟩
  go_wp2_with fail
  have ha := answer_any w1 tb cb sb T0 hs 7 3 bX
  rw [t1] at ha
  refine ha.mono ?_
  rintro r w2 ⟨rfl, hs2, hx2⟩
  have hxa := hx.own hx2 (fun k e => by omega)
  clear hs hx hx2 ha
  go_wp2_with fail
  have ha := note_any w2 tb cb sb T1 hs2 2 1 0
  rw [t2] at ha
  refine ha.mono ?_
  rintro r w3 ⟨sb', rfl, hs3, hx3, hsb⟩
  have hxb := hxa.own hx3 (fun k e => by omega)
  clear hs2 hxa ha hx3 hsb h1 h2 h3
  go_wp2_with fail
  have ha := client_any w3 tb cb sb' T2 hs3 7 3
  rw [t3] at ha
  refine ha.mono ?_
  rintro r w4 ⟨rfl, hx4⟩
  have hs4 := hs3.keep hx4
  have hxc := hxb.trans hx4
  clear hs3 hxb ha hx4
  go_wp2_with fail
  have ha := client_any w4 tb cb sb' T2 hs4 7 2
  rw [t4] at ha
  refine ha.mono ?_
  rintro r w5 ⟨rfl, hx4⟩
  have hs5 := hs4.keep hx4
  have hxd := hxc.trans hx4
  clear hs4 hxc ha hx4
  go_wp2_with fail
  have ha := client_any w5 tb cb sb' T2 hs5 7 4
  rw [t5] at ha
  refine ha.mono ?_
  rintro r w6 ⟨rfl, hx4⟩
  have hs6 := hs5.keep hx4
  have hxe := hxd.trans hx4
  clear hs5 hxd ha hx4
  go_wp2_with fail
  have ha := admin_any w6 tb cb sb' T2 hs6 1 9
  rw [t6] at ha
  refine ha.mono ?_
  rintro r w7 ⟨rfl, hx4⟩
  have hs7 := hs6.keep hx4
  have hxf := hxe.trans hx4
  clear hs6 hxe ha hx4
  go_wp2_with fail
  have ha := admin_any w7 tb cb sb' T2 hs7 2 1
  rw [t7] at ha
  refine ha.mono ?_
  rintro r w8 ⟨rfl, hx4⟩
  have hs8 := hs7.keep hx4
  have hxg := hxf.trans hx4
  clear hs7 hxf ha hx4
  go_wp2_with fail
  have ha := admin_any w8 tb cb sb' T2 hs8 3 1
  rw [t8] at ha
  refine ha.mono ?_
  rintro r w9 ⟨rfl, hx4⟩
  have hxh := hxg.trans hx4
  clear hs8 hxg ha hx4
  have Hx := Lib.hid hxh
  clear hxh
  have hbx : bX = { data := #[120] } := rfl
  rw [hbx]
  clear hbx
  go_wp2
  go_ret
  exact ⟨rfl, Hx.out⟩
/-! ### few -/
structure SOp where
  k : Int
  a : Int
  b : Int
  s : ByteArray
  c : Int
def SOp.cs (x : SOp) : List Value := [.int .i64 x.k, .int .i64 x.a, .int .i64 x.b, .string x.s, .int .i64 x.c]
def SOp.v (x : SOp) : Value := .agg #[.int .i64 x.k, .int .i64 x.a, .int .i64 x.b, .string x.s, .int .i64 x.c]
/-- the operations' cells lie in block b from off on -/
def Ops (w : World) (b off : Nat) (l : List SOp) : Prop := ∀ i (h : i < l.length) j u, (l[i].cs)[j]? = some u → w.cell? ⟨b, off + (i * 5 + j), none⟩ = some u
theorem Ops.ext {S : Nat → Prop} {w w' : World} {b off : Nat} {l : List SOp} (h : Ops w b off l) (hx : Ext S w w') (hb : 0 < l.length → b < w.heap.size ∧ ¬ S b) : Ops w' b off l :=
  fun i hi j u hu => (hx.cell (p := ⟨b, off + (i * 5 + j), none⟩) (hb (by omega)).1 (hb (by omega)).2).trans (h i hi j u hu)
theorem Ops.at {w : World} {b off : Nat} {l : List SOp} (h : Ops w b off l) (i : Nat) (hi : i < l.length) :
    w.cell? ⟨b, off + i * 5, none⟩ = some (.int .i64 l[i].k) ∧ w.cell? ⟨b, off + i * 5 + 1, none⟩ = some (.int .i64 l[i].a) ∧ w.cell? ⟨b, off + i * 5 + 2, none⟩ = some (.int .i64 l[i].b) ∧ w.cell? ⟨b, off + i * 5 + 3, none⟩ = some (.string l[i].s) ∧ w.cell? ⟨b, off + i * 5 + 4, none⟩ = some (.int .i64 l[i].c) := by
  have a := h i hi 0 _ rfl
  have b' := h i hi 1 _ rfl
  have c := h i hi 2 _ rfl
  have d := h i hi 3 _ rfl
  have e := h i hi 4 _ rfl
  simp only [Nat.add_zero, ← Nat.add_assoc] at a b' c d e
  exact ⟨a, b', c, d, e⟩
def fewX (x : SOp) : Bool := decide (x.s.size ≤ 40) && decide (x.a ≤ 4611686018427387904) && decide (x.b ≤ 4611686018427387904)
def fewB (l : List SOp) (most : Nat) : Bool := l.all fewX && decide (l.length ≤ most)
theorem fewB_bad {l : List SOp} {most : Nat} {x : SOp} (hx : x ∈ l) (h : fewX x = false) : fewB l most = false := by
  unfold fewB
  have : l.all fewX = false := by rw [List.all_eq_false]; exact ⟨x, hx, by simp [h]⟩
  rw [this]; rfl
set_option maxRecDepth 100000 in
set_option maxHeartbeats 1000000 in
theorem few_any (w : World) (b off cap : Nat) (l : List SOp) (most : Nat) (hl : Ops w b off l) (hlen : l.length ≤ 9223372036854775807) (hsz : ∀ x ∈ l, x.s.size ≤ 9223372036854775807) (hm : most ≤ 1000) :
    Calls Try.prog 9 #[.slice (some ⟨b, off, none⟩) l.length cap, .int .i64 most] w fun r w' => r = .returned (.bool (fewB l most)) ∧ w' = w := by
  have Hl := Lib.hid hl
  have Hsz := Lib.hid hsz
  clear hl hsz
  go_enter Try.func9, Try.ntmps9
  go_wp2_with fail
  go_loopg [5] l.length (fun g v5 wr => wr = w ∧ ∃ j : Nat, j ≤ l.length ∧ g = l.length - j ∧ v5 = .int .i64 j ∧ (l.take j).all fewX = true)
  case atStart => exact ⟨rfl, 0, Nat.zero_le _, rfl, rfl, by simp⟩
  case round =>
    obtain ⟨rfl, j, hj, rfl, rfl, hall⟩ := hrel
    have Hall := Lib.hid hall
    clear hall
    by_cases hjl : j < l.length
    · obtain ⟨c0, c1, c2, c3, c4⟩ := Hl.out.at j hjl
      obtain ⟨x, hx⟩ : ∃ x, l[j] = x := ⟨_, rfl⟩
      have hxs := Hsz.out l[j] (List.getElem_mem hjl)
      have hmem := List.getElem_mem hjl
      rw [hx] at c0 c1 c2 c3 c4 hxs hmem
      have htk : (l.take (j + 1)).all fewX = fewX x := by
        rw [List.take_add_one, List.getElem?_eq_getElem hjl, hx, List.all_append, Hall.out]; simp
      have Htk := Lib.hid htk
      have Hfew : Hid (fewX x = false → fewB l most = false) := Lib.hid (fewB_bad hmem)
      clear hx htk hmem
      have hfx : fewX x = false ↔ (40 : Int) < x.s.size ∨ 4611686018427387904 < x.a ∨ 4611686018427387904 < x.b := by unfold fewX; simp; omega
      have Hfx := Lib.hid hfx
      clear hfx
      by_cases h1 : (40 : Int) < x.s.size
      · go_wp2
        go_ret
        exact ⟨by rw [Hfew.out (Hfx.out.2 (.inl h1))]; rfl, rfl⟩
      · by_cases h2 : 4611686018427387904 < x.a
        · go_wp2
          go_ret
          exact ⟨by rw [Hfew.out (Hfx.out.2 (.inr (.inl h2)))]; rfl, rfl⟩
        · by_cases h3 : 4611686018427387904 < x.b
          · go_wp2
            go_ret
            exact ⟨by rw [Hfew.out (Hfx.out.2 (.inr (.inr h3)))]; rfl, rfl⟩
          · have hgood : fewX x = true := by
              cases h : fewX x
              · rcases Hfx.out.1 h with h | h | h
                · exact absurd h h1
                · exact absurd h h2
                · exact absurd h h3
              · rfl
            have Hgood := Lib.hid hgood
            clear hgood
            go_wp2
            go_roundg (l.length - (j + 1))
            case measure => omega
            case rel => exact ⟨rfl, j + 1, by omega, rfl, by go_num, by rw [Htk.out]; exact Hgood.out⟩
    · have hje : l.take j = l := List.take_of_length_le (by omega)
      have hf : fewB l most = decide (l.length ≤ most) := by
        unfold fewB
        rw [← hje, Hall.out, hje]; simp
      have Hf := Lib.hid hf
      clear hje hf
      go_wp2
      go_ret
      exact ⟨by rw [Hf.out]; rfl, rfl⟩
end Go.Proofs.Ythligdgkhmgagaa
