/-
  The reference of package session: find, Last, Get. Conditions: none beyond IsRef.
-/
import Derived.Test.YthligdgkhmgagaaSK
namespace Go.Proofs.Ythligdgkhmgagaa
open Go.RowKit Go.MapKept
open Go.ChangeMaps (setBlock)

/-- the place of a client -/
def posC (T : Tbl) (c : Int) : Nat := (kpre leI (sC T) c).length
theorem posC_le (T : Tbl) (c : Int) : posC T c ≤ (sC T).length := kpre_le _ _
/-- what stands at the place -/
theorem posC_some {T : Tbl} (h : TGood T) {c : Int} {v : Ans} (hv : iget T.cl c = some v) : (sC T)[posC T c]? = some (c, v) := by
  rcases krest_eq linI (sC_lt h) c with ⟨h1, _⟩ | ⟨v', h1, h2, _⟩
  · rw [sC_get h, hv] at h1; cases h1
  · rw [sC_get h, hv] at h1; cases h1; exact h2
theorem posC_none {T : Tbl} (h : TGood T) {c : Int} (hv : iget T.cl c = none) : ∀ p, (sC T)[posC T c]? = some p → p.1 ≠ c := by
  rcases krest_eq linI (sC_lt h) c with ⟨h1, _, h3⟩ | ⟨v', h1, _⟩
  · exact h3
  · rw [sC_get h, hv] at h1; cases h1
theorem IsRef.atC {w : World} {T : Tbl} {g cap : Nat} (h : w.ownsRow 0 74 3 (.slice (some ⟨g, 0, none⟩) (sC T).length cap) (sC T).length ((sC T).flatMap cellsC)) {i : Nat} {p : Int × Ans} (hp : (sC T)[i]? = some p) :
    w.cell? ⟨g, i * 3, none⟩ = some (.int .i64 p.1) ∧ w.cell? ⟨g, i * 3 + 1, none⟩ = some (.int .i64 p.2.n) ∧ w.cell? ⟨g, i * 3 + 2, none⟩ = some (.string p.2.s) :=
  ⟨row_at cellsC_len h i hp 0 (by omega) rfl, row_at cellsC_len h i hp 1 (by omega) rfl, row_at cellsC_len h i hp 2 (by omega) rfl⟩
theorem row_form {w : World} {base : Nat} {e : TypeId} {size : Nat} {ao : Option Addr} {n cap : Nat} {xs : List Value} (h : w.ownsRow base e size (.slice ao n cap) n xs) (hn : 0 < n) : ∃ g, ao = some ⟨g, 0, none⟩ ∧ g < w.heap.size := by
  rcases h.2 with ⟨_, h⟩ | ⟨g, c, cur, h1, _, h3, _⟩
  · omega
  · cases h1; exact ⟨g, rfl, (Array.getElem?_eq_some_iff.1 h3).1⟩
set_option maxRecDepth 100000 in
set_option maxHeartbeats 2000000 in
theorem find_any (w : World) (v : Value) (T : Tbl) (hr : IsRef w v T) (hg : TGood T) (hl : T.cl.length ≤ 1000000) (c : Int) :
    Calls Try.prog 60 #[v, .int .i64 c] w (StayPost w (.tuple #[.int .i64 (posC T c), .bool (iget T.cl c).isSome])) := by
  obtain ⟨vc, vs, rfl, hc, hs⟩ := hr
  obtain ⟨ao, cap, rfl⟩ := ownsRow_shape hc
  have hSl : (sC T).length = T.cl.length := ksort_length _
  obtain ⟨S, hS⟩ : ∃ S, sC T = S := ⟨_, rfl⟩
  have hpos : ∀ j, (∀ i p, i < j → S[i]? = some p → leI c p.1 = false) → j ≤ S.length → (∀ p, S[j]? = some p → leI c p.1 = true) → posC T c = j := fun j h1 h2 h3 => by
    unfold posC; rw [hS]; exact kpre_step h1 h2 h3
  have hyes : ∀ v, iget T.cl c = some v → S[posC T c]? = some (c, v) := fun v hv => hS ▸ posC_some hg hv
  have hno : iget T.cl c = none → ∀ p, S[posC T c]? = some p → p.1 ≠ c := fun hv => hS ▸ posC_none hg hv
  rw [hSl, hS] at hc
  have hSl' : S.length = T.cl.length := by rw [← hS]; exact hSl
  have Hpos := Lib.hid hpos
  have Hyes := Lib.hid hyes
  have Hno := Lib.hid hno
  generalize hP : posC T c = P at *
  obtain ⟨N, hN⟩ : ∃ N, T.cl.length = N := ⟨_, rfl⟩
  rw [hSl, hN]
  rw [hN] at hc hl hSl'
  generalize hO : iget T.cl c = O at *
  have HSl := Lib.hid hSl'
  have Hc := Lib.hid hc
  have Hat : Hid (∀ g, ao = some ⟨g, 0, none⟩ → ∀ i p, S[i]? = some p → w.cell? ⟨g, i * 3, none⟩ = some (.int .i64 p.1)) := Lib.hid (fun g e i p hp => by subst e; exact row_at cellsC_len hc i hp 0 (by omega) rfl)
  clear hc hs hpos hyes hno hS hN hP hO hSl hSl' hg
  go_enter Try.func60, Try.ntmps60
  go_wp2_with fail
  obtain ⟨w1, hw1⟩ : ∃ w1, w1 = w.alloc (.cells #[.slice ao N cap, .int .i64 T.gen, vs] 39) := ⟨_, rfl⟩
  have hb1 : blk w1 w.heap.size = some (.cells #[.slice ao N cap, .int .i64 T.gen, vs] 39 (0, 0)) := by rw [hw1]; exact blk_alloc_at _ _
  have hx1 : Ext (fun _ => False) w w1 := by rw [hw1]; exact (Ext.refl _ w).alloc _
  rw [← hw1]
  have b0 : w1.cell? ⟨w.heap.size, 0, none⟩ = some (.slice ao N cap) := by simpa using cell_of_cells hb1 0
  have Hx1 := Lib.hid hx1
  clear hb1 hx1 hw1
  go_loopg [6] N (fun g v6 wr => wr = w1 ∧ ∃ j : Nat, j ≤ N ∧ g = N - j ∧ v6 = .int .i64 j ∧ ∀ i p, i < j → S[i]? = some p → leI c p.1 = false)
  case atStart => exact ⟨rfl, 0, Nat.zero_le _, rfl, rfl, fun i p h => by omega⟩
  case round =>
    obtain ⟨rfl, j, hj, rfl, rfl, hlow⟩ := hrel
    have Hlow := Lib.hid hlow
    clear hlow
    by_cases hjN : j < N
    · obtain ⟨g, rfl, hg2⟩ := row_form Hc.out (by omega)
      obtain ⟨p, hp⟩ : ∃ p, S[j]? = some p := ⟨_, List.getElem?_eq_getElem (by rw [HSl.out]; exact hjN)⟩
      have hcell := (Hx1.out.cell (p := ⟨g, j * 3, none⟩) hg2 id).trans (Hat.out g rfl j p hp)
      obtain ⟨k, a⟩ := p
      have Hp := Lib.hid hp
      simp only at hcell
      clear hp
      by_cases hk : k < c
      · go_wp2_with fail
        go_roundg (N - (j + 1))
        case measure => omega
        case rel =>
          refine ⟨rfl, j + 1, by omega, rfl, by go_num, fun i p hi hp => ?_⟩
          by_cases e : i = j
          · subst e; rw [Hp.out] at hp; cases hp; unfold leI; simp; omega
          · exact Hlow.out i p (by omega) hp
      · have hP : P = j := Hpos.out j Hlow.out (by rw [HSl.out]; exact hj) (fun p hp => by rw [Hp.out] at hp; cases hp; unfold leI; simp; omega)
        have hB : (k == c) = O.isSome := by
          cases hO : O with
          | some v =>
            have := Hyes.out v hO
            rw [hP, Hp.out] at this
            cases this; simp
          | none =>
            have := Hno.out hO (k, a) (by rw [hP]; exact Hp.out)
            simpa using this
        subst hP
        have HB := Lib.hid hB
        clear hB
        have j1 : decide ((P : Int) < (N : Int)) = true := by simp; omega
        go_wp2_with fail
        go_quiet (fail)
        go_wp2
        go_ret2
        refine ⟨?_, Hx1.out.drewN _⟩
        rw [← HB.out]
        rfl
    · have hP : P = j := Hpos.out j Hlow.out (by rw [HSl.out]; exact hj) (fun p hp => by have := (List.getElem?_eq_some_iff.1 hp).1; rw [HSl.out] at this; omega)
      have hO : O = none := by
        cases hO : O with
        | none => rfl
        | some v =>
          have := (List.getElem?_eq_some_iff.1 (Hyes.out v hO)).1
          rw [HSl.out, hP] at this; omega
      subst hP hO
      have j1 : decide ((P : Int) < (N : Int)) = false := by simp; omega
      go_wp2_with fail
      go_quiet (fail)
      go_wp2
      go_ret2
      exact ⟨rfl, Hx1.out.drewN _⟩

/-- a box of a table's value -/
theorem box_cells {w : World} {b : Nat} {v0 v1 v2 : Value} {t : TypeId} {f : Nat × Nat} (h : blk w b = some (.cells #[v0, v1, v2] t f)) : w.cell? ⟨b, 0, none⟩ = some v0 ∧ w.cell? ⟨b, 1, none⟩ = some v1 ∧ w.cell? ⟨b, 2, none⟩ = some v2 :=
  ⟨by simpa using cell_of_cells h 0, by simpa using cell_of_cells h 1, by simpa using cell_of_cells h 2⟩
/-- what stands at a client's place, in cells -/
theorem IsRef.found {w : World} {T : Tbl} {ao : Option Addr} {n cap : Nat} (hn : n = (sC T).length) (hc : w.ownsRow 0 74 3 (.slice ao n cap) n ((sC T).flatMap cellsC)) (hg : TGood T) {c : Int} {v : Ans} (hv : iget T.cl c = some v) :
    ∃ g, ao = some ⟨g, 0, none⟩ ∧ posC T c < n ∧ w.cell? ⟨g, posC T c * 3, none⟩ = some (.int .i64 c) ∧ w.cell? ⟨g, posC T c * 3 + 1, none⟩ = some (.int .i64 v.n) ∧ w.cell? ⟨g, posC T c * 3 + 2, none⟩ = some (.string v.s) := by
  subst hn
  have hp := posC_some hg hv
  have hlt := (List.getElem?_eq_some_iff.1 hp).1
  obtain ⟨g, rfl, _⟩ := row_form hc (by omega)
  obtain ⟨a, b, d⟩ := IsRef.atC hc hp
  exact ⟨g, rfl, hlt, a, b, d⟩
set_option maxRecDepth 100000 in
set_option maxHeartbeats 2000000 in
theorem rlast_any (w : World) (v : Value) (T : Tbl) (hr : IsRef w v T) (hg : TGood T) (hl : T.cl.length ≤ 1000000) (c : Int) :
    Calls Try.prog 61 #[v, .int .i64 c] w (StayPost w (.int .i64 (lastM T c))) := by
  have hr0 := hr
  have hfind := fun (W : World) (hx : Ext (fun _ => False) w W) => find_any W v T (hr.keep hx) hg hl c
  obtain ⟨vc, vs, rfl, hc, hs⟩ := hr
  obtain ⟨ao, cap, rfl⟩ := ownsRow_shape hc
  have hSl : (sC T).length = T.cl.length := ksort_length _
  obtain ⟨N, hN⟩ : ∃ N, (sC T).length = N := ⟨_, rfl⟩
  rw [hN] at hfind ⊢
  rw [hN] at hc hSl
  have hNl : N ≤ 1000000 := by omega
  have Hfind := Lib.hid hfind
  cases hO : iget T.cl c with
  | none =>
    rw [hO] at Hfind
    have hm : lastM T c = 0 := by unfold lastM; rw [hO]; rfl
    rw [hm]
    clear hr0 hfind hc hs hSl hN hO hm
    go_enter Try.func61, Try.ntmps61
    go_wp2_with fail
    refine (Hfind.out _ ((Ext.refl _ w).alloc _)).mono ?_
    rintro r w2 ⟨rfl, hx2⟩
    have Hx2 := Lib.hid (((Ext.refl (fun _ => False) w).alloc (.cells #[.slice ao N cap, .int .i64 T.gen, vs] 39)).trans hx2)
    clear hx2
    go_wp2
    go_ret
    exact ⟨rfl, Hx2.out⟩
  | some x =>
    rw [hO] at Hfind
    have hm : lastM T c = x.n := by unfold lastM; rw [hO]; rfl
    rw [hm]
    obtain ⟨g, rfl, hlt, _, hat, _⟩ := IsRef.found hN.symm hc hg hO
    have hgl : g < w.heap.size := (World.ownsRow.lt hc g rfl).2
    generalize posC T c = P at *
    have Hat := Lib.hid hat
    clear hr0 hfind hc hs hSl hN hO hm hat
    go_enter Try.func61, Try.ntmps61
    go_wp2_with fail
    refine (Hfind.out _ ((Ext.refl _ w).alloc _)).mono ?_
    rintro r w2 ⟨rfl, hx2⟩
    have hxw := ((Ext.refl (fun _ => False) w).alloc (.cells #[.slice (some ⟨g, 0, none⟩) N cap, .int .i64 T.gen, vs] 39)).trans hx2
    have hbx := (hx2.blk (by simp) id).trans (blk_alloc_at w (.cells #[.slice (some ⟨g, 0, none⟩) N cap, .int .i64 T.gen, vs] 39))
    obtain ⟨b0, _⟩ := box_cells hbx
    have hcell := (hxw.cell (p := ⟨g, P * 3 + 1, none⟩) hgl id).trans Hat.out
    have p1 : (P : Int) < (N : Int) := by omega
    have Hxw := Lib.hid hxw
    clear hx2 hxw hbx Hat
    go_wp2
    go_ret
    exact ⟨rfl, Hxw.out⟩
end Go.Proofs.Ythligdgkhmgagaa
