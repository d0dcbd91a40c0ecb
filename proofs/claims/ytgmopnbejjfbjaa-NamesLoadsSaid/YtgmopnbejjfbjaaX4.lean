/-
  The reference's Keep returns what keepR says. Conditions: the slice is one that the program made, of at most 1000 entries.
-/
import Derived.Test.YtgmopnbejjfbjaaX2
namespace Go.Proofs.Ytgmopnbejjfbjaa
open Go.RowKit Go.MapKept
open Go.ChangeMaps (setBlock)

def KV.cs (y : KV) : List Value := [.string y.x.n, .int .i64 y.x.e, .int .i64 y.x.a, .int .i64 y.x.t, .int .i64 y.k]
def rows (l : List KV) : List Value := l.flatMap KV.cs
theorem rows_length (l : List KV) : (rows l).length = l.length * 5 := by
  induction l with
  | nil => rfl
  | cons y r ih => simp only [rows, List.flatMap_cons, List.length_append] at *; rw [ih]; simp [KV.cs]; omega
theorem rows_get (l : List KV) (i : Nat) (h : i < l.length) (j : Nat) (hj : j < 5) : (rows l)[i * 5 + j]? = (l[i]).cs[j]? := by
  induction l generalizing i with
  | nil => simp at h
  | cons y r ih =>
    have hy : y.cs.length = 5 := rfl
    cases i with
    | zero => simp only [rows, List.flatMap_cons, Nat.zero_mul, Nat.zero_add]; rw [List.getElem?_append_left (by omega)]; rfl
    | succ i =>
      simp only [rows, List.flatMap_cons]
      rw [List.getElem?_append_right (by omega), show (i + 1) * 5 + j - y.cs.length = i * 5 + j by omega]
      exact ih i (by simpa using h)
theorem rows_append (a b : List KV) : rows (a ++ b) = rows a ++ rows b := by simp [rows]
/-- the slice v reads as l; a slice that the program made -/
def IsRows (w : World) (base : Nat) (v : Value) (l : List KV) : Prop := w.ownsRow base 92 5 v l.length (rows l)

def better (y x : KV) : Bool := decide (y.x.e < x.x.e) || (decide (y.x.e = x.x.e) && decide (y.k < x.k))
def upd (x y : KV) : KV := if y.x.n = x.x.n then (if better y x then x else y) else y
def keepR (l : List KV) (x : KV) : List KV := l.map (upd x) ++ (if l.any (fun y => decide (y.x.n = x.x.n)) then [] else [x])
theorem Try.info92 : (Try.prog.info? 92).map (fun i => (i.zero, i.size, i.bytes)) = some (some (.agg #[.string .empty, .int .i64 0, .int .i64 0, .int .i64 0, .int .i64 0]), 5, 48) := by kernel_rfl

def RKeepPost (w : World) (l : List KV) (x : KV) (r : Ending) (w' : World) : Prop :=
  ∃ v, r = .returned v ∧ IsRows w' w.heap.size v (keepR l x) ∧ Ext (fun _ => False) w w'

/-- the round's end: what the slice reads as, one more -/
theorem rows_step {w' : World} {B : Nat} {v' : Value} {l : List KV} {x y' : KV} {q : Nat} (hq : q < l.length) (hy : upd x l[q] = y')
    (h : w'.ownsRow B 92 5 v' (((l.take q).map (upd x)).length + 1) (rows ((l.take q).map (upd x)) ++ y'.cs)) : IsRows w' B v' ((l.take (q + 1)).map (upd x)) := by
  unfold IsRows
  have e : (l.take (q + 1)).map (upd x) = (l.take q).map (upd x) ++ [y'] := by
    rw [List.take_succ_eq_append_getElem hq, List.map_append]; simp [hy]
  rw [e, rows_append]
  have e2 : ((l.take q).map (upd x) ++ [y']).length = q + 1 := by simp; omega
  rw [e2]
  have e3 : ((l.take q).map (upd x)).length + 1 = q + 1 := by simp; omega
  rw [e3] at h
  simpa [rows] using h
theorem any_step {l : List KV} {n : ByteArray} {q : Nat} (hq : q < l.length) : (l.take (q + 1)).any (fun y => decide (y.x.n = n)) = ((l.take q).any (fun y => decide (y.x.n = n)) || decide (l[q].x.n = n)) := by
  rw [List.take_succ_eq_append_getElem hq, List.any_append]; simp
set_option maxRecDepth 100000 in
set_option maxHeartbeats 1000000 in
theorem rkeep_any (g cap : Nat) (w : World) (l : List KV) (hR : IsRows w 0 (.slice (some ⟨g, 0, none⟩) l.length cap) l) (hlen : l.length ≤ 1000)
   (n : ByteArray) (e a t k : Int) :
    Calls Try.prog 12 #[.slice (some ⟨g, 0, none⟩) l.length cap, .agg #[.string n, .int .i64 e, .int .i64 a, .int .i64 t], .int .i64 k] w (RKeepPost w l ⟨⟨n, e, a, t⟩, k⟩) := by
  obtain ⟨i0, hi, hz0, hz1, hz2⟩ := info_parts Try.info92
  have hcell : ∀ i j u, (rows l)[i * 5 + j]? = some u → w.cell? ⟨g, i * 5 + j, none⟩ = some u := fun i j u h => by
    have := hR.cells (g := g) rfl (i * 5 + j) u h
    rwa [Addr.add_lit, Nat.zero_add] at this
  have hg : g < w.heap.size := (hR.lt g rfl).2
  go_enter Try.func12, Try.ntmps12
  go_wp2
  go_loopw [7, 8, 9] (fun out fresh i wr => ∃ q : Nat, q ≤ l.length ∧ i = .int .i64 q ∧ fresh = .bool (!(l.take q).any fun y => decide (y.x.n = n)) ∧
      IsRows wr (w.heap.size + 1) out ((l.take q).map (upd ⟨⟨n, e, a, t⟩, k⟩)) ∧ Ext (fun _ => False) (w.alloc (.cells #[.string n, .int .i64 e, .int .i64 a, .int .i64 t] 28)) wr) (fun _ _ i _ => l.length - (intOf i).toNat)
  case atStart => exact ⟨0, Nat.zero_le _, rfl, rfl, by
      have := World.ownsRow_made (base := w.heap.size + 1) (w := w.alloc (.cells #[.string n, .int .i64 e, .int .i64 a, .int .i64 t] 28)) (e := 92) (size := 5) #[] 0 (by simp) (by simp [maxLen]) rfl
      simpa [IsRows, rows] using this, (Ext.refl _ _).alloc _⟩
  case round =>
    obtain ⟨q, hq, rfl, rfl, hout, hx⟩ := hrel
    have hb0 : wr.cell? ⟨w.heap.size, 0, none⟩ = some (.string n) := (hx.cell (p := ⟨w.heap.size, 0, none⟩) (by simp) id).trans (by simp)
    have hb1 : wr.cell? ⟨w.heap.size, 1, none⟩ = some (.int .i64 e) := (hx.cell (p := ⟨w.heap.size, 1, none⟩) (by simp) id).trans (by simp)
    have hb2 : wr.cell? ⟨w.heap.size, 2, none⟩ = some (.int .i64 a) := (hx.cell (p := ⟨w.heap.size, 2, none⟩) (by simp) id).trans (by simp)
    have hb3 : wr.cell? ⟨w.heap.size, 3, none⟩ = some (.int .i64 t) := (hx.cell (p := ⟨w.heap.size, 3, none⟩) (by simp) id).trans (by simp)
    have hsz := hx.size
    simp only [World.size_alloc] at hsz
    have hsz1 : w.heap.size < wr.heap.size := hsz
    have hsz2 : g < wr.heap.size := by omega
    have hx' : Ext (fun _ => False) w wr := ((Ext.refl _ w).alloc _).trans' (T := fun _ => False) hx (fun _ _ h => h)
    by_cases hlt : q < l.length
    · have hcs : ∀ j u, (l[q]).cs[j]? = some u → wr.cell? ⟨g, q * 5 + j, none⟩ = some u := fun j u h => by
        have hj : j < 5 := (List.getElem?_eq_some_iff.1 h).1
        exact (hx'.cell (p := ⟨g, q * 5 + j, none⟩) hg id).trans (hcell q j u (by rw [rows_get l q hlt j hj]; exact h))
      obtain ⟨⟨⟨yn, ye, ya, yt⟩, yk⟩, hy⟩ : ∃ y, l[q] = y := ⟨_, rfl⟩
      rw [hy] at hcs
      have c0 := hcs 0 _ rfl
      have c1 := hcs 1 _ rfl
      have c2 := hcs 2 _ rfl
      have c3 := hcs 3 _ rfl
      have c4 := hcs 4 _ rfl
      simp only [Nat.add_zero] at c0
      clear hcs hcell hR
      have Hx := Lib.hid hx
      have Hout := Lib.hid hout
      clear hx' hout hx
      have Hy := Lib.hid hy
      by_cases hn : yn = n
      · have hnn := bytes_eq hn
        have hu : upd ⟨⟨n, e, a, t⟩, k⟩ l[q] = if better ⟨⟨yn, ye, ya, yt⟩, yk⟩ ⟨⟨n, e, a, t⟩, k⟩ then ⟨⟨n, e, a, t⟩, k⟩ else ⟨⟨yn, ye, ya, yt⟩, yk⟩ := by rw [hy]; simp [upd, hn]
        have Hn := Lib.hid hn
        clear hn hy
        by_cases h1 : ye < e
        · have hup : upd ⟨⟨n, e, a, t⟩, k⟩ l[q] = ⟨⟨n, e, a, t⟩, k⟩ := by rw [hu]; simp [better, h1]
          have Hup := Lib.hid hup
          clear hup hu
          go_wp2_with (at_builtin; refine wpList_append_own _ rfl _ _ 26 rfl (w.heap.size + 1) 92 i0 _ 5 48 Try.underlying26 hi hz0 hz1 hz2 rfl (by decide) _ _ _ rfl ((Hout.out.alloc _).alloc _) ⟨wr.heap.size + 1, 0, none⟩ 1 1 [.string n, .int .i64 e, .int .i64 a, .int .i64 t, .int .i64 k] rfl rfl (cells_new _ _ (by simp)) (by simp [Value.oneCell']) (by simp [maxLen]; omega) (by simp; omega) (by simp; omega) ?_; intro v' w1 hown1 hgrow1 _)
          have hfin := rows_step (x := ⟨⟨n, e, a, t⟩, k⟩) hlt Hup.out hown1
          have hext := ((Hx.out.alloc _).alloc _).grown hgrow1 (fun r hr hk => by have := (Hout.out.lt r hr).1; simp at hk; omega)
          have hany := any_step (n := n) hlt
          have Hfin := Lib.hid hfin
          have Hext := Lib.hid hext
          have Hany := Lib.hid hany
          clear hfin hext hany hown1 hgrow1
          go_wp2
          go_roundw
          case rel => exact ⟨q + 1, by omega, by go_num, by rw [Hany.out, Hy.out]; simp [Hn.out], Hfin.out, Hext.out⟩
          case measure => simp [intOf]; omega
        · by_cases h2 : ye = e
          · subst h2
            have t1 : (ye == ye) = true := by simp
            by_cases h3 : yk < k
            · have hup : upd ⟨⟨n, ye, a, t⟩, k⟩ l[q] = ⟨⟨n, ye, a, t⟩, k⟩ := by rw [hu]; simp [better, h3]
              have Hup := Lib.hid hup
              clear hup hu
              go_wp2_with (at_builtin; refine wpList_append_own _ rfl _ _ 26 rfl (w.heap.size + 1) 92 i0 _ 5 48 Try.underlying26 hi hz0 hz1 hz2 rfl (by decide) _ _ _ rfl ((Hout.out.alloc _).alloc _) ⟨wr.heap.size + 1, 0, none⟩ 1 1 [.string n, .int .i64 ye, .int .i64 a, .int .i64 t, .int .i64 k] rfl rfl (cells_new _ _ (by simp)) (by simp [Value.oneCell']) (by simp [maxLen]; omega) (by simp; omega) (by simp; omega) ?_; intro v' w1 hown1 hgrow1 _)
              have hfin := rows_step (x := ⟨⟨n, ye, a, t⟩, k⟩) hlt Hup.out hown1
              have hext := ((Hx.out.alloc _).alloc _).grown hgrow1 (fun r hr hk => by have := (Hout.out.lt r hr).1; simp at hk; omega)
              have hany := any_step (n := n) hlt
              have Hfin := Lib.hid hfin
              have Hext := Lib.hid hext
              have Hany := Lib.hid hany
              clear hfin hext hany hown1 hgrow1
              go_wp2
              go_roundw
              case rel => exact ⟨q + 1, by omega, by go_num, by rw [Hany.out, Hy.out]; simp [Hn.out], Hfin.out, Hext.out⟩
              case measure => simp [intOf]; omega
            · have hup : upd ⟨⟨n, ye, a, t⟩, k⟩ l[q] = ⟨⟨yn, ye, ya, yt⟩, yk⟩ := by rw [hu]; simp [better, h3]
              have Hup := Lib.hid hup
              clear hup hu
              go_wp2_with (at_builtin; refine wpList_append_own _ rfl _ _ 26 rfl (w.heap.size + 1) 92 i0 _ 5 48 Try.underlying26 hi hz0 hz1 hz2 rfl (by decide) _ _ _ rfl ((Hout.out.alloc _).alloc _) ⟨wr.heap.size + 1, 0, none⟩ 1 1 [.string yn, .int .i64 ye, .int .i64 ya, .int .i64 yt, .int .i64 yk] rfl rfl (cells_new _ _ (by simp)) (by simp [Value.oneCell']) (by simp [maxLen]; omega) (by simp; omega) (by simp; omega) ?_; intro v' w1 hown1 hgrow1 _)
              have hfin := rows_step (x := ⟨⟨n, ye, a, t⟩, k⟩) hlt Hup.out hown1
              have hext := ((Hx.out.alloc _).alloc _).grown hgrow1 (fun r hr hk => by have := (Hout.out.lt r hr).1; simp at hk; omega)
              have hany := any_step (n := n) hlt
              have Hfin := Lib.hid hfin
              have Hext := Lib.hid hext
              have Hany := Lib.hid hany
              clear hfin hext hany hown1 hgrow1
              go_wp2
              go_roundw
              case rel => exact ⟨q + 1, by omega, by go_num, by rw [Hany.out, Hy.out]; simp [Hn.out], Hfin.out, Hext.out⟩
              case measure => simp [intOf]; omega
          · have hup : upd ⟨⟨n, e, a, t⟩, k⟩ l[q] = ⟨⟨yn, ye, ya, yt⟩, yk⟩ := by rw [hu]; simp [better, h1, h2]
            have t1 : (e == ye) = false := by simpa using fun h => h2 h.symm
            have Hup := Lib.hid hup
            clear hup hu h2
            go_wp2_with (at_builtin; refine wpList_append_own _ rfl _ _ 26 rfl (w.heap.size + 1) 92 i0 _ 5 48 Try.underlying26 hi hz0 hz1 hz2 rfl (by decide) _ _ _ rfl ((Hout.out.alloc _).alloc _) ⟨wr.heap.size + 1, 0, none⟩ 1 1 [.string yn, .int .i64 ye, .int .i64 ya, .int .i64 yt, .int .i64 yk] rfl rfl (cells_new _ _ (by simp)) (by simp [Value.oneCell']) (by simp [maxLen]; omega) (by simp; omega) (by simp; omega) ?_; intro v' w1 hown1 hgrow1 _)
            have hfin := rows_step (x := ⟨⟨n, e, a, t⟩, k⟩) hlt Hup.out hown1
            have hext := ((Hx.out.alloc _).alloc _).grown hgrow1 (fun r hr hk => by have := (Hout.out.lt r hr).1; simp at hk; omega)
            have hany := any_step (n := n) hlt
            have Hfin := Lib.hid hfin
            have Hext := Lib.hid hext
            have Hany := Lib.hid hany
            clear hfin hext hany hown1 hgrow1
            go_wp2
            go_roundw
            case rel => exact ⟨q + 1, by omega, by go_num, by rw [Hany.out, Hy.out]; simp [Hn.out], Hfin.out, Hext.out⟩
            case measure => simp [intOf]; omega
      · have hnn := bytes_ne hn
        have hup : upd ⟨⟨n, e, a, t⟩, k⟩ l[q] = ⟨⟨yn, ye, ya, yt⟩, yk⟩ := by rw [hy]; simp [upd, hn]
        have Hup := Lib.hid hup
        have Hn := Lib.hid hn
        clear hn hup hy
        go_wp2_with (at_builtin; refine wpList_append_own _ rfl _ _ 26 rfl (w.heap.size + 1) 92 i0 _ 5 48 Try.underlying26 hi hz0 hz1 hz2 rfl (by decide) _ _ _ rfl ((Hout.out.alloc _).alloc _) ⟨wr.heap.size + 1, 0, none⟩ 1 1 [.string yn, .int .i64 ye, .int .i64 ya, .int .i64 yt, .int .i64 yk] rfl rfl (cells_new _ _ (by simp)) (by simp [Value.oneCell']) (by simp [maxLen]; omega) (by simp; omega) (by simp; omega) ?_; intro v' w1 hown1 hgrow1 _)
        have hfin := rows_step (x := ⟨⟨n, e, a, t⟩, k⟩) hlt Hup.out hown1
        have hext := ((Hx.out.alloc _).alloc _).grown hgrow1 (fun r hr hk => by have := (Hout.out.lt r hr).1; simp at hk; omega)
        have hany := any_step (n := n) hlt
        have Hfin := Lib.hid hfin
        have Hext := Lib.hid hext
        have Hany := Lib.hid hany
        clear hfin hext hany hown1 hgrow1
        go_wp2
        go_roundw
        case rel => exact ⟨q + 1, by omega, by go_num, by rw [Hany.out, Hy.out]; simp [Hn.out], Hfin.out, Hext.out⟩
        case measure => simp [intOf]; omega
    · have hql : q = l.length := by omega
      subst hql
      have ht : l.take l.length = l := List.take_length
      rw [ht] at hout
      have hfr : (!(l.take l.length).any fun y => decide (y.x.n = n)) = !(l.any fun y => decide (y.x.n = n)) := by rw [ht]
      have Hx := Lib.hid hx
      have Hx' := Lib.hid hx'
      have Hout := Lib.hid hout
      have Hfr := Lib.hid hfr
      clear hx' hout hx hcell hR hfr ht
      generalize hfb : (!(List.take l.length l).any fun y => decide (y.x.n = n)) = fb
      cases fb with
      | false =>
        have hany : (l.any fun y => decide (y.x.n = n)) = true := by have := Hfr.out.symm.trans hfb; simpa using this
        have Hany := Lib.hid hany
        clear hany hfb
        go_wp2
        go_ret
        refine ⟨_, rfl, ?_, Hx'.out⟩
        unfold keepR
        rw [Hany.out]
        have := ownsRow_mono Hout.out (base' := w.heap.size) (by omega)
        simpa [IsRows] using this
      | true =>
        have hany : (l.any fun y => decide (y.x.n = n)) = false := by have := Hfr.out.symm.trans hfb; simpa using this
        have Hany := Lib.hid hany
        clear hany hfb
        go_wp2_with (at_builtin; refine wpList_append_own _ rfl _ _ 26 rfl (w.heap.size + 1) 92 i0 _ 5 48 Try.underlying26 hi hz0 hz1 hz2 rfl (by decide) _ _ _ rfl (Hout.out.alloc _) ⟨wr.heap.size, 0, none⟩ 1 1 [.string n, .int .i64 e, .int .i64 a, .int .i64 t, .int .i64 k] rfl rfl (cells_new _ _ rfl) (by simp [Value.oneCell']) (by simp [maxLen]; omega) (by simp; omega) (by simp; omega) ?_; intro v' w1 hown1 hgrow1 _)
        have hext := (Hx.out.alloc _).grown hgrow1 (fun r hr hk => by have := (Hout.out.lt r hr).1; simp at hk; omega)
        have Hext := Lib.hid hext
        have Hown1 := Lib.hid hown1
        clear hext hown1 hgrow1
        go_wp2
        go_ret
        refine ⟨_, rfl, ?_, ((Ext.refl _ w).alloc _).trans' (T := fun _ => False) Hext.out (fun _ _ h => h)⟩
        unfold keepR
        rw [Hany.out]
        have := ownsRow_mono Hown1.out (base' := w.heap.size) (by omega)
        simpa [IsRows, rows, KV.cs] using this
end Go.Proofs.Ytgmopnbejjfbjaa
