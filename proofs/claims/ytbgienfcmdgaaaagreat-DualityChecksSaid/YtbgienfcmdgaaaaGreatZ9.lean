/-
  Package linear: Valid. Conditions: the argument reads as a program.
-/
import Derived.Test.YtbgienfcmdgaaaaGreatZ8
import Derived.Test.YtbgienfcmdgaaaaGreatZ7
set_option linter.unusedVariables false
namespace Go.Proofs.YtbgienfcmdgaaaaGreat
open Go.RowKit Go.MapKept Go.Lib
open Go.ChangeMaps (setBlock)

theorem rows_empty (w : World) (ao : Option Addr) (c : Nat) (fv : Value) : Calls Tryz.prog 107 #[.slice ao 0 c, fv] w fun r w' => r = .returned (.bool false) ∧ w' = w := by
  have h : ∀ W, Calls Tryz.prog 156 #[.slice ao 0 c, fv] W fun r w' => r = .returned (.int .i64 (-1)) ∧ w' = W := fun W => by
    go_enter Tryz.func156, Tryz.ntmps156
    go_wp2_with fail
    go_loopg [8] 0 (fun gg s8 wr => s8 = .int .i64 0 ∧ wr = W)
    case atStart => exact ⟨rfl, rfl⟩
    case round =>
      obtain ⟨rfl, rfl⟩ := hrel
      go_wp2
      go_ret
      exact ⟨rfl, rfl⟩
  have H := Lib.hid h
  clear h
  go_enter Tryz.func107, Tryz.ntmps107
  go_wp2_with (go_at_call 156; refine (H.out _).mono ?_; rintro e w' ⟨rfl, rfl⟩)
  go_ret
  exact ⟨rfl, rfl⟩
/-- row number j's cells; nothing beyond the end -/
def rowC (p : ProgV) (tvs : List Value) (j : Nat) : List Value := cR (p.r j) (tvs.getD j (.slice none 0 0))
theorem valid1_any (w : World) (pb : Nat) (vv rv : Value) (p : ProgV) (hp : blk w pb = some (.cells #[vv, rv] 25 (0, 0))) (hv : Vrs w vv p.vars) (r : RowV) (tv : Value) (ht : Tms w tv r.terms) (hok : RowOk r) :
    Calls Tryz.prog 108 #[.agg (cR r tv).toArray, .pointer (some ⟨pb, 0, none⟩)] w (BoolPost w (!rowB p.vars.length r)) := by
  obtain ⟨vo, vc, rfl, -, hn, -⟩ := hv.shape
  obtain ⟨ta, tc, rfl, -, -, -⟩ := ht.shape
  have HR := Lib.hid (fun W (hW : Ext (fun _ => False) w W) => validRow_any W p.vars.length hn r ta tc hok (ht.keep hW))
  have hx := (Ext.refl (fun _ => False) w).alloc (.cells #[.string r.name, .int .i64 r.group, .int .i64 r.kind, .slice ta r.terms.length tc, .int .i64 r.bound] 58)
  have z0 := cell_keep (cellq hp 0 rfl) hx
  have HX := Lib.hid hx
  clear hv ht hok hp hx
  generalize p.vars.length = n at *
  generalize r.terms.length = tl at *
  generalize rowB n r = b at *
  show Calls Tryz.prog 108 #[.agg #[.string r.name, .int .i64 r.group, .int .i64 r.kind, .slice ta tl tc, .int .i64 r.bound], .pointer (some ⟨pb, 0, none⟩)] w _
  go_enter Tryz.func108, Tryz.ntmps108
  go_wp2_with (go_at_call 109; refine (HR.out _ HX.out).mono ?_; rintro e w' ⟨rfl, hx'⟩)
  go_ret
  exact ⟨rfl, HX.out.trans hx'⟩
theorem all_range {α : Type} (f : α → Bool) (l : List α) (d : α) : (!(List.range l.length).any fun j => !f (l.getD j d)) = l.all f := by
  rw [any_not_all]
  have h : (List.range l.length).map (fun j => l.getD j d) = l := by
    refine List.ext_getElem (by simp) (fun i h1 h2 => ?_)
    simp [List.getElem?_eq_getElem h2]
  conv => rhs; rw [← h]
  rw [List.all_map]; rfl
theorem rows_any (w : World) (pb : Nat) (vv rv : Value) (p : ProgV) (hp : blk w pb = some (.cells #[vv, rv] 25 (0, 0))) (hv : Vrs w vv p.vars) (hr : Rws w rv p.rows) :
    Calls Tryz.prog 107 #[rv, .func (.func 108) #[] #[.pointer (some ⟨pb, 0, none⟩)]] w fun r w' => r = .returned (.bool (!p.rows.all (rowB p.vars.length))) ∧ Ext (fun _ => False) w w' := by
  obtain ⟨ro, rc, rfl, -, hn, -⟩ := hr.shape
  by_cases h0 : p.rows.length = 0
  · rw [h0]
    refine (rows_empty w ro rc _).mono ?_
    rintro r w' ⟨rfl, rfl⟩
    refine ⟨ret_bool ?_, Ext.refl _ _⟩
    rw [List.eq_nil_of_length_eq_zero h0]; rfl
  obtain ⟨tvs, hl, ⟨ao, c, e, h1, h2, h3, h4⟩, h5⟩ := hr
  rw [List.length_zipWith, hl, Nat.min_self] at e h1 h4
  cases e
  obtain ⟨b, off, rfl, hlt, hc⟩ := h4 (by omega)
  have hall : ∀ j, Tms w (tvs.getD j (.slice none 0 0)) (p.r j).terms ∧ RowOk (p.r j) := fun j => by
    by_cases hj : j < p.rows.length
    · have hj' : j < tvs.length := by omega
      have := h5 j _ _ (List.getElem?_eq_getElem hj) (List.getElem?_eq_getElem hj')
      rw [p.r_at hj] at this
      rw [getD_lt hj']
      exact this
    · have e1 : p.r j = row0 := by
        unfold ProgV.r
        rw [List.getD_eq_getElem?_getD, List.getElem?_eq_none (by omega)]; rfl
      rw [List.getD_eq_getElem?_getD, List.getElem?_eq_none (by omega), e1]
      refine ⟨⟨Sl.nil w 2, fun t ht => (by cases ht)⟩, ⟨?_, ?_, ?_, ?_⟩⟩
      · show (0 : Nat) ≤ maxLen; exact Nat.zero_le _
      all_goals (constructor <;> (show (_ : Int) ≤ _) <;> decide)
  have hq := AnyQ.slices_ContainsFunc Tryz.laysRow8 5 Tryz.isAgg58 Tryz.sizeOf58 (rowC p tvs) (fun _ => rfl) (fun j => !rowB p.vars.length (p.r j)) 108 #[.pointer (some ⟨pb, 0, none⟩)] (enters_of Tryz.func108 (by kernel_rfl) rfl) b off p.rows.length rc (List.range p.rows.length) w
    (fun W j hW => by
      have hx := Below.ext hW
      refine (valid1_any W pb vv _ p (blk_keep hp hx) (hv.keep hx) (p.r j) _ ((hall j).1.keep hx) (hall j).2).mono ?_
      rintro e w' ⟨rfl, hx'⟩
      exact ⟨rfl, (hx.trans hx').below⟩)
    (by simp) hn hlt (fun j hj i v hi => by
      rw [List.length_range] at hj
      rw [getElem!_pos _ j (by simpa using hj), List.getElem_range] at hi
      refine hc j _ ?_ i v hi
      have hj' : j < tvs.length := by omega
      rw [List.getElem?_zipWith, List.getElem?_eq_getElem hj, List.getElem?_eq_getElem hj', p.r_at hj]
      show some (cR (p.r j) tvs[j]) = some (cR (p.r j) (tvs.getD j _))
      rw [getD_lt hj'])
  refine hq.mono ?_
  rintro r w' ⟨rfl, hb⟩
  refine ⟨ret_bool ?_, Below.ext hb⟩
  have ht : List.take p.rows.length (List.range p.rows.length) = List.range p.rows.length := by
    rw [List.take_of_length_le (by simp)]
  rw [ht, ← all_range (rowB p.vars.length) p.rows row0, Bool.not_not]
  rfl
theorem varB_eq (v : VarV) : varB v = ([v.lo, v.up, v.co].all limB && !(v.op && !decide (v.up = 0))) := by
  unfold varB
  simp [Bool.and_assoc]
theorem all_next {α : Type} {f : α → Bool} {l : List α} {d : α} {i : Nat} (hi : i < l.length) (h : (l.take i).all f = true) (hf : f (l.getD i d) = true) : (l.take (i + 1)).all f = true := by
  rw [List.take_succ_eq_append_getElem hi, List.all_append, h, Bool.true_and, List.all_cons, List.all_nil, Bool.and_true, ← getD_lt hi d]
  exact hf
theorem all_fails {α : Type} {f : α → Bool} {l : List α} {d : α} {i : Nat} (hi : i < l.length) (hf : f (l.getD i d) = false) : l.all f = false := by
  rw [List.all_eq_false]
  exact ⟨_, List.getElem_mem hi, by rw [← getD_lt hi d, hf]; simp⟩
set_option maxRecDepth 100000 in
set_option maxHeartbeats 8000000 in
theorem Valid_any (w : World) (pv : Value) (p : ProgV) (hp : IsPrg w pv p) : Calls Tryz.prog 57 #[pv] w (BoolPost w (validB p)) := by
  obtain ⟨vv, rv, rfl, hv, hr⟩ := hp
  obtain ⟨vo, vc, rfl, -, hn, -⟩ := hv.shape
  obtain ⟨ro, rc, rfl, -, hrn, -⟩ := hr.shape
  have HV := Lib.hid (And.intro hv hr)
  have HR := Lib.hid (show validB p = (decide (p.vars.length ≤ 400) && decide (p.rows.length ≤ 4000) && p.vars.all varB && p.rows.all (rowB p.vars.length)) from rfl)
  have hb := blk_alloc_at w (.cells #[.slice vo p.vars.length vc, .slice ro p.rows.length rc] 25)
  have hx := (Ext.refl (fun _ => False) w).alloc (.cells #[.slice vo p.vars.length vc, .slice ro p.rows.length rc] 25)
  have HB := Lib.hid (And.intro hb hx)
  have HW := Lib.hid (fun W (hW : Ext (fun _ => False) w W) pb hpb => rows_any W pb _ _ p hpb (hv.keep hW) (hr.keep hW))
  clear hv hr hb hx
  obtain ⟨n, hn'⟩ : ∃ n, p.vars.length = n := ⟨_, rfl⟩
  have HN := Lib.hid hn'
  rw [hn'] at hn HV HR HB HW ⊢
  clear hn'
  obtain ⟨m, hm'⟩ : ∃ m, p.rows.length = m := ⟨_, rfl⟩
  rw [hm'] at hrn HV HR HB HW ⊢
  clear hm'
  generalize p.rows.all (rowB n) = rb at *
  go_enter Tryz.func57, Tryz.ntmps57
  go_upto_region 1 with fail
  generalize hw1 : w.alloc (.cells #[.slice vo n vc, .slice ro m rc] 25) = w1 at *
  clear hw1
  obtain ⟨pb, hpb⟩ : ∃ pb, w.heap.size = pb := ⟨_, rfl⟩
  rw [hpb] at HB ⊢
  clear hpb
  have z0 := cellq HB.out.1 0 rfl
  have z1 := cellq HB.out.1 1 rfl
  by_cases c1 : 400 < n
  · have c1' : (400 : Int) < (n : Int) := by omega
    go_wp2
    go_ret
    exact ⟨ret_bool (by rw [HR.out, decide_eq_false (p := (n ≤ 400)) (by omega)]; simp), HB.out.2⟩
  have c1' : ¬ (400 : Int) < (n : Int) := by omega
  by_cases c2 : 4000 < m
  · have c2' : (4000 : Int) < (m : Int) := by omega
    go_wp2
    go_ret
    exact ⟨ret_bool (by rw [HR.out, decide_eq_false (p := (m ≤ 4000)) (by omega)]; simp), HB.out.2⟩
  have c2' : ¬ (4000 : Int) < (m : Int) := by omega
  have HR2 : Hid (validB p = (p.vars.all varB && rb)) := Lib.hid (by rw [HR.out, decide_eq_true (p := (n ≤ 400)) (by omega), decide_eq_true (p := (m ≤ 4000)) (by omega)]; simp)
  clear HR
  go_wp2_with fail
  go_loopg [18] n (fun gg v18 wr => ∃ i : Nat, i ≤ n ∧ gg = n - i ∧ v18 = .int .i64 i ∧ (p.vars.take i).all varB = true ∧ Ext (fun _ => False) w1 wr)
  case atStart => exact ⟨0, Nat.zero_le _, rfl, rfl, rfl, Ext.refl _ _⟩
  case round =>
    clear z0 z1
    obtain ⟨i, hi, rfl, rfl, hall, hx⟩ := hrel
    have HX := Lib.hid (And.intro hall hx)
    clear hall hx
    by_cases hin : i < n
    · have i0 : (i : Int) < (n : Int) := by omega
      have HI : Hid (i < p.vars.length) := Lib.hid (by rw [HN.out]; exact hin)
      obtain ⟨b, off, rfl, -, e0, e1, e2, e3, e4, -⟩ := (HV.out.1.keep (HB.out.2.trans HX.out.2)).atp i HI.out
      have hb1 := BoxV.new wr (p.v i)
      have hx1 := (Ext.refl (fun _ => False) wr).alloc (.cells #[.int .i64 (p.v i).lo, .int .i64 (p.v i).up, .bool (p.v i).op, .bool (p.v i).ig, .int .i64 (p.v i).co] 63)
      have HB1 := Lib.hid (And.intro hb1 hx1)
      have HVB := Lib.hid (varB_eq (p.v i))
      clear hb1 hx1
      go_upto_region 6 with fail
      generalize hw2 : wr.alloc (.cells #[.int .i64 (p.v i).lo, .int .i64 (p.v i).up, .bool (p.v i).op, .bool (p.v i).ig, .int .i64 (p.v i).co] 63) = w2 at *
      clear hw2 e0 e1 e2 e3 e4
      obtain ⟨vb, hvb⟩ : ∃ vb, wr.heap.size = vb := ⟨_, rfl⟩
      rw [hvb] at HB1 ⊢
      clear hvb
      obtain ⟨f0, f1, f2, -, f4⟩ := HB1.out.1.facts
      have HL := Lib.hid (limited_any (w2.alloc (.cells #[.int .i64 (p.v i).lo, .int .i64 (p.v i).up, .int .i64 (p.v i).co] 2)) w2.heap.size 0 3 [(p.v i).lo, (p.v i).up, (p.v i).co] (by simp) (fun j u hj => (by
        have := cells_new (w := w2) [Value.int .i64 (p.v i).lo, .int .i64 (p.v i).up, .int .i64 (p.v i).co] 2 rfl j (.int .i64 u) (by
          match j, hj with
          | 0, hj => cases hj; rfl
          | 1, hj => cases hj; rfl
          | 2, hj => cases hj; rfl
          | j + 3, hj => simp at hj)
        simpa [Addr.add_lit] using this)))
      simp only [List.length_cons, List.length_nil, Nat.zero_add] at HL
      obtain ⟨lb, hlb⟩ : ∃ lb, [(p.v i).lo, (p.v i).up, (p.v i).co].all limB = lb := ⟨_, rfl⟩
      rw [hlb] at HL HVB
      clear hlb
      generalize (p.v i).lo = lo at *
      generalize (p.v i).up = up at *
      generalize (p.v i).op = o at *
      generalize (p.v i).ig = ig at *
      generalize (p.v i).co = co at *
      go_wp2_with fail
      refine HL.out.mono ?_
      rintro r3 w3 ⟨rfl, hx3⟩
      have hx23 := ((Ext.refl (fun _ => False) w2).alloc (.cells #[.int .i64 lo, .int .i64 up, .int .i64 co] 2)).trans hx3
      have HX3 := Lib.hid ((HX.out.2.trans HB1.out.2).trans hx23)
      have g1 := cell_keep f1 hx23
      have g2 := cell_keep f2 hx23
      clear f0 f1 f2 f4 hx3 hx23 HL HB1
      cases lb with
      | false =>
        go_wp2
        go_ret
        exact ⟨ret_bool (by rw [HR2.out, all_fails (d := var0) HI.out (HVB.out.trans rfl)]; rfl), HB.out.2.trans HX3.out⟩
      | true =>
        cases o with
        | false =>
          go_wp2
          go_roundg (n - (i + 1))
          case measure => omega
          case rel => exact ⟨i + 1, by omega, rfl, by go_num, all_next (d := var0) HI.out HX.out.1 (HVB.out.trans rfl), HX3.out⟩
        | true =>
          by_cases hu : up = 0
          · have hu' : (up == 0) = true := by simpa using hu
            have HVB' := Lib.hid (HVB.out.trans (show _ = true by rw [decide_eq_true hu]; rfl))
            clear HVB
            subst hu
            go_wp2
            go_roundg (n - (i + 1))
            case measure => omega
            case rel => exact ⟨i + 1, by omega, rfl, by go_num, all_next (d := var0) HI.out HX.out.1 HVB'.out, HX3.out⟩
          · have hu' : (up == 0) = false := by simpa using hu
            have hu2 : (up != 0) = true := by simpa using hu
            have HVB' := Lib.hid (HVB.out.trans (show _ = false by rw [decide_eq_false hu]; rfl))
            clear HVB
            go_wp2
            go_ret
            exact ⟨ret_bool (by rw [HR2.out, all_fails (d := var0) HI.out HVB'.out]; rfl), HB.out.2.trans HX3.out⟩
    · obtain rfl : i = n := by omega
      have HF : Hid (p.vars.all varB = true) := Lib.hid (by
        have := HX.out.1
        rw [List.take_of_length_le (by rw [HN.out]; exact Nat.le_refl _)] at this
        exact this)
      have z1 := cell_keep (cellq HB.out.1 1 rfl) HX.out.2
      have HW2 := Lib.hid (HW.out wr (HB.out.2.trans HX.out.2) pb (blk_keep HB.out.1 HX.out.2))
      go_wp2_with fail
      refine HW2.out.mono ?_
      rintro r3 w3 ⟨rfl, hx3⟩
      have HX3 := Lib.hid ((HB.out.2.trans HX.out.2).trans hx3)
      clear hx3 z1 HW2
      go_wp2
      go_ret
      exact ⟨ret_bool (by rw [HR2.out, HF.out]; simp), HX3.out⟩
end Go.Proofs.YtbgienfcmdgaaaaGreat
/-
  A drawn region walked by hand, where one of two operations may come first. Conditions: none beyond each lemma's own.
-/
namespace Go.Proofs.YtbgienfcmdgaaaaGreat
open Go.RowKit Go.MapKept

section
variable {P : Program} {md : Region.Mode} {l : List Oper} {Q : Exit → Act → World → Prop} {S : World → Prop} {k : Nat}
theorem ends_two (i j : Nat) {oi oj : Oper} {fuel : Nat} {listed : Array Bool} {a : Act} {w : World} (hi : l[i]? = some oi) (hj : l[j]? = some oj) (hr : Region.ready md l.toArray listed = [i, j])
    (h1 : ∀ K' : Act → World → Prop, Shut (∀ a w, S w → (S w → Ends P md l.toArray Q S k fuel (listed.setIfInBounds i true) a w) → K' a w) → if Region.wanted oi (yielded l.toArray a.tmps) = true then Oper.wp P oi a w K' Q else K' (a.put oi.dst undef) w)
    (h2 : ∀ K' : Act → World → Prop, Shut (∀ a w, S w → (S w → Ends P md l.toArray Q S k fuel (listed.setIfInBounds j true) a w) → K' a w) → if Region.wanted oj (yielded l.toArray a.tmps) = true then Oper.wp P oj a w K' Q else K' (a.put oj.dst undef) w) :
    Ends P md l.toArray Q S k (fuel + 1) listed a w := by
  refine ⟨fun h0 => (by rw [hr] at h0; cases h0), fun q hq => ?_⟩
  rw [hr] at hq
  rcases List.mem_cons.1 hq with rfl | hq
  · exact wpOp_step (by simpa using hi) (fun K' hK => h1 K' (fun a w hS hW => hK a w ⟨fun _ => hS, hW hS⟩))
  · obtain rfl := List.mem_singleton.1 hq
    exact wpOp_step (by simpa using hj) (fun K' hK => h2 K' (fun a w hS hW => hK a w ⟨fun _ => hS, hW hS⟩))
theorem held_two (i j : Nat) {oi oj : Oper} {fuel : Nat} {listed : Array Bool} {a : Act} {w : World} (hi : l[i]? = some oi) (hj : l[j]? = some oj) (hr : Region.ready md l.toArray listed = [i, j])
    (h1 : ∀ K' : Act → World → Prop, Shut (∀ a w, S w → (S w → wpAnyH P md l.toArray Q S fuel (listed.setIfInBounds i true) a w) → K' a w) → if Region.wanted oi (yielded l.toArray a.tmps) = true then Oper.wp P oi a w K' Q else K' (a.put oi.dst undef) w)
    (h2 : ∀ K' : Act → World → Prop, Shut (∀ a w, S w → (S w → wpAnyH P md l.toArray Q S fuel (listed.setIfInBounds j true) a w) → K' a w) → if Region.wanted oj (yielded l.toArray a.tmps) = true then Oper.wp P oj a w K' Q else K' (a.put oj.dst undef) w) :
    wpAnyH P md l.toArray Q S (fuel + 1) listed a w :=
  wpAnyH_ready hr (by simp) (AllReadyH.cons (by simpa using hi) h1 (AllReadyH.cons (by simpa using hj) h2 AllReadyH.nil))
end
end Go.Proofs.YtbgienfcmdgaaaaGreat
/-
  Package duality: Bound, Infeasible. Conditions: the arguments read as programs, multipliers; the numbers are small.
-/
namespace Go.Proofs.YtbgienfcmdgaaaaGreat
open Go.RowKit Go.MapKept
open Go.ChangeMaps (setBlock)

/-- how many digits all numbers have -/
structure Room (n m T L : Nat) : Prop where
  one : 1 ≤ L
  sum : (n + 1) * (m * (T * (L + 3) + 2) + 7) + T * (L + 3) + m * (L + 3) + n * (L + 3) + L ≤ 1000000
def sizeA (m T L : Nat) : Nat := 1 + m * (T * (L + 3) + 2)
theorem Room.all {n m T L : Nat} (h : Room n m T L) : 1 + m * (T * (L + 3) + 2) + (1 + T * (L + 3)) + (L + 3) ≤ 4000000 ∧ 1 + m * (L + 3) + (L + 3) ≤ 4000000 ∧ n ≤ 1000000 ∧ sizeA m T L + 3 ≤ 1000000 ∧
    1 + n * (sizeA m T L + 3 + 3) + (sizeA m T L + 3 + 3) ≤ 2000000 ∧ 1 + T * (L + 3) + (L + 3) ≤ 4000000 ∧ 1 + n * (L + 3) + (L + 3) ≤ 4000000 ∧ L ≤ 1000000 ∧ 1 + m * (L + 3) ≤ 1000000 := by
  have h1 := h.sum
  unfold sizeA
  generalize m * (T * (L + 3) + 2) = X at *
  generalize T * (L + 3) = Y at *
  have e : n * (1 + X + 3 + 3) = n * (X + 7) := by rw [show 1 + X + 3 + 3 = X + 7 from by omega]
  rw [Nat.succ_mul] at h1
  rw [e]
  have h2 : n ≤ n * (X + 7) := Nat.le_mul_of_pos_right n (by omega)
  generalize n * (X + 7) = Z at *
  generalize m * (L + 3) = U at *
  generalize n * (L + 3) = V at *
  omega
theorem combA_sz {p : ProgV} {y : List Rat} {w : World} {v : Value} {L T : Nat} (hr : Rws w v p.rows) (hy : ∀ i : Int, Sz (atQ y i) L) (hT : ∀ i, i < p.rows.length → (p.r i).terms.length ≤ T) (j : Nat) : Sz (combA p y j) (sizeA p.rows.length T L) := by
  rw [combA_eq]
  refine (sumTo_sz (M := 1 + T * (L + 3)) (fun i hi => ?_)).mono (by
    unfold sizeA
    rw [show 1 + T * (L + 3) + 1 = T * (L + 3) + 2 from by omega]
    exact Nat.le_refl _)
  refine (sumTo_sz (M := L + 2) (fun k hk => termA_sz (hy i) (hr.term_ok hi k hk) j)).mono ?_
  have := Nat.mul_le_mul_right (L + 3) (hT i hi)
  show 1 + (p.r i).terms.length * (L + 3) ≤ _
  omega
theorem combB_sz {p : ProgV} {y : List Rat} {w : World} {v : Value} {L : Nat} (hr : Rws w v p.rows) (hy : ∀ i : Int, Sz (atQ y i) L) : Sz (combB p y) (1 + p.rows.length * (L + 3)) :=
  sumTo_sz (M := L + 2) (fun i hi => ((Sz.int (hr.ok i hi).bound).mul (hy i)).mono (by omega))
theorem leastS_sz {p : ProgV} {c : List Rat} {w : World} {v : Value} {L : Nat} (hv : Vrs w v p.vars) (hc : ∀ i : Int, Sz (atQ c i) L) : Sz (leastS p c) (1 + p.vars.length * (L + 3)) :=
  sumTo_sz (M := L + 2) (fun i hi => ((Sz.int (pick_in hv c i hi)).mul (hc i)).mono (by omega))
theorem OptPost.open {w w' : World} {q : Option Rat} {r : Ending} (h : OptPost w q r w') : ∃ neg a1 m1 c1 a2 m2 c2, r = .returned (.tuple #[.agg #[.bool neg, .slice a1 m1 c1, .slice a2 m2 c2], .bool q.isSome]) ∧ IsRat w' (.agg #[.bool neg, .slice a1 m1 c1, .slice a2 m2 c2]) (q.getD 0) ∧ Ext (fun _ => False) w w' := by
  obtain ⟨hx, h⟩ := h
  cases q with
  | none =>
    obtain ⟨v, rfl, hv⟩ := h
    obtain ⟨neg, a1, m1, c1, a2, m2, c2, rfl⟩ := hv.shape
    exact ⟨neg, a1, m1, c1, a2, m2, c2, rfl, hv, hx⟩
  | some q =>
    obtain ⟨v, rfl, hv⟩ := h
    obtain ⟨neg, a1, m1, c1, a2, m2, c2, rfl⟩ := hv.shape
    exact ⟨neg, a1, m1, c1, a2, m2, c2, rfl, hv, hx⟩
theorem atQ_listTo_sz {n : Nat} {f : Nat → Rat} {L : Nat} (h : ∀ i, i < n → Sz (f i) L) (h1 : 1 ≤ L) (i : Int) : Sz (atQ (listTo n f) i) L := by
  by_cases h0 : i < 0
  · rw [atQ_neg _ h0]; exact Sz.zero.mono h1
  by_cases h2 : ((listTo n f).length : Int) ≤ i
  · rw [atQ_out _ h2]; exact Sz.zero.mono h1
  obtain ⟨j, rfl⟩ : ∃ j : Nat, i = j := ⟨i.toNat, by omega⟩
  rw [listTo_length] at h2
  rw [atQ_listTo _ (by omega)]
  exact h j (by omega)
/-- conditions of the package's functions -/
structure Small (p : ProgV) (T L : Nat) : Prop where
  room : Room p.vars.length p.rows.length T L
  terms : ∀ i, i < p.rows.length → (p.r i).terms.length ≤ T
set_option maxRecDepth 100000 in
set_option maxHeartbeats 8000000 in
theorem Bound_any (w : World) (pv yv : Value) (p : ProgV) (y : List Rat) (L T : Nat) (hp : IsPrg w pv p) (hy : Rats w yv y L) (hs : Small p T L) :
    Calls Tryz.prog 23 #[pv, yv] w (OptPost w (boundQ p y)) := by
  have h1 := hs.room.one
  obtain ⟨r1, r2, r3, r4, r5, r6, r7, r8, r9⟩ := hs.room.all
  have HP := Lib.hid hp
  obtain ⟨vv, rv, rfl, hv, hr⟩ := hp
  obtain ⟨vo, vc, rfl, -, hn, -⟩ := hv.shape
  obtain ⟨ro, rc, rfl, -, hrn, -⟩ := hr.shape
  have HVal := Lib.hid (fun W (hW : Ext (fun _ => False) w W) => Valid_any W _ p (HP.out.keep hW))
  have HSig := Lib.hid (fun W (hW : Ext (fun _ => False) w W) => Signed_any W _ _ p y L (HP.out.keep hW) (hy.keep hW) h1 (by omega))
  have HCom := Lib.hid (fun W (hW : Ext (fun _ => False) w W) => Combine_any W _ _ p y L T (HP.out.keep hW) (hy.keep hW) h1 hs.terms r1 r2 r3)
  have hyz := hy.sz h1
  have hA := combA_sz hr hyz hs.terms
  have hB := combB_sz hr hyz
  have hD : ∀ i, i < p.vars.length → Sz (((p.v i).co : Rat) - combA p y i) (sizeA p.rows.length T L + 3) := fun i hi => ((Sz.int (hv.ok i hi).co).sub (hA i)).mono (by omega)
  have HEa := Lib.hid (fun W (hW : Ext (fun _ => False) w W) pb ab B (hpb : blk W pb = some (.cells #[.slice vo p.vars.length vc, .slice ro p.rows.length rc] 25 (0, 0))) (hab : blk W ab = some (.cells #[.slice (some ⟨B, 0, none⟩) p.vars.length p.vars.length] 32 (0, 0))) (ha : RArr W B p.vars.length (combA p y)) =>
    each_any W p.vars.length 64 #[.pointer (some ⟨pb, 0, none⟩), .pointer (some ⟨ab, 0, none⟩)] (fun i => ((p.v i).co : Rat) - combA p y i) r3 (enters_of Tryz.func64 (by kernel_rfl) rfl)
      (fun W' hW' i hi => bound1_any W' pb ab B p.vars.length _ _ p (combA p y) (sizeA p.rows.length T L + 3) (blk_keep hpb hW') (hv.keep (hW.trans hW')) (blk_keep hab hW') r3 rfl (ha.keep hW') (by omega) (by omega) (fun j _ => (hA j).mono (by omega)) i hi))
  have HLa := Lib.hid (fun W (hW : Ext (fun _ => False) w W) B (ha : RArr W B p.vars.length (fun i => ((p.v i).co : Rat) - combA p y i)) =>
    Least_any W _ _ p (listTo p.vars.length fun i => ((p.v i).co : Rat) - combA p y i) (sizeA p.rows.length T L + 3) (HP.out.keep hW) (ha.rats hD (Nat.le_refl _) (by unfold maxLen; omega)) (by omega) (by omega))
  have hlz := leastS_sz (c := listTo p.vars.length fun i => ((p.v i).co : Rat) - combA p y i) hv (atQ_listTo_sz hD (by omega))
  have HAd := Lib.hid (fun W u u' q (hu : IsRat W u (combB p y)) (hu' : IsRat W u' q) (hq : Sz q (1 + p.vars.length * (sizeA p.rows.length T L + 3 + 3))) => radd_any W u u' _ q (1 + p.vars.length * (sizeA p.rows.length T L + 3 + 3) + (1 + p.rows.length * (L + 3))) (hu.reads (hB.mono (by omega))) (hu'.reads (hq.mono (by omega))) (by omega) (by omega))
  have HQ := Lib.hid (show boundQ p y = if validB p && signedB p y then (leastQ p (listTo p.vars.length fun i => ((p.v i).co : Rat) - combA p y i)).map (combB p y + ·) else none from rfl)
  have HLz : Hid (∀ q, leastQ p (listTo p.vars.length fun i => ((p.v i).co : Rat) - combA p y i) = some q → Sz q (1 + p.vars.length * (sizeA p.rows.length T L + 3 + 3))) := Lib.hid (fun q hq => by
    obtain ⟨_, _, e⟩ := least_some hq
    rw [e]; exact hlz)
  clear hv hr hy hyz hA hB hD hlz HP hs r1 r2 r4 r5 r6 r7 r8 r9 h1
  obtain ⟨n, hn'⟩ : ∃ n, p.vars.length = n := ⟨_, rfl⟩
  rw [hn'] at hn r3 HVal HSig HCom HEa HLa HAd HQ HLz ⊢
  clear hn'
  obtain ⟨m, hm'⟩ : ∃ m, p.rows.length = m := ⟨_, rfl⟩
  rw [hm'] at hrn HVal HSig HCom HEa HLa HAd HLz ⊢
  clear hm'
  generalize (1 + n * (sizeA m T L + 3 + 3)) = szl at *
  obtain ⟨f, hf⟩ : ∃ f, (fun i => ((p.v i).co : Rat) - combA p y i) = f := ⟨_, rfl⟩
  rw [hf] at HEa HLa HQ HLz
  clear hf
  generalize leastQ p (listTo n f) = lq at *
  obtain ⟨b0, b1⟩ : blk ((w.alloc (.cells #[.slice vo n vc, .slice ro m rc] 25)).alloc (.cells #[.bool false, .slice none 0 0, .slice none 0 0] 31)) w.heap.size = some (.cells #[.slice vo n vc, .slice ro m rc] 25 (0, 0)) ∧ BoxR ((w.alloc (.cells #[.slice vo n vc, .slice ro m rc] 25)).alloc (.cells #[.bool false, .slice none 0 0, .slice none 0 0] 31)) (w.heap.size + 1) false (.slice none 0 0) (.slice none 0 0) := by
    refine ⟨(blk_alloc_past _ _ _ (by simp)).trans (blk_alloc_at _ _), ?_⟩
    have := boxR_new (W := w.alloc (.cells #[.slice vo n vc, .slice ro m rc] 25)) rfl false none 0 0 none 0 0
    rwa [World.size_alloc] at this
  have HB := Lib.hid (And.intro b0 (And.intro b1 (((Ext.refl (fun _ => False) w).alloc (.cells #[.slice vo n vc, .slice ro m rc] 25)).alloc (.cells #[.bool false, .slice none 0 0, .slice none 0 0] 31))))
  clear b0 b1
  go_enter Tryz.func23, Tryz.ntmps23
  go_upto_region 1 with fail
  generalize hw1 : (w.alloc (.cells #[.slice vo n vc, .slice ro m rc] 25)).alloc (.cells #[.bool false, .slice none 0 0, .slice none 0 0] 31) = w1 at *
  clear hw1
  obtain ⟨pb, hpb⟩ : ∃ pb, w.heap.size = pb := ⟨_, rfl⟩
  have hpw : w.heap.size ≤ pb := Nat.le_of_eq hpb
  rw [hpb] at HB ⊢
  clear hpb
  have z0 := cellq HB.out.1 0 rfl
  have z1 := cellq HB.out.1 1 rfl
  go_wp2_with fail
  refine (HVal.out w1 HB.out.2.2).mono ?_
  rintro r2 w2 ⟨rfl, hx2⟩
  have y0 := cell_keep z0 hx2
  have y1 := cell_keep z1 hx2
  have HX2 := Lib.hid hx2
  clear hx2 z0 z1
  cases hvb : validB p with
  | false =>
    rw [hvb] at HQ
    clear hvb
    have hbr := HB.out.2.1.keep HX2.out
    obtain ⟨d0, d1, d2, d3, d4, d5⟩ := hbr.facts
    have HPut := Lib.hid (hbr.put (neg := false) (no_int none 0 0) (no_int none 0 0))
    clear hbr
    go_wp2
    generalize (((w2.setCell ⟨pb + 1, 0, none⟩ (.bool false)).setCell ⟨pb + 1, 1, none⟩ (.slice none 0 0)).setCell ⟨pb + 1, 2, none⟩ (.slice none 0 0)) = w9 at *
    obtain ⟨g0, g1, g2, _⟩ := HPut.out.box.facts
    refine bodyPost_ret (v := .tuple #[.agg #[.bool false, .slice none 0 0, .slice none 0 0], .bool false]) (by simp [results, Tryz.results23, go_sem, g0, g1, g2]) rfl ⟨?_, ?_⟩
    · exact (HB.out.2.2.trans HX2.out).own HPut.out.ext (fun k e => by omega)
    · rw [HQ.out]
      exact ⟨_, rfl, IsRat.zero _⟩
  | true =>
    rw [hvb] at HQ
    clear hvb
    go_wp2_with fail
    refine (HSig.out w2 (HB.out.2.2.trans HX2.out)).mono ?_
    rintro r3' w3 ⟨rfl, hx3⟩
    have hx13 := HX2.out.trans hx3
    have hbr := HB.out.2.1.keep hx13
    have hpb3 := blk_keep HB.out.1 hx13
    have HB3 := Lib.hid (And.intro hpb3 (And.intro hbr (HB.out.2.2.trans hx13)))
    clear hbr hpb3 hx13 hx3 HX2 y0 y1 HB
    cases hsb : signedB p y with
    | false =>
      rw [hsb] at HQ
      clear hsb
      obtain ⟨d0, d1, d2, d3, d4, d5⟩ := HB3.out.2.1.facts
      have HPut := Lib.hid (HB3.out.2.1.put (neg := false) (no_int none 0 0) (no_int none 0 0))
      go_wp2
      generalize (((w3.setCell ⟨pb + 1, 0, none⟩ (.bool false)).setCell ⟨pb + 1, 1, none⟩ (.slice none 0 0)).setCell ⟨pb + 1, 2, none⟩ (.slice none 0 0)) = w9 at *
      obtain ⟨g0, g1, g2, _⟩ := HPut.out.box.facts
      refine bodyPost_ret (v := .tuple #[.agg #[.bool false, .slice none 0 0, .slice none 0 0], .bool false]) (by simp [results, Tryz.results23, go_sem, g0, g1, g2]) rfl ⟨?_, ?_⟩
      · exact (HB3.out.2.2).own HPut.out.ext (fun k e => by omega)
      · rw [HQ.out]
        exact ⟨_, rfl, IsRat.zero _⟩
    | true =>
      rw [hsb] at HQ
      clear hsb
      have z0 := cellq HB3.out.1 0 rfl
      have z1 := cellq HB3.out.1 1 rfl
      go_wp2_with fail
      refine (HCom.out w3 HB3.out.2.2).mono ?_
      rintro r5 w5 ⟨B, cv, rfl, hBw, hA5, hb5, hx5⟩
      obtain ⟨cn, ca, cl, cc, ca2, cl2, cc2, rfl⟩ := hb5.shape
      clear z0 z1
      have hxa := (Ext.refl (fun _ => False) w5).alloc (.cells #[.slice (some ⟨B, 0, none⟩) n n] 32)
      have hxb := hxa.alloc (.cells #[.bool cn, .slice ca cl cc, .slice ca2 cl2 cc2] 31)
      have hab : blk ((w5.alloc (.cells #[.slice (some ⟨B, 0, none⟩) n n] 32)).alloc (.cells #[.bool cn, .slice ca cl cc, .slice ca2 cl2 cc2] 31)) w5.heap.size = some (.cells #[.slice (some ⟨B, 0, none⟩) n n] 32 (0, 0)) := (blk_alloc_past _ _ _ (by simp)).trans (blk_alloc_at _ _)
      have hbb := boxR_new (W := w5.alloc (.cells #[.slice (some ⟨B, 0, none⟩) n n] 32)) rfl cn ca cl cc ca2 cl2 cc2
      rw [World.size_alloc] at hbb
      have hp5 : pb + 1 < w5.heap.size := by have := HB3.out.2.1.lt; have := hx5.size; omega
      have HB4 := Lib.hid (And.intro (blk_keep HB3.out.1 (hx5.trans hxb)) (And.intro (HB3.out.2.1.keep (hx5.trans hxb)) (And.intro hab (And.intro hbb (And.intro (hb5.keep hxb) (And.intro (hA5.keep hxb) (HB3.out.2.2.trans (hx5.trans hxb))))))))
      clear hxa hxb hab hbb hA5 hb5 hx5 HB3
      go_upto_region 4 with fail
      generalize hw4 : (w5.alloc (.cells #[.slice (some ⟨B, 0, none⟩) n n] 32)).alloc (.cells #[.bool cn, .slice ca cl cc, .slice ca2 cl2 cc2] 31) = w4 at *
      obtain ⟨ab, hab⟩ : ∃ ab, w5.heap.size = ab := ⟨_, rfl⟩
      have hab4 : ab + 1 < w4.heap.size := by rw [← hw4]; simp; omega
      rw [hab] at HB4 hp5 ⊢
      clear hab hw4
      have hS : S3 pb pb ab 0 1 0 (.slice vo n vc) (.slice ro m rc) (.slice (some ⟨B, 0, none⟩) n n) w4 := ⟨cellq HB4.out.1 0 rfl, cellq HB4.out.1 1 rfl, cellq HB4.out.2.2.1 0 rfl⟩
      have HX4 := Lib.hid HB4.out.2.2.2.2.2.2
      have HE := Lib.hid (fun W (hW : Ext (fun _ => False) w4 W) => HEa.out W (HX4.out.trans hW) pb ab B (blk_keep HB4.out.1 hW) (blk_keep HB4.out.2.2.1 hW) (HB4.out.2.2.2.2.2.1.keep hW))
      have HLs := Lib.hid (fun W (hW : Ext (fun _ => False) w4 W) B' ha => HLa.out W (HX4.out.trans hW) B' ha)
      go_cut [8, 9] (fun v8 v9 wx => ∃ bb ng a1 k1 c1 a2 k2 c2, v8 = .pointer (some ⟨bb, 0, none⟩) ∧ v9 = .bool lq.isSome ∧ BoxR wx bb ng (.slice a1 k1 c1) (.slice a2 k2 c2) ∧ IsRat wx (.agg #[.bool ng, .slice a1 k1 c1, .slice a2 k2 c2]) (lq.getD 0) ∧ Ext (fun _ => False) w4 wx)
      case first =>
        refine wp_region_held_drew (S := (S3 pb pb ab 0 1 0 (.slice vo n vc) (.slice ro m rc) (.slice (some ⟨B, 0, none⟩) n n))) (by kernel_rfl) (hS.drew) (fun hHeld => ?_)
        have hxd := (Ext.refl (fun _ => False) w4).drew
        generalize w4.drew = wd at *
        refine held_take 0 (v := ?_) rfl (by kernel_rfl) (by kernel_rfl) (by kernel_rfl) (fun _ _ _ h => h) (by rfl) ?_ (by assumption) ?_
        rotate_left
        · ((intro w hSw; (try dsimp only at hSw); go_simp) <;> with_reducible rfl)
        (try simp only [Act.put, List.setIfInBounds_toArray, List.set_cons_zero, List.set_cons_succ])
        refine held_take 1 (v := ?_) rfl (by kernel_rfl) (by kernel_rfl) (by kernel_rfl) (fun _ _ _ h => h) (by rfl) ?_ (by assumption) ?_
        rotate_left
        · ((intro w hSw; (try dsimp only at hSw); go_simp) <;> with_reducible rfl)
        (try simp only [Act.put, List.setIfInBounds_toArray, List.set_cons_zero, List.set_cons_succ])
        refine held_take 2 (v := ?_) rfl (by kernel_rfl) (by kernel_rfl) (by kernel_rfl) (fun _ _ _ h => h) (by rfl) ?_ (by assumption) ?_
        rotate_left
        · ((intro w hSw; (try dsimp only at hSw); go_simp) <;> with_reducible rfl)
        (try simp only [Act.put, List.setIfInBounds_toArray, List.set_cons_zero, List.set_cons_succ])
        refine held_take 3 (v := ?_) rfl (by kernel_rfl) (by kernel_rfl) (by kernel_rfl) (fun _ _ _ h => h) (by rfl) ?_ (by assumption) ?_
        rotate_left
        · ((intro w hSw; (try dsimp only at hSw); go_simp) <;> with_reducible rfl)
        (try simp only [Act.put, List.setIfInBounds_toArray, List.set_cons_zero, List.set_cons_succ])
        refine held_two 4 9 rfl rfl (by kernel_rfl) (fun K hK => ?_) (fun K hK => ?_)
        · go_simp
          go_at_call 63
          (with_reducible refine (HE.out _ hxd).mono ?_)
          rintro q1 w10 ⟨B2, rfl, hB2, hArr1, hx1⟩
          have hX1 := hxd.trans hx1
          have hL1 := HLs.out _ hX1 B2 hArr1
          refine hK.out _ _ (hS.keep hX1) (fun hHeld => ?_)
          clear hK K
          (try simp only [Act.put, List.setIfInBounds_toArray, List.set_cons_zero, List.set_cons_succ])
          refine held_two 5 9 rfl rfl (by kernel_rfl) (fun K hK => ?_) (fun K hK => ?_)
          · go_simp
            go_at_call 62
            have hL2b := HLs.out _ hX1 B2 hArr1
            (with_reducible refine hL2b.mono ?_)
            rintro q2 w20 hopt2
            obtain ⟨n12, a12, l12, c12, a12', l12', c12', rfl, hRat2, hx2⟩ := OptPost.open hopt2
            have hX2 := hX1.trans hx2
            refine hK.out _ _ (hS.keep hX2) (fun hHeld => ?_)
            clear hK K
            (try simp only [Act.put, List.setIfInBounds_toArray, List.set_cons_zero, List.set_cons_succ])
            refine held_take 6 (v := ?_) rfl (by kernel_rfl) (by kernel_rfl) (by kernel_rfl) (fun _ _ _ h => h) (by rfl) ?_ (by assumption) ?_
            rotate_left
            · ((intro w hSw; (try dsimp only at hSw); go_simp) <;> with_reducible rfl)
            (try simp only [Act.put, List.setIfInBounds_toArray, List.set_cons_zero, List.set_cons_succ])
            refine held_take 7 (v := ?_) rfl (by kernel_rfl) (by kernel_rfl) (by kernel_rfl) (fun _ _ _ h => h) (by rfl) ?_ (by assumption) ?_
            rotate_left
            · ((intro w hSw; (try dsimp only at hSw); go_simp) <;> with_reducible rfl)
            (try simp only [Act.put, List.setIfInBounds_toArray, List.set_cons_zero, List.set_cons_succ])
            refine held_take 8 (v := ?_) rfl (by kernel_rfl) (by kernel_rfl) (by kernel_rfl) (fun _ _ _ h => h) (by rfl) ?_ (by assumption) ?_
            rotate_left
            · ((intro w hSw; (try dsimp only at hSw); go_simp) <;> with_reducible rfl)
            (try simp only [Act.put, List.setIfInBounds_toArray, List.set_cons_zero, List.set_cons_succ])
            refine held_step 9 rfl (by kernel_rfl) (fun K hK => ?_)
            go_simp
            obtain ⟨bb, hbb⟩ : ∃ bb, w20.heap.size = bb := ⟨_, rfl⟩
            have hbbs : w4.heap.size ≤ bb := by have := hX2.size; omega
            have hbox3 := boxR_new (W := w20) rfl false none 0 0 none 0 0
            have hX3 := hX2.alloc (.cells #[.bool false, .slice none 0 0, .slice none 0 0] 31)
            have hRat3 := hRat2.keep ((Ext.refl (fun _ => False) w20).alloc (.cells #[.bool false, .slice none 0 0, .slice none 0 0] 31))
            rw [hbb] at hbox3 ⊢
            clear hbb
            generalize w20.alloc (.cells #[.bool false, .slice none 0 0, .slice none 0 0] 31) = wa at *
            refine hK.out _ _ (hS.keep hX3) (fun hHeld => ?_)
            clear hK K
            (try simp only [Act.put, List.setIfInBounds_toArray, List.set_cons_zero, List.set_cons_succ])
            refine held_step 10 rfl (by kernel_rfl) (fun K hK => ?_)
            have np : ¬ pb = bb := by omega
            have na : ¬ ab = bb := by omega
            obtain ⟨d0, d1, d2, d3, d4, d5⟩ := hbox3.facts
            go_simp
            refine hK.out _ _ (S3.set (S3.set (S3.set (hS.keep hX3) ⟨bb, 0, none⟩ _ np np na) ⟨bb, 1, none⟩ _ np np na) ⟨bb, 2, none⟩ _ np np na) (fun hHeld => ?_)
            clear hK K
            (try simp only [Act.put, List.setIfInBounds_toArray, List.set_cons_zero, List.set_cons_succ])
            refine held_take 11 (v := ?_) rfl (by kernel_rfl) (by kernel_rfl) (by kernel_rfl) (fun _ _ _ h => h) (by rfl) ?_ (by assumption) ?_
            rotate_left
            · ((intro w hSw; (try dsimp only at hSw); go_simp) <;> with_reducible rfl)
            (try simp only [Act.put, List.setIfInBounds_toArray, List.set_cons_zero, List.set_cons_succ])
            refine wpAnyH_done (by kernel_rfl) ?_ _
            have hput := hbox3.put (neg := n12) (no_int a12 l12 c12) (no_int a12' l12' c12')
            have HFin := Lib.hid (And.intro hput.box (And.intro (hput.rat hRat3) (hX3.own hput.ext (fun k e => by omega))))
            clear hput hS hHeld hbbs
            go_wp2
            go_meet
            exact ⟨bb, n12, a12, l12, c12, a12', l12', c12', rfl, rfl, HFin.out.1, HFin.out.2.1, HFin.out.2.2⟩
          · go_simp
            obtain ⟨bb, hbb⟩ : ∃ bb, w10.heap.size = bb := ⟨_, rfl⟩
            have hbbs : w4.heap.size ≤ bb := by have := hX1.size; omega
            have hbox2 := boxR_new (W := w10) rfl false none 0 0 none 0 0
            have hX2 := hX1.alloc (.cells #[.bool false, .slice none 0 0, .slice none 0 0] 31)
            have hArr2 := hArr1.keep ((Ext.refl (fun _ => False) w10).alloc (.cells #[.bool false, .slice none 0 0, .slice none 0 0] 31))
            rw [hbb] at hbox2 ⊢
            clear hbb
            generalize w10.alloc (.cells #[.bool false, .slice none 0 0, .slice none 0 0] 31) = wa at *
            refine hK.out _ _ (hS.keep hX2) (fun hHeld => ?_)
            clear hK K
            (try simp only [Act.put, List.setIfInBounds_toArray, List.set_cons_zero, List.set_cons_succ])
            refine held_step 5 rfl (by kernel_rfl) (fun K hK => ?_)
            go_simp
            go_at_call 62
            have hL3b := HLs.out _ hX2 B2 hArr2
            (with_reducible refine hL3b.mono ?_)
            rintro q3 w30 hopt3
            obtain ⟨n12, a12, l12, c12, a12', l12', c12', rfl, hRat3, hx3⟩ := OptPost.open hopt3
            have hX3 := hX2.trans hx3
            have hbox3 := hbox2.keep hx3
            refine hK.out _ _ (hS.keep hX3) (fun hHeld => ?_)
            clear hK K
            (try simp only [Act.put, List.setIfInBounds_toArray, List.set_cons_zero, List.set_cons_succ])
            refine held_take 6 (v := ?_) rfl (by kernel_rfl) (by kernel_rfl) (by kernel_rfl) (fun _ _ _ h => h) (by rfl) ?_ (by assumption) ?_
            rotate_left
            · ((intro w hSw; (try dsimp only at hSw); go_simp) <;> with_reducible rfl)
            (try simp only [Act.put, List.setIfInBounds_toArray, List.set_cons_zero, List.set_cons_succ])
            refine held_take 7 (v := ?_) rfl (by kernel_rfl) (by kernel_rfl) (by kernel_rfl) (fun _ _ _ h => h) (by rfl) ?_ (by assumption) ?_
            rotate_left
            · ((intro w hSw; (try dsimp only at hSw); go_simp) <;> with_reducible rfl)
            (try simp only [Act.put, List.setIfInBounds_toArray, List.set_cons_zero, List.set_cons_succ])
            refine held_take 8 (v := ?_) rfl (by kernel_rfl) (by kernel_rfl) (by kernel_rfl) (fun _ _ _ h => h) (by rfl) ?_ (by assumption) ?_
            rotate_left
            · ((intro w hSw; (try dsimp only at hSw); go_simp) <;> with_reducible rfl)
            (try simp only [Act.put, List.setIfInBounds_toArray, List.set_cons_zero, List.set_cons_succ])
            refine held_step 10 rfl (by kernel_rfl) (fun K hK => ?_)
            have np : ¬ pb = bb := by omega
            have na : ¬ ab = bb := by omega
            obtain ⟨d0, d1, d2, d3, d4, d5⟩ := hbox3.facts
            go_simp
            refine hK.out _ _ (S3.set (S3.set (S3.set (hS.keep hX3) ⟨bb, 0, none⟩ _ np np na) ⟨bb, 1, none⟩ _ np np na) ⟨bb, 2, none⟩ _ np np na) (fun hHeld => ?_)
            clear hK K
            (try simp only [Act.put, List.setIfInBounds_toArray, List.set_cons_zero, List.set_cons_succ])
            refine held_take 11 (v := ?_) rfl (by kernel_rfl) (by kernel_rfl) (by kernel_rfl) (fun _ _ _ h => h) (by rfl) ?_ (by assumption) ?_
            rotate_left
            · ((intro w hSw; (try dsimp only at hSw); go_simp) <;> with_reducible rfl)
            (try simp only [Act.put, List.setIfInBounds_toArray, List.set_cons_zero, List.set_cons_succ])
            refine wpAnyH_done (by kernel_rfl) ?_ _
            have hput := hbox3.put (neg := n12) (no_int a12 l12 c12) (no_int a12' l12' c12')
            have HFin := Lib.hid (And.intro hput.box (And.intro (hput.rat hRat3) (hX3.own hput.ext (fun k e => by omega))))
            clear hput hS hHeld hbbs
            go_wp2
            go_meet
            exact ⟨bb, n12, a12, l12, c12, a12', l12', c12', rfl, rfl, HFin.out.1, HFin.out.2.1, HFin.out.2.2⟩
        · go_simp
          obtain ⟨bb, hbb⟩ : ∃ bb, wd.heap.size = bb := ⟨_, rfl⟩
          have hbbs : w4.heap.size ≤ bb := by have := hxd.size; omega
          have hbox1 := boxR_new (W := wd) rfl false none 0 0 none 0 0
          have hX1 := hxd.alloc (.cells #[.bool false, .slice none 0 0, .slice none 0 0] 31)
          rw [hbb] at hbox1 ⊢
          clear hbb
          generalize wd.alloc (.cells #[.bool false, .slice none 0 0, .slice none 0 0] 31) = wa at *
          refine hK.out _ _ (hS.keep hX1) (fun hHeld => ?_)
          clear hK K
          (try simp only [Act.put, List.setIfInBounds_toArray, List.set_cons_zero, List.set_cons_succ])
          refine held_step 4 rfl (by kernel_rfl) (fun K hK => ?_)
          go_simp
          go_at_call 63
          (with_reducible refine (HE.out _ hX1).mono ?_)
          rintro q2 w20 ⟨B2, rfl, hB2, hArr2, hx2⟩
          have hX2 := hX1.trans hx2
          have hL2 := HLs.out _ hX2 B2 hArr2
          have hbox2 := hbox1.keep hx2
          refine hK.out _ _ (hS.keep hX2) (fun hHeld => ?_)
          clear hK K
          (try simp only [Act.put, List.setIfInBounds_toArray, List.set_cons_zero, List.set_cons_succ])
          refine held_step 5 rfl (by kernel_rfl) (fun K hK => ?_)
          go_simp
          go_at_call 62
          have hL3b := HLs.out _ hX2 B2 hArr2
          (with_reducible refine hL3b.mono ?_)
          rintro q3 w30 hopt3
          obtain ⟨n12, a12, l12, c12, a12', l12', c12', rfl, hRat3, hx3⟩ := OptPost.open hopt3
          have hX3 := hX2.trans hx3
          have hbox3 := hbox2.keep hx3
          refine hK.out _ _ (hS.keep hX3) (fun hHeld => ?_)
          clear hK K
          (try simp only [Act.put, List.setIfInBounds_toArray, List.set_cons_zero, List.set_cons_succ])
          refine held_take 6 (v := ?_) rfl (by kernel_rfl) (by kernel_rfl) (by kernel_rfl) (fun _ _ _ h => h) (by rfl) ?_ (by assumption) ?_
          rotate_left
          · ((intro w hSw; (try dsimp only at hSw); go_simp) <;> with_reducible rfl)
          (try simp only [Act.put, List.setIfInBounds_toArray, List.set_cons_zero, List.set_cons_succ])
          refine held_take 7 (v := ?_) rfl (by kernel_rfl) (by kernel_rfl) (by kernel_rfl) (fun _ _ _ h => h) (by rfl) ?_ (by assumption) ?_
          rotate_left
          · ((intro w hSw; (try dsimp only at hSw); go_simp) <;> with_reducible rfl)
          (try simp only [Act.put, List.setIfInBounds_toArray, List.set_cons_zero, List.set_cons_succ])
          refine held_take 8 (v := ?_) rfl (by kernel_rfl) (by kernel_rfl) (by kernel_rfl) (fun _ _ _ h => h) (by rfl) ?_ (by assumption) ?_
          rotate_left
          · ((intro w hSw; (try dsimp only at hSw); go_simp) <;> with_reducible rfl)
          (try simp only [Act.put, List.setIfInBounds_toArray, List.set_cons_zero, List.set_cons_succ])
          refine held_step 10 rfl (by kernel_rfl) (fun K hK => ?_)
          have np : ¬ pb = bb := by omega
          have na : ¬ ab = bb := by omega
          obtain ⟨d0, d1, d2, d3, d4, d5⟩ := hbox3.facts
          go_simp
          refine hK.out _ _ (S3.set (S3.set (S3.set (hS.keep hX3) ⟨bb, 0, none⟩ _ np np na) ⟨bb, 1, none⟩ _ np np na) ⟨bb, 2, none⟩ _ np np na) (fun hHeld => ?_)
          clear hK K
          (try simp only [Act.put, List.setIfInBounds_toArray, List.set_cons_zero, List.set_cons_succ])
          refine held_take 11 (v := ?_) rfl (by kernel_rfl) (by kernel_rfl) (by kernel_rfl) (fun _ _ _ h => h) (by rfl) ?_ (by assumption) ?_
          rotate_left
          · ((intro w hSw; (try dsimp only at hSw); go_simp) <;> with_reducible rfl)
          (try simp only [Act.put, List.setIfInBounds_toArray, List.set_cons_zero, List.set_cons_succ])
          refine wpAnyH_done (by kernel_rfl) ?_ _
          have hput := hbox3.put (neg := n12) (no_int a12 l12 c12) (no_int a12' l12' c12')
          have HFin := Lib.hid (And.intro hput.box (And.intro (hput.rat hRat3) (hX3.own hput.ext (fun k e => by omega))))
          clear hput hS hHeld hbbs
          go_wp2
          go_meet
          exact ⟨bb, n12, a12, l12, c12, a12', l12', c12', rfl, rfl, HFin.out.1, HFin.out.2.1, HFin.out.2.2⟩
      case rest =>
        clear hS HE HLs HEa HLa HCom HSig HVal
        obtain ⟨bb, ng, a1, k1, c1, a2, k2, c2, rfl, rfl, hbb, hlq, hx4⟩ := hcut
        have HB6 := Lib.hid (And.intro (HB4.out.2.1.keep hx4) (And.intro (HB4.out.2.2.2.1.keep hx4) (And.intro (HB4.out.2.2.2.2.1.keep hx4) (HX4.out.trans hx4))))
        have HL6 := Lib.hid (And.intro hbb hlq)
        clear hbb hlq hx4 HB4 HX4
        cases lq with
        | none =>
          obtain ⟨d0, d1, d2, d3, d4, d5⟩ := HB6.out.1.facts
          have HPut := Lib.hid (HB6.out.1.put (neg := false) (no_int none 0 0) (no_int none 0 0))
          rw [show (none : Option Rat).isSome = false from rfl]
          go_wp2
          generalize (((wc.setCell ⟨pb + 1, 0, none⟩ (.bool false)).setCell ⟨pb + 1, 1, none⟩ (.slice none 0 0)).setCell ⟨pb + 1, 2, none⟩ (.slice none 0 0)) = w9 at *
          obtain ⟨g0, g1, g2, _⟩ := HPut.out.box.facts
          refine bodyPost_ret (v := .tuple #[.agg #[.bool false, .slice none 0 0, .slice none 0 0], .bool false]) (by simp [results, Tryz.results23, go_sem, g0, g1, g2]) rfl ⟨?_, ?_⟩
          · exact (HB6.out.2.2.2).own HPut.out.ext (fun k e => by omega)
          · rw [HQ.out]
            exact ⟨_, rfl, IsRat.zero _⟩
        | some q =>
          have HA1 := Lib.hid (HAd.out wc _ _ q HB6.out.2.2.1 HL6.out.2 (HLz.out q rfl))
          obtain ⟨x0, x1, x2, -⟩ := HB6.out.2.1.facts
          obtain ⟨t0, t1, t2, -⟩ := HL6.out.1.facts
          rw [show (some q : Option Rat).isSome = true from rfl]
          go_wp2_with fail
          refine HA1.out.mono ?_
          rintro r7 w7 ⟨v7, rfl, h7, hx7⟩
          obtain ⟨ng7, sa, sn, sc, ta, tn, tc, rfl⟩ := h7.shape
          have hbr := HB6.out.1.keep hx7
          obtain ⟨d0, d1, d2, d3, d4, d5⟩ := hbr.facts
          have hp := hbr.put (neg := ng7) (no_int sa sn sc) (no_int ta tn tc)
          have HPut := Lib.hid (And.intro hp (And.intro (hp.rat h7) ((HB6.out.2.2.2.trans hx7).own hp.ext (fun k e => by omega))))
          clear hp hbr h7 hx7 x0 x1 x2 t0 t1 t2 HA1
          go_wp2
          generalize (((w7.setCell ⟨pb + 1, 0, none⟩ (.bool ng7)).setCell ⟨pb + 1, 1, none⟩ (.slice sa sn sc)).setCell ⟨pb + 1, 2, none⟩ (.slice ta tn tc)) = w9 at *
          obtain ⟨g0, g1, g2, _⟩ := HPut.out.1.box.facts
          refine bodyPost_ret (v := .tuple #[.agg #[.bool ng7, .slice sa sn sc, .slice ta tn tc], .bool true]) (by simp [results, Tryz.results23, go_sem, g0, g1, g2]) rfl ⟨HPut.out.2.2, ?_⟩
          rw [HQ.out]
          exact ⟨_, rfl, HPut.out.2.1⟩
end Go.Proofs.YtbgienfcmdgaaaaGreat
/-
  Package duality: Infeasible. Conditions: the arguments read as programs, multipliers; the numbers are small.
-/
namespace Go.Proofs.YtbgienfcmdgaaaaGreat
open Go.RowKit Go.MapKept
open Go.ChangeMaps (setBlock)

/-- is there a value above a bound? -/
def moreB (q : Option Rat) (c : Rat) : Bool := match q with | some l => decide (c < l) | none => false
/-- nothing is held -/
def S0 (_ : World) : Prop := True
set_option maxRecDepth 100000 in
set_option maxHeartbeats 8000000 in
theorem Infeasible_any (w : World) (pv yv : Value) (p : ProgV) (y : List Rat) (L T : Nat) (hp : IsPrg w pv p) (hy : Rats w yv y L) (hs : Small p T L) :
    Calls Tryz.prog 24 #[pv, yv] w (BoolPost w (infB p y)) := by
  have h1 := hs.room.one
  obtain ⟨r1, r2, r3, r4, r5, r6, r7, r8, r9⟩ := hs.room.all
  have HP := Lib.hid hp
  obtain ⟨vv, rv, rfl, hv, hr⟩ := hp
  obtain ⟨vo, vc, rfl, -, hn, -⟩ := hv.shape
  obtain ⟨ro, rc, rfl, -, hrn, -⟩ := hr.shape
  have HV := Lib.hid hv
  have HVal := Lib.hid (fun W (hW : Ext (fun _ => False) w W) => Valid_any W _ p (HP.out.keep hW))
  have HSig := Lib.hid (fun W (hW : Ext (fun _ => False) w W) => Signed_any W _ _ p y L (HP.out.keep hW) (hy.keep hW) h1 (by omega))
  have HCom := Lib.hid (fun W (hW : Ext (fun _ => False) w W) => Combine_any W _ _ p y L T (HP.out.keep hW) (hy.keep hW) h1 hs.terms r1 r2 r3)
  have hyz := hy.sz h1
  have hA := combA_sz hr hyz hs.terms
  have hB := combB_sz hr hyz
  have hD : ∀ i, i < p.vars.length → Sz (-combA p y i) (sizeA p.rows.length T L + 3) := fun i hi => (hA i).neg.mono (by omega)
  have HEa := Lib.hid (fun W (hW : Ext (fun _ => False) w W) ab B (hab : blk W ab = some (.cells #[.slice (some ⟨B, 0, none⟩) p.vars.length p.vars.length] 32 (0, 0))) (ha : RArr W B p.vars.length (combA p y)) =>
    each_any W p.vars.length 68 #[.pointer (some ⟨ab, 0, none⟩)] (fun i => -combA p y i) r3 (enters_of Tryz.func68 (by kernel_rfl) rfl)
      (fun W' hW' i hi => inf1_any W' ab B p.vars.length (combA p y) (sizeA p.rows.length T L + 3) (blk_keep hab hW') r3 (ha.keep hW') (by omega) (by omega) (fun j _ => (hA j).mono (by omega)) i hi))
  have HLa := Lib.hid (fun W (hW : Ext (fun _ => False) w W) B (ha : RArr W B p.vars.length (fun i => -combA p y i)) =>
    Least_any W _ _ p (listTo p.vars.length fun i => -combA p y i) (sizeA p.rows.length T L + 3) (HP.out.keep hW) (ha.rats hD (Nat.le_refl _) (by unfold maxLen; omega)) (by omega) (by omega))
  have hlz := leastS_sz (c := listTo p.vars.length fun i => -combA p y i) hv (atQ_listTo_sz hD (by omega))
  have HNa := Lib.hid (fun W u (hu : IsRat W u (combB p y)) => rneg_any W u _ (1 + p.rows.length * (L + 3)) (hu.reads hB) (by omega) (by omega))
  have HCa := Lib.hid (fun W u u' q (hu : IsRat W u q) (hu' : IsRat W u' (-combB p y)) (hq : Sz q (1 + p.vars.length * (sizeA p.rows.length T L + 3 + 3))) => rcmp_any W u u' q _ (1 + p.vars.length * (sizeA p.rows.length T L + 3 + 3) + (1 + p.rows.length * (L + 3))) (hu.reads (hq.mono (by omega))) (hu'.reads (hB.neg.mono (by omega))) (by omega) (by omega))
  have HQ := Lib.hid (show infB p y = (validB p && signedB p y && (emptyB p || moreB (leastQ p (listTo p.vars.length fun i => -combA p y i)) (-combB p y))) from rfl)
  have HEm := Lib.hid (show emptyB p = !allTo p.vars.length (fun i => (p.v i).op || decide ((p.v i).lo ≤ (p.v i).up)) from rfl)
  have HLz : Hid (∀ q, leastQ p (listTo p.vars.length fun i => -combA p y i) = some q → Sz q (1 + p.vars.length * (sizeA p.rows.length T L + 3 + 3))) := Lib.hid (fun q hq => by
    obtain ⟨_, _, e⟩ := least_some hq
    rw [e]; exact hlz)
  clear hv hr hy hyz hA hB hD hlz HP hs r1 r2 r4 r5 r6 r7 r8 r9 h1
  obtain ⟨n, hn'⟩ : ∃ n, p.vars.length = n := ⟨_, rfl⟩
  have HN := Lib.hid hn'
  rw [hn'] at hn r3 HV HVal HSig HCom HEa HLa HCa HQ HLz HEm ⊢
  clear hn'
  obtain ⟨m, hm'⟩ : ∃ m, p.rows.length = m := ⟨_, rfl⟩
  rw [hm'] at hrn HVal HSig HCom HLa HCa HLz ⊢
  clear hm'
  generalize (1 + n * (sizeA m T L + 3 + 3)) = szl at *
  obtain ⟨f, hf⟩ : ∃ f, (fun i => -combA p y i) = f := ⟨_, rfl⟩
  rw [hf] at HEa HLa HQ HLz
  clear hf
  generalize leastQ p (listTo n f) = lq at *
  obtain ⟨cB, hcB⟩ : ∃ cB, combB p y = cB := ⟨_, rfl⟩
  rw [hcB] at HCom HNa HCa HQ
  clear hcB
  have HB := Lib.hid (And.intro (blk_alloc_at w (.cells #[.slice vo n vc, .slice ro m rc] 25)) ((Ext.refl (fun _ => False) w).alloc (.cells #[.slice vo n vc, .slice ro m rc] 25)))
  go_enter Tryz.func24, Tryz.ntmps24
  go_upto_region 1 with fail
  generalize hw1 : w.alloc (.cells #[.slice vo n vc, .slice ro m rc] 25) = w1 at *
  clear hw1
  obtain ⟨pb, hpb⟩ : ∃ pb, w.heap.size = pb := ⟨_, rfl⟩
  have hpw : w.heap.size ≤ pb := Nat.le_of_eq hpb
  rw [hpb] at HB ⊢
  clear hpb
  have z0 := cellq HB.out.1 0 rfl
  have z1 := cellq HB.out.1 1 rfl
  go_wp2_with fail
  refine (HVal.out w1 HB.out.2).mono ?_
  rintro r2 w2 ⟨rfl, hx2⟩
  have y0 := cell_keep z0 hx2
  have y1 := cell_keep z1 hx2
  have HX2 := Lib.hid hx2
  clear hx2 z0 z1
  cases hvb : validB p with
  | false =>
    rw [hvb] at HQ
    clear hvb
    go_wp2
    go_ret
    exact ⟨ret_bool (by rw [HQ.out]; rfl), HB.out.2.trans HX2.out⟩
  | true =>
    rw [hvb] at HQ
    clear hvb
    go_wp2_with fail
    refine (HSig.out w2 (HB.out.2.trans HX2.out)).mono ?_
    rintro r3' w3 ⟨rfl, hx3⟩
    have hx13 := HX2.out.trans hx3
    have hpb3 := blk_keep HB.out.1 hx13
    have HB3 := Lib.hid (And.intro hpb3 (HB.out.2.trans hx13))
    clear hpb3 hx13 hx3 HX2 y0 y1 HB
    cases hsb : signedB p y with
    | false =>
      rw [hsb] at HQ
      clear hsb
      go_wp2
      go_ret
      exact ⟨ret_bool (by rw [HQ.out]; rfl), HB3.out.2⟩
    | true =>
      rw [hsb] at HQ
      clear hsb
      have z0 := cellq HB3.out.1 0 rfl
      go_wp2_with fail
      go_loopg [23] n (fun gg v23 wr => ∃ i : Nat, i ≤ n ∧ gg = n - i ∧ v23 = .int .i64 i ∧ allTo i (fun i => (p.v i).op || decide ((p.v i).lo ≤ (p.v i).up)) = true ∧ Ext (fun _ => False) w3 wr)
      case atStart => exact ⟨0, Nat.zero_le _, rfl, rfl, rfl, Ext.refl _ _⟩
      case round =>
        clear z0
        obtain ⟨i, hi, rfl, rfl, hall, hx⟩ := hrel
        have HX := Lib.hid (And.intro hall hx)
        clear hall hx
        by_cases hin : i < n
        · have i0 : (i : Int) < (n : Int) := by omega
          obtain ⟨b, off, rfl, -, e0, e1, e2, e3, e4, -⟩ := (HV.out.keep (HB3.out.2.trans HX.out.2)).atp i (by rw [HN.out]; exact hin)
          have HBV := Lib.hid (And.intro (BoxV.new wr (p.v i)) ((Ext.refl (fun _ => False) wr).alloc (.cells #[.int .i64 (p.v i).lo, .int .i64 (p.v i).up, .bool (p.v i).op, .bool (p.v i).ig, .int .i64 (p.v i).co] 63)))
          have HF : Hid (∀ b, ((p.v i).op || decide ((p.v i).lo ≤ (p.v i).up)) = b → (fun i => (p.v i).op || decide ((p.v i).lo ≤ (p.v i).up)) i = b) := Lib.hid (fun b h => h)
          go_upto_region 6 with fail
          generalize hw2 : wr.alloc (.cells #[.int .i64 (p.v i).lo, .int .i64 (p.v i).up, .bool (p.v i).op, .bool (p.v i).ig, .int .i64 (p.v i).co] 63) = w5 at *
          clear hw2 e0 e1 e2 e3 e4
          obtain ⟨vb, hvb⟩ : ∃ vb, wr.heap.size = vb := ⟨_, rfl⟩
          rw [hvb] at HBV ⊢
          clear hvb
          obtain ⟨f0, f1, f2, -, -⟩ := HBV.out.1.facts
          have HE := Lib.hid ((HB3.out.2.trans HX.out.2).trans HBV.out.2)
          have HE3 := Lib.hid (HX.out.2.trans HBV.out.2)
          clear HBV
          generalize (p.v i).lo = lo at *
          generalize (p.v i).up = up at *
          generalize (p.v i).op = o at *
          cases o with
          | false =>
            by_cases hlu : up < lo
            · go_wp2
              go_ret
              refine ⟨ret_bool ?_, HE.out⟩
              rw [HQ.out, HEm.out, allTo_false (i := i) hin (HF.out false (by rw [decide_eq_false (by omega)]; rfl))]
              rfl
            · have HFt := Lib.hid (HF.out true (by rw [decide_eq_true (p := (lo ≤ up)) (by omega)]; rfl))
              clear HF
              go_wp2
              go_roundg (n - (i + 1))
              case measure => omega
              case rel => exact ⟨i + 1, by omega, rfl, by go_num, allTo_next HX.out.1 HFt.out, HE3.out⟩
          | true =>
            have HFt := Lib.hid (HF.out true rfl)
            clear HF
            go_wp2
            go_roundg (n - (i + 1))
            case measure => omega
            case rel => exact ⟨i + 1, by omega, rfl, by go_num, allTo_next HX.out.1 HFt.out, HE3.out⟩
        · obtain rfl : i = n := by omega
          have HQ2 : Hid (infB p y = moreB lq (-cB)) := Lib.hid (by
            rw [HQ.out, HEm.out, HX.out.1]; rfl)
          have HBr := Lib.hid (And.intro (blk_keep HB3.out.1 HX.out.2) (HB3.out.2.trans HX.out.2))
          clear HQ HEm HX HB3
          have z0 := cellq HBr.out.1 0 rfl
          have z1 := cellq HBr.out.1 1 rfl
          go_wp2_with fail
          refine (HCom.out wr HBr.out.2).mono ?_
          rintro r5 w5 ⟨B, cv, rfl, hBw, hA5, hb5, hx5⟩
          obtain ⟨cn, ca, cl, cc, ca2, cl2, cc2, rfl⟩ := hb5.shape
          clear z0 z1
          have hxa := (Ext.refl (fun _ => False) w5).alloc (.cells #[.slice (some ⟨B, 0, none⟩) i i] 32)
          have hxb := hxa.alloc (.cells #[.bool cn, .slice ca cl cc, .slice ca2 cl2 cc2] 31)
          have hab : blk ((w5.alloc (.cells #[.slice (some ⟨B, 0, none⟩) i i] 32)).alloc (.cells #[.bool cn, .slice ca cl cc, .slice ca2 cl2 cc2] 31)) w5.heap.size = some (.cells #[.slice (some ⟨B, 0, none⟩) i i] 32 (0, 0)) := (blk_alloc_past _ _ _ (by simp)).trans (blk_alloc_at _ _)
          have hbb := boxR_new (W := w5.alloc (.cells #[.slice (some ⟨B, 0, none⟩) i i] 32)) rfl cn ca cl cc ca2 cl2 cc2
          rw [World.size_alloc] at hbb
          have hp5 : pb < w5.heap.size := by have := blk_lt HBr.out.1; have := hx5.size; omega
          have HB4 := Lib.hid (And.intro (blk_keep HBr.out.1 (hx5.trans hxb)) (And.intro hab (And.intro hbb (And.intro (hb5.keep hxb) (And.intro (hA5.keep hxb) (HBr.out.2.trans (hx5.trans hxb)))))))
          clear hxa hxb hab hbb hA5 hb5 hx5 HBr
          go_upto_region 10 with fail
          generalize hw4 : (w5.alloc (.cells #[.slice (some ⟨B, 0, none⟩) i i] 32)).alloc (.cells #[.bool cn, .slice ca cl cc, .slice ca2 cl2 cc2] 31) = w4 at *
          obtain ⟨ab, hab⟩ : ∃ ab, w5.heap.size = ab := ⟨_, rfl⟩
          have hab4 : ab + 1 < w4.heap.size := by rw [← hw4]; simp; omega
          rw [hab] at HB4 hp5 ⊢
          clear hab hw4
          have hS : S3 pb pb ab 0 1 0 (.slice vo i vc) (.slice ro m rc) (.slice (some ⟨B, 0, none⟩) i i) w4 := ⟨cellq HB4.out.1 0 rfl, cellq HB4.out.1 1 rfl, cellq HB4.out.2.1 0 rfl⟩
          have HX4 := Lib.hid HB4.out.2.2.2.2.2
          have HE := Lib.hid (fun W (hW : Ext (fun _ => False) w4 W) => HEa.out W (HX4.out.trans hW) ab B (blk_keep HB4.out.2.1 hW) (HB4.out.2.2.2.2.1.keep hW))
          have HLs := Lib.hid (fun W (hW : Ext (fun _ => False) w4 W) B' ha => HLa.out W (HX4.out.trans hW) B' ha)
          go_cut [9, 10] (fun v9 v10 wx => ∃ bb ng a1 k1 c1 a2 k2 c2, v9 = .pointer (some ⟨bb, 0, none⟩) ∧ v10 = .bool lq.isSome ∧ BoxR wx bb ng (.slice a1 k1 c1) (.slice a2 k2 c2) ∧ IsRat wx (.agg #[.bool ng, .slice a1 k1 c1, .slice a2 k2 c2]) (lq.getD 0) ∧ Ext (fun _ => False) w4 wx)
          case first =>
            refine wp_region_held_drew (S := (S3 pb pb ab 0 1 0 (.slice vo i vc) (.slice ro m rc) (.slice (some ⟨B, 0, none⟩) i i))) (by kernel_rfl) (hS.drew) (fun hHeld => ?_)
            have hxd := (Ext.refl (fun _ => False) w4).drew
            generalize w4.drew = wd at *
            refine held_take 0 (v := ?_) rfl (by kernel_rfl) (by kernel_rfl) (by kernel_rfl) (fun _ _ _ h => h) (by rfl) ?_ (by assumption) ?_
            rotate_left
            · ((intro w hSw; (try dsimp only at hSw); go_simp) <;> with_reducible rfl)
            (try simp only [Act.put, List.setIfInBounds_toArray, List.set_cons_zero, List.set_cons_succ])
            refine held_take 1 (v := ?_) rfl (by kernel_rfl) (by kernel_rfl) (by kernel_rfl) (fun _ _ _ h => h) (by rfl) ?_ (by assumption) ?_
            rotate_left
            · ((intro w hSw; (try dsimp only at hSw); go_simp) <;> with_reducible rfl)
            (try simp only [Act.put, List.setIfInBounds_toArray, List.set_cons_zero, List.set_cons_succ])
            refine held_take 2 (v := ?_) rfl (by kernel_rfl) (by kernel_rfl) (by kernel_rfl) (fun _ _ _ h => h) (by rfl) ?_ (by assumption) ?_
            rotate_left
            · ((intro w hSw; (try dsimp only at hSw); go_simp) <;> with_reducible rfl)
            (try simp only [Act.put, List.setIfInBounds_toArray, List.set_cons_zero, List.set_cons_succ])
            refine held_take 3 (v := ?_) rfl (by kernel_rfl) (by kernel_rfl) (by kernel_rfl) (fun _ _ _ h => h) (by rfl) ?_ (by assumption) ?_
            rotate_left
            · ((intro w hSw; (try dsimp only at hSw); go_simp) <;> with_reducible rfl)
            (try simp only [Act.put, List.setIfInBounds_toArray, List.set_cons_zero, List.set_cons_succ])
            refine held_two 4 9 rfl rfl (by kernel_rfl) (fun K hK => ?_) (fun K hK => ?_)
            · go_simp
              go_at_call 63
              (with_reducible refine (HE.out _ hxd).mono ?_)
              rintro q1 w10 ⟨B2, rfl, hB2, hArr1, hx1⟩
              have hX1 := hxd.trans hx1
              have hL1 := HLs.out _ hX1 B2 hArr1
              refine hK.out _ _ (hS.keep hX1) (fun hHeld => ?_)
              clear hK K
              (try simp only [Act.put, List.setIfInBounds_toArray, List.set_cons_zero, List.set_cons_succ])
              refine held_two 5 9 rfl rfl (by kernel_rfl) (fun K hK => ?_) (fun K hK => ?_)
              · go_simp
                go_at_call 62
                have hL2b := HLs.out _ hX1 B2 hArr1
                (with_reducible refine hL2b.mono ?_)
                rintro q2 w20 hopt2
                obtain ⟨n12, a12, l12, c12, a12', l12', c12', rfl, hRat2, hx2⟩ := OptPost.open hopt2
                have hX2 := hX1.trans hx2
                refine hK.out _ _ (hS.keep hX2) (fun hHeld => ?_)
                clear hK K
                (try simp only [Act.put, List.setIfInBounds_toArray, List.set_cons_zero, List.set_cons_succ])
                refine held_take 6 (v := ?_) rfl (by kernel_rfl) (by kernel_rfl) (by kernel_rfl) (fun _ _ _ h => h) (by rfl) ?_ (by assumption) ?_
                rotate_left
                · ((intro w hSw; (try dsimp only at hSw); go_simp) <;> with_reducible rfl)
                (try simp only [Act.put, List.setIfInBounds_toArray, List.set_cons_zero, List.set_cons_succ])
                refine held_take 7 (v := ?_) rfl (by kernel_rfl) (by kernel_rfl) (by kernel_rfl) (fun _ _ _ h => h) (by rfl) ?_ (by assumption) ?_
                rotate_left
                · ((intro w hSw; (try dsimp only at hSw); go_simp) <;> with_reducible rfl)
                (try simp only [Act.put, List.setIfInBounds_toArray, List.set_cons_zero, List.set_cons_succ])
                refine held_take 8 (v := ?_) rfl (by kernel_rfl) (by kernel_rfl) (by kernel_rfl) (fun _ _ _ h => h) (by rfl) ?_ (by assumption) ?_
                rotate_left
                · ((intro w hSw; (try dsimp only at hSw); go_simp) <;> with_reducible rfl)
                (try simp only [Act.put, List.setIfInBounds_toArray, List.set_cons_zero, List.set_cons_succ])
                refine held_step 9 rfl (by kernel_rfl) (fun K hK => ?_)
                go_simp
                obtain ⟨bb, hbb⟩ : ∃ bb, w20.heap.size = bb := ⟨_, rfl⟩
                have hbbs : w4.heap.size ≤ bb := by have := hX2.size; omega
                have hbox3 := boxR_new (W := w20) rfl false none 0 0 none 0 0
                have hX3 := hX2.alloc (.cells #[.bool false, .slice none 0 0, .slice none 0 0] 31)
                have hRat3 := hRat2.keep ((Ext.refl (fun _ => False) w20).alloc (.cells #[.bool false, .slice none 0 0, .slice none 0 0] 31))
                rw [hbb] at hbox3 ⊢
                clear hbb
                generalize w20.alloc (.cells #[.bool false, .slice none 0 0, .slice none 0 0] 31) = wa at *
                refine hK.out _ _ (hS.keep hX3) (fun hHeld => ?_)
                clear hK K
                (try simp only [Act.put, List.setIfInBounds_toArray, List.set_cons_zero, List.set_cons_succ])
                refine held_step 10 rfl (by kernel_rfl) (fun K hK => ?_)
                have np : ¬ pb = bb := by omega
                have na : ¬ ab = bb := by omega
                obtain ⟨d0, d1, d2, d3, d4, d5⟩ := hbox3.facts
                go_simp
                refine hK.out _ _ (S3.set (S3.set (S3.set (hS.keep hX3) ⟨bb, 0, none⟩ _ np np na) ⟨bb, 1, none⟩ _ np np na) ⟨bb, 2, none⟩ _ np np na) (fun hHeld => ?_)
                clear hK K
                (try simp only [Act.put, List.setIfInBounds_toArray, List.set_cons_zero, List.set_cons_succ])
                refine held_take 11 (v := ?_) rfl (by kernel_rfl) (by kernel_rfl) (by kernel_rfl) (fun _ _ _ h => h) (by rfl) ?_ (by assumption) ?_
                rotate_left
                · ((intro w hSw; (try dsimp only at hSw); go_simp) <;> with_reducible rfl)
                (try simp only [Act.put, List.setIfInBounds_toArray, List.set_cons_zero, List.set_cons_succ])
                refine wpAnyH_done (by kernel_rfl) ?_ _
                have hput := hbox3.put (neg := n12) (no_int a12 l12 c12) (no_int a12' l12' c12')
                have HFin := Lib.hid (And.intro hput.box (And.intro (hput.rat hRat3) (hX3.own hput.ext (fun k e => by omega))))
                clear hput hS hHeld hbbs
                go_wp2
                go_meet
                exact ⟨bb, n12, a12, l12, c12, a12', l12', c12', rfl, rfl, HFin.out.1, HFin.out.2.1, HFin.out.2.2⟩
              · go_simp
                obtain ⟨bb, hbb⟩ : ∃ bb, w10.heap.size = bb := ⟨_, rfl⟩
                have hbbs : w4.heap.size ≤ bb := by have := hX1.size; omega
                have hbox2 := boxR_new (W := w10) rfl false none 0 0 none 0 0
                have hX2 := hX1.alloc (.cells #[.bool false, .slice none 0 0, .slice none 0 0] 31)
                have hArr2 := hArr1.keep ((Ext.refl (fun _ => False) w10).alloc (.cells #[.bool false, .slice none 0 0, .slice none 0 0] 31))
                rw [hbb] at hbox2 ⊢
                clear hbb
                generalize w10.alloc (.cells #[.bool false, .slice none 0 0, .slice none 0 0] 31) = wa at *
                refine hK.out _ _ (hS.keep hX2) (fun hHeld => ?_)
                clear hK K
                (try simp only [Act.put, List.setIfInBounds_toArray, List.set_cons_zero, List.set_cons_succ])
                refine held_step 5 rfl (by kernel_rfl) (fun K hK => ?_)
                go_simp
                go_at_call 62
                have hL3b := HLs.out _ hX2 B2 hArr2
                (with_reducible refine hL3b.mono ?_)
                rintro q3 w30 hopt3
                obtain ⟨n12, a12, l12, c12, a12', l12', c12', rfl, hRat3, hx3⟩ := OptPost.open hopt3
                have hX3 := hX2.trans hx3
                have hbox3 := hbox2.keep hx3
                refine hK.out _ _ (hS.keep hX3) (fun hHeld => ?_)
                clear hK K
                (try simp only [Act.put, List.setIfInBounds_toArray, List.set_cons_zero, List.set_cons_succ])
                refine held_take 6 (v := ?_) rfl (by kernel_rfl) (by kernel_rfl) (by kernel_rfl) (fun _ _ _ h => h) (by rfl) ?_ (by assumption) ?_
                rotate_left
                · ((intro w hSw; (try dsimp only at hSw); go_simp) <;> with_reducible rfl)
                (try simp only [Act.put, List.setIfInBounds_toArray, List.set_cons_zero, List.set_cons_succ])
                refine held_take 7 (v := ?_) rfl (by kernel_rfl) (by kernel_rfl) (by kernel_rfl) (fun _ _ _ h => h) (by rfl) ?_ (by assumption) ?_
                rotate_left
                · ((intro w hSw; (try dsimp only at hSw); go_simp) <;> with_reducible rfl)
                (try simp only [Act.put, List.setIfInBounds_toArray, List.set_cons_zero, List.set_cons_succ])
                refine held_take 8 (v := ?_) rfl (by kernel_rfl) (by kernel_rfl) (by kernel_rfl) (fun _ _ _ h => h) (by rfl) ?_ (by assumption) ?_
                rotate_left
                · ((intro w hSw; (try dsimp only at hSw); go_simp) <;> with_reducible rfl)
                (try simp only [Act.put, List.setIfInBounds_toArray, List.set_cons_zero, List.set_cons_succ])
                refine held_step 10 rfl (by kernel_rfl) (fun K hK => ?_)
                have np : ¬ pb = bb := by omega
                have na : ¬ ab = bb := by omega
                obtain ⟨d0, d1, d2, d3, d4, d5⟩ := hbox3.facts
                go_simp
                refine hK.out _ _ (S3.set (S3.set (S3.set (hS.keep hX3) ⟨bb, 0, none⟩ _ np np na) ⟨bb, 1, none⟩ _ np np na) ⟨bb, 2, none⟩ _ np np na) (fun hHeld => ?_)
                clear hK K
                (try simp only [Act.put, List.setIfInBounds_toArray, List.set_cons_zero, List.set_cons_succ])
                refine held_take 11 (v := ?_) rfl (by kernel_rfl) (by kernel_rfl) (by kernel_rfl) (fun _ _ _ h => h) (by rfl) ?_ (by assumption) ?_
                rotate_left
                · ((intro w hSw; (try dsimp only at hSw); go_simp) <;> with_reducible rfl)
                (try simp only [Act.put, List.setIfInBounds_toArray, List.set_cons_zero, List.set_cons_succ])
                refine wpAnyH_done (by kernel_rfl) ?_ _
                have hput := hbox3.put (neg := n12) (no_int a12 l12 c12) (no_int a12' l12' c12')
                have HFin := Lib.hid (And.intro hput.box (And.intro (hput.rat hRat3) (hX3.own hput.ext (fun k e => by omega))))
                clear hput hS hHeld hbbs
                go_wp2
                go_meet
                exact ⟨bb, n12, a12, l12, c12, a12', l12', c12', rfl, rfl, HFin.out.1, HFin.out.2.1, HFin.out.2.2⟩
            · go_simp
              obtain ⟨bb, hbb⟩ : ∃ bb, wd.heap.size = bb := ⟨_, rfl⟩
              have hbbs : w4.heap.size ≤ bb := by have := hxd.size; omega
              have hbox1 := boxR_new (W := wd) rfl false none 0 0 none 0 0
              have hX1 := hxd.alloc (.cells #[.bool false, .slice none 0 0, .slice none 0 0] 31)
              rw [hbb] at hbox1 ⊢
              clear hbb
              generalize wd.alloc (.cells #[.bool false, .slice none 0 0, .slice none 0 0] 31) = wa at *
              refine hK.out _ _ (hS.keep hX1) (fun hHeld => ?_)
              clear hK K
              (try simp only [Act.put, List.setIfInBounds_toArray, List.set_cons_zero, List.set_cons_succ])
              refine held_step 4 rfl (by kernel_rfl) (fun K hK => ?_)
              go_simp
              go_at_call 63
              (with_reducible refine (HE.out _ hX1).mono ?_)
              rintro q2 w20 ⟨B2, rfl, hB2, hArr2, hx2⟩
              have hX2 := hX1.trans hx2
              have hL2 := HLs.out _ hX2 B2 hArr2
              have hbox2 := hbox1.keep hx2
              refine hK.out _ _ (hS.keep hX2) (fun hHeld => ?_)
              clear hK K
              (try simp only [Act.put, List.setIfInBounds_toArray, List.set_cons_zero, List.set_cons_succ])
              refine held_step 5 rfl (by kernel_rfl) (fun K hK => ?_)
              go_simp
              go_at_call 62
              have hL3b := HLs.out _ hX2 B2 hArr2
              (with_reducible refine hL3b.mono ?_)
              rintro q3 w30 hopt3
              obtain ⟨n12, a12, l12, c12, a12', l12', c12', rfl, hRat3, hx3⟩ := OptPost.open hopt3
              have hX3 := hX2.trans hx3
              have hbox3 := hbox2.keep hx3
              refine hK.out _ _ (hS.keep hX3) (fun hHeld => ?_)
              clear hK K
              (try simp only [Act.put, List.setIfInBounds_toArray, List.set_cons_zero, List.set_cons_succ])
              refine held_take 6 (v := ?_) rfl (by kernel_rfl) (by kernel_rfl) (by kernel_rfl) (fun _ _ _ h => h) (by rfl) ?_ (by assumption) ?_
              rotate_left
              · ((intro w hSw; (try dsimp only at hSw); go_simp) <;> with_reducible rfl)
              (try simp only [Act.put, List.setIfInBounds_toArray, List.set_cons_zero, List.set_cons_succ])
              refine held_take 7 (v := ?_) rfl (by kernel_rfl) (by kernel_rfl) (by kernel_rfl) (fun _ _ _ h => h) (by rfl) ?_ (by assumption) ?_
              rotate_left
              · ((intro w hSw; (try dsimp only at hSw); go_simp) <;> with_reducible rfl)
              (try simp only [Act.put, List.setIfInBounds_toArray, List.set_cons_zero, List.set_cons_succ])
              refine held_take 8 (v := ?_) rfl (by kernel_rfl) (by kernel_rfl) (by kernel_rfl) (fun _ _ _ h => h) (by rfl) ?_ (by assumption) ?_
              rotate_left
              · ((intro w hSw; (try dsimp only at hSw); go_simp) <;> with_reducible rfl)
              (try simp only [Act.put, List.setIfInBounds_toArray, List.set_cons_zero, List.set_cons_succ])
              refine held_step 10 rfl (by kernel_rfl) (fun K hK => ?_)
              have np : ¬ pb = bb := by omega
              have na : ¬ ab = bb := by omega
              obtain ⟨d0, d1, d2, d3, d4, d5⟩ := hbox3.facts
              go_simp
              refine hK.out _ _ (S3.set (S3.set (S3.set (hS.keep hX3) ⟨bb, 0, none⟩ _ np np na) ⟨bb, 1, none⟩ _ np np na) ⟨bb, 2, none⟩ _ np np na) (fun hHeld => ?_)
              clear hK K
              (try simp only [Act.put, List.setIfInBounds_toArray, List.set_cons_zero, List.set_cons_succ])
              refine held_take 11 (v := ?_) rfl (by kernel_rfl) (by kernel_rfl) (by kernel_rfl) (fun _ _ _ h => h) (by rfl) ?_ (by assumption) ?_
              rotate_left
              · ((intro w hSw; (try dsimp only at hSw); go_simp) <;> with_reducible rfl)
              (try simp only [Act.put, List.setIfInBounds_toArray, List.set_cons_zero, List.set_cons_succ])
              refine wpAnyH_done (by kernel_rfl) ?_ _
              have hput := hbox3.put (neg := n12) (no_int a12 l12 c12) (no_int a12' l12' c12')
              have HFin := Lib.hid (And.intro hput.box (And.intro (hput.rat hRat3) (hX3.own hput.ext (fun k e => by omega))))
              clear hput hS hHeld hbbs
              go_wp2
              go_meet
              exact ⟨bb, n12, a12, l12, c12, a12', l12', c12', rfl, rfl, HFin.out.1, HFin.out.2.1, HFin.out.2.2⟩
          case rest =>
            clear hS HE HLs HEa HLa HCom HSig HVal
            obtain ⟨bb, ng, a1, k1, c1, a2, k2, c2, rfl, rfl, hbb, hlq, hx4⟩ := hcut
            have HB6 := Lib.hid (And.intro (HB4.out.2.2.1.keep hx4) (And.intro (HB4.out.2.2.2.1.keep hx4) (HX4.out.trans hx4)))
            have HL6 := Lib.hid (And.intro hbb hlq)
            clear hbb hlq hx4 HB4 HX4
            cases lq with
            | none =>
              rw [show (none : Option Rat).isSome = false from rfl]
              go_upto_region 11 with fail
              have hS : S0 wc := trivial
              refine wp_region_held_drew (S := S0) (by kernel_rfl) (trivial) (fun hHeld => ?_)
              refine held_take 0 (v := ?_) rfl (by kernel_rfl) (by kernel_rfl) (by kernel_rfl) (fun _ _ _ h => h) (by rfl) ?_ (by assumption) ?_
              rotate_left
              · ((intro w hSw; (try dsimp only at hSw); go_simp) <;> with_reducible rfl)
              (try simp only [Act.put, List.setIfInBounds_toArray, List.set_cons_zero, List.set_cons_succ])
              refine held_take 1 (v := ?_) rfl (by kernel_rfl) (by kernel_rfl) (by kernel_rfl) (fun _ _ _ h => h) (by rfl) ?_ (by assumption) ?_
              rotate_left
              · ((intro w hSw; (try dsimp only at hSw); go_simp) <;> with_reducible rfl)
              (try simp only [Act.put, List.setIfInBounds_toArray, List.set_cons_zero, List.set_cons_succ])
              refine held_skip 2 rfl (by kernel_rfl) (by kernel_rfl) (by kernel_rfl) (fun _ _ _ h => h) (by rfl) (by assumption) ?_
              (try simp only [Act.put, List.setIfInBounds_toArray, List.set_cons_zero, List.set_cons_succ])
              refine held_skip 3 rfl (by kernel_rfl) (by kernel_rfl) (by kernel_rfl) (fun _ _ _ h => h) (by rfl) (by assumption) ?_
              (try simp only [Act.put, List.setIfInBounds_toArray, List.set_cons_zero, List.set_cons_succ])
              refine held_skip 4 rfl (by kernel_rfl) (by kernel_rfl) (by kernel_rfl) (fun _ _ _ h => h) (by rfl) (by assumption) ?_
              (try simp only [Act.put, List.setIfInBounds_toArray, List.set_cons_zero, List.set_cons_succ])
              refine held_skip 5 rfl (by kernel_rfl) (by kernel_rfl) (by kernel_rfl) (fun _ _ _ h => h) (by rfl) (by assumption) ?_
              (try simp only [Act.put, List.setIfInBounds_toArray, List.set_cons_zero, List.set_cons_succ])
              refine held_skip 6 rfl (by kernel_rfl) (by kernel_rfl) (by kernel_rfl) (fun _ _ _ h => h) (by rfl) (by assumption) ?_
              (try simp only [Act.put, List.setIfInBounds_toArray, List.set_cons_zero, List.set_cons_succ])
              refine held_take 7 (v := ?_) rfl (by kernel_rfl) (by kernel_rfl) (by kernel_rfl) (fun _ _ _ h => h) (by rfl) ?_ (by assumption) ?_
              rotate_left
              · ((intro w hSw; (try dsimp only at hSw); go_simp) <;> with_reducible rfl)
              (try simp only [Act.put, List.setIfInBounds_toArray, List.set_cons_zero, List.set_cons_succ])
              refine held_take 8 (v := ?_) rfl (by kernel_rfl) (by kernel_rfl) (by kernel_rfl) (fun _ _ _ h => h) (by rfl) ?_ (by assumption) ?_
              rotate_left
              · ((intro w hSw; (try dsimp only at hSw); go_simp) <;> with_reducible rfl)
              (try simp only [Act.put, List.setIfInBounds_toArray, List.set_cons_zero, List.set_cons_succ])
              refine wpAnyH_done (by kernel_rfl) ?_ _
              go_wp2
              go_ret
              exact ⟨ret_bool (by rw [HQ2.out]; rfl), HB6.out.2.2.drew⟩
            | some q =>
              rw [show (some q : Option Rat).isSome = true from rfl]
              have HNg := Lib.hid (fun W (hW : Ext (fun _ => False) wc W) => HNa.out W _ (HB6.out.2.1.keep hW))
              have HCm := Lib.hid (fun W u (hW : Ext (fun _ => False) wc W) hu => HCa.out W _ u q (HL6.out.2.keep hW) hu (HLz.out q rfl))
              obtain ⟨x0, x1, x2, -⟩ := HB6.out.1.facts
              obtain ⟨t0, t1, t2, -⟩ := HL6.out.1.facts
              have hcb : ∃ cb, ab + 1 = cb := ⟨_, rfl⟩
              obtain ⟨cb, hcb⟩ := hcb
              rw [hcb] at HB6 x0 x1 x2 ⊢
              clear hcb hab4
              have hS : S6 bb bb bb cb cb cb 0 1 2 0 1 2 (.bool ng) (.slice a1 k1 c1) (.slice a2 k2 c2) (.bool cn) (.slice ca cl cc) (.slice ca2 cl2 cc2) wc := ⟨t0, t1, t2, x0, x1, x2⟩
              have hxw := (Ext.refl (fun _ => False) wc)
              have hsg := sign_gt (q - -cB)
              have HR : Hid (decide (-cB < q) = decide (0 < (q - -cB).num.sign)) := Lib.hid (decide_eq_decide.2 ⟨fun h => hsg.2 (by grind), fun h => by have := hsg.1 h; grind⟩)
              clear hsg x0 x1 x2 t0 t1 t2
              generalize (q - -cB).num.sign = sg at *
              go_upto_region 11 with fail
              refine wp_region_held_drew (S := (S6 bb bb bb cb cb cb 0 1 2 0 1 2 (.bool ng) (.slice a1 k1 c1) (.slice a2 k2 c2) (.bool cn) (.slice ca cl cc) (.slice ca2 cl2 cc2))) (by kernel_rfl) (hS.drew) (fun hHeld => ?_)
              refine held_take 0 (v := ?_) rfl (by kernel_rfl) (by kernel_rfl) (by kernel_rfl) (fun _ _ _ h => h) (by rfl) ?_ (by assumption) ?_
              rotate_left
              · ((intro w hSw; (try dsimp only at hSw); go_simp) <;> with_reducible rfl)
              (try simp only [Act.put, List.setIfInBounds_toArray, List.set_cons_zero, List.set_cons_succ])
              refine held_take 1 (v := ?_) rfl (by kernel_rfl) (by kernel_rfl) (by kernel_rfl) (fun _ _ _ h => h) (by rfl) ?_ (by assumption) ?_
              rotate_left
              · ((intro w hSw; (try dsimp only at hSw); go_simp) <;> with_reducible rfl)
              (try simp only [Act.put, List.setIfInBounds_toArray, List.set_cons_zero, List.set_cons_succ])
              refine held_take 2 (v := ?_) rfl (by kernel_rfl) (by kernel_rfl) (by kernel_rfl) (fun _ _ _ h => h) (by rfl) ?_ (by assumption) ?_
              rotate_left
              · ((intro w hSw; (try dsimp only at hSw); go_simp) <;> with_reducible rfl)
              (try simp only [Act.put, List.setIfInBounds_toArray, List.set_cons_zero, List.set_cons_succ])
              refine held_take 3 (v := ?_) rfl (by kernel_rfl) (by kernel_rfl) (by kernel_rfl) (fun _ _ _ h => h) (by rfl) ?_ (by assumption) ?_
              rotate_left
              · ((intro w hSw; (try dsimp only at hSw); go_simp) <;> with_reducible rfl)
              (try simp only [Act.put, List.setIfInBounds_toArray, List.set_cons_zero, List.set_cons_succ])
              refine held_step 4 rfl (by kernel_rfl) (fun K hK => ?_)
              (go_simp; go_at_call 69; (with_reducible refine (HNg.out _ hxw.drew).mono ?_); rintro q1 w11 ⟨v11, rfl, h11, hx11⟩; have hX1 := (Ext.refl (fun _ => False) wc).drew.trans hx11; have hK1 := hS.keep hX1; have hC1 := HCm.out w11 _ hX1 h11; obtain ⟨n11, a11, l11, c11, a12, l12, c12, rfl⟩ := h11.shape)
              refine hK.out _ _ (hK1) (fun hHeld => ?_)
              clear hK K
              (try simp only [Act.put, List.setIfInBounds_toArray, List.set_cons_zero, List.set_cons_succ])
              refine held_step 5 rfl (by kernel_rfl) (fun K hK => ?_)
              (go_simp; go_at_call 53; (with_reducible refine hC1.mono ?_); rintro q2 w12 ⟨rfl, hx12⟩; have hX2 := hX1.trans hx12; have hK2 := hS.keep hX2)
              refine hK.out _ _ (hK2) (fun hHeld => ?_)
              clear hK K
              (try simp only [Act.put, List.setIfInBounds_toArray, List.set_cons_zero, List.set_cons_succ])
              refine held_take 6 (v := ?_) rfl (by kernel_rfl) (by kernel_rfl) (by kernel_rfl) (fun _ _ _ h => h) (by rfl) ?_ (by assumption) ?_
              rotate_left
              · ((intro w hSw; (try dsimp only at hSw); go_simp) <;> with_reducible rfl)
              (try simp only [Act.put, List.setIfInBounds_toArray, List.set_cons_zero, List.set_cons_succ])
              refine held_take 7 (v := ?_) rfl (by kernel_rfl) (by kernel_rfl) (by kernel_rfl) (fun _ _ _ h => h) (by rfl) ?_ (by assumption) ?_
              rotate_left
              · ((intro w hSw; (try dsimp only at hSw); go_simp) <;> with_reducible rfl)
              (try simp only [Act.put, List.setIfInBounds_toArray, List.set_cons_zero, List.set_cons_succ])
              refine held_take 8 (v := ?_) rfl (by kernel_rfl) (by kernel_rfl) (by kernel_rfl) (fun _ _ _ h => h) (by rfl) ?_ (by assumption) ?_
              rotate_left
              · ((intro w hSw; (try dsimp only at hSw); go_simp) <;> with_reducible rfl)
              (try simp only [Act.put, List.setIfInBounds_toArray, List.set_cons_zero, List.set_cons_succ])
              refine wpAnyH_done (by kernel_rfl) ?_ _
              have HXX := Lib.hid (HB6.out.2.2.trans hX2)
              clear hX1 hX2 hK1 hK2 hS hHeld h11 hx11 hx12 hC1 hxw
              go_wp2
              go_ret
              exact ⟨ret_bool (by rw [HQ2.out]; exact HR.out.symm), HXX.out⟩
end Go.Proofs.YtbgienfcmdgaaaaGreat
