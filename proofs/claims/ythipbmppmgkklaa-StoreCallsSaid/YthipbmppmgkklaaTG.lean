/-
  The laws on package store: the example of the chapter; few; run. Conditions: none.
-/
import Derived.Test.YthipbmppmgkklaaTF
namespace Go.Proofs.Ythipbmppmgkklaa
open Go.RowKit Go.MapKept
open Go.ChangeMaps (setBlock)

def bA : ByteArray := { data := #[97] }
def bB : ByteArray := { data := #[98] }
theorem d1 : doM [] ⟨3, bA, 5, 0⟩ = ([(bA, 5)], ⟨0, true, 5⟩) := by
  have e : wrap64 (0 + 5) = 5 := IntWalk.wrap64_in _ (by omega)
  show setM [] bA (wrap64 (0 + 5)) = _
  rw [e]; rfl
theorem d2 : doM [(bA, 5)] ⟨2, bA, 7, 5⟩ = ([(bA, 7)], ⟨0, true, 7⟩) := by rfl
theorem d3 : doM [(bA, 7)] ⟨2, bA, 8, 5⟩ = ([(bA, 7)], ⟨0, false, 7⟩) := by rfl
theorem d4 : doM [(bA, 7)] ⟨0, bB, 0, 0⟩ = ([(bA, 7)], ⟨0, false, 0⟩) := by rfl
def AwakePost (w : World) (r : Ending) (w' : World) : Prop := r = .returned (.bool true) ∧ Ext (fun _ => False) w w'
theorem Ext.own {w0 w w' : World} {b : Nat} (h : Ext (fun _ => False) w0 w) (hx : Ext (fun k => k = b) w w') (hb : w0.heap.size ≤ b) : Ext (fun _ => False) w0 w' :=
  h.trans' hx (fun k hk e => by omega)
theorem save1 : 2 ≤ (saveM [(bA, 7)]).length := by
  unfold saveM
  rw [List.length_append]
  have : (encNum (List.length [(bA, (7 : Int))])).length = 2 := by rfl
  omega
/-- a result in a box of the call's own -/
def Box (w : World) (b : Nat) (x : Rs) : Prop := blk w b = some (.cells #[.int .i64 x.c, .bool x.f, .int .i64 x.v] 31 (0, 0))
theorem Box.new (w : World) (x : Rs) : Box (w.alloc (.cells #[.int .i64 x.c, .bool x.f, .int .i64 x.v] 31)) w.heap.size x := blk_alloc_at _ _
theorem Box.ext {S : Nat → Prop} {w w' : World} {b : Nat} {x : Rs} (h : Box w b x) (hx : Ext S w w') (hn : ¬ S b) : Box w' b x := (hx.blk (blk_lt h) hn).trans h
theorem Box.reads {w : World} {b : Nat} {x : Rs} (h : Box w b x) : w.cell? ⟨b, 0, none⟩ = some (.int .i64 x.c) ∧ w.cell? ⟨b, 1, none⟩ = some (.bool x.f) ∧ w.cell? ⟨b, 2, none⟩ = some (.int .i64 x.v) := by
  obtain ⟨a, b, c, _⟩ := tail_reads h
  exact ⟨a, b, c⟩
set_option maxRecDepth 100000 in
set_option maxHeartbeats 2000000 in
theorem awake_any (w : World) : Calls Try.prog 10 #[] w (AwakePost w) := by
  go_enter Try.func10, Try.ntmps10
  go_wp2_with fail
  refine (new_any w).mono ?_
  rintro r w1 ⟨sb, mb, rfl, hs, hx, h1, h2⟩
  have hs1 := hx.size
  go_wp2_with fail
  refine (do_any w1 sb mb [] hs (by simp) ⟨3, bA, 5, 0⟩ (by decide)).mono ?_
  rw [d1]
  rintro r w2 ⟨rfl, hs2, hx2⟩
  have hxa := hx.own hx2 h2
  clear hs hx hx2
  simp only [Rs.val]
  go_wp2_with fail
  have hb2 := Box.new w2 ⟨0, true, 5⟩
  have hs2' := hs2.ext ((Ext.refl (fun _ => False) w2).alloc (.cells #[.int .i64 0, .bool true, .int .i64 5] 31)) id id
  have hxb := hxa.alloc (.cells #[.int .i64 0, .bool true, .int .i64 5] 31)
  have hl2 := hs2.lt
  clear hs2 hxa hs1
  refine (do_any _ sb mb [(bA, 5)] hs2' (by simp) ⟨2, bA, 7, 5⟩ (by decide)).mono ?_
  rw [d2]
  rintro r w3 ⟨rfl, hs3, hx3⟩
  have hb3 := hb2.ext hx3 (by omega)
  have hxc := hxb.own hx3 h2
  clear hs2' hx3 hxb hb2
  generalize w2.heap.size = B1 at *
  simp only [Rs.val]
  go_wp2_with fail
  have hc2 := Box.new w3 ⟨0, true, 7⟩
  have hb3' := hb3.ext ((Ext.refl (fun _ => False) w3).alloc (.cells #[.int .i64 0, .bool true, .int .i64 7] 31)) id
  have hs3' := hs3.ext ((Ext.refl (fun _ => False) w3).alloc (.cells #[.int .i64 0, .bool true, .int .i64 7] 31)) id id
  have hxd := hxc.alloc (.cells #[.int .i64 0, .bool true, .int .i64 7] 31)
  have hl3 := hs3.lt
  clear hs3 hxc hb3
  refine (do_any _ sb mb [(bA, 7)] hs3' (by simp) ⟨2, bA, 8, 5⟩ (by decide)).mono ?_
  rw [d3]
  rintro r w4 ⟨rfl, hs4, hx4⟩
  have hb4 := hb3'.ext hx4 (by omega)
  have hc4 := hc2.ext hx4 (by omega)
  have hxe := hxd.own hx4 h2
  clear hs3' hx4 hxd hb3' hc2
  generalize w3.heap.size = B2 at *
  simp only [Rs.val]
  go_upto_region 7 with fail
  have hd4 := Box.new w4 ⟨0, false, 7⟩
  have hb4' := hb4.ext ((Ext.refl (fun _ => False) w4).alloc (.cells #[.int .i64 0, .bool false, .int .i64 7] 31)) id
  have hc4' := hc4.ext ((Ext.refl (fun _ => False) w4).alloc (.cells #[.int .i64 0, .bool false, .int .i64 7] 31)) id
  have hs4' := hs4.ext ((Ext.refl (fun _ => False) w4).alloc (.cells #[.int .i64 0, .bool false, .int .i64 7] 31)) id id
  have hxf := hxe.alloc (.cells #[.int .i64 0, .bool false, .int .i64 7] 31)
  clear hs4 hxe hb4 hc4
  generalize w4.heap.size = B3 at *
  generalize w4.alloc (.cells #[.int .i64 0, .bool false, .int .i64 7] 31) = w5 at *
  obtain ⟨p0, p1, p2⟩ := hb4'.reads
  obtain ⟨q0, q1, q2⟩ := hc4'.reads
  obtain ⟨r0, r1, r2⟩ := hd4.reads
  simp only at p0 p1 p2 q0 q1 q2 r0 r1 r2
  have Hs := Lib.hid hs4'
  have Hx := Lib.hid hxf
  clear hs4' hxf hb4' hc4' hd4
  go_wp2_with fail
  refine (do_any _ sb mb [(bA, 7)] Hs.out (by simp) ⟨0, bB, 0, 0⟩ (by decide)).mono ?_
  rw [d4]
  rintro r w6 ⟨rfl, hs6, hx6⟩
  have hx6' := Hx.out.own hx6 h2
  have Hs6 := Lib.hid hs6
  have Hx6 := Lib.hid hx6'
  clear hs6 hx6 hx6' Hs Hx p0 p1 p2 q0 q1 q2 r0 r1 r2
  simp only [Rs.val]
  go_wp2_with fail
  refine (len_any w6 sb mb [(bA, 7)] Hs6.out).mono ?_
  rintro r w7 ⟨rfl, hw⟩; obtain rfl := hw.symm
  go_wp2_with fail
  refine (save_any w6 sb mb [(bA, 7)] Hs6.out (by intro p hp; rw [List.mem_singleton] at hp; subst hp; decide) (by intro p hp; rw [List.mem_singleton] at hp; subst hp; decide) (by decide)).mono ?_
  rintro r w8 ⟨rfl, hx8⟩
  have hx8' := Hx6.out.trans hx8
  have Hx8 := Lib.hid hx8'
  have hsv := save1
  obtain ⟨S, hS⟩ : ∃ S : ByteArray, S = ⟨(saveM [(bA, 7)]).toArray⟩ := ⟨_, rfl⟩
  have hS2 : 2 ≤ S.size := by rw [hS]; exact hsv
  have hS3 : (1 : Int) < S.size := by omega
  rw [← hS]
  clear hx8 hx8' Hx6 Hs6 hsv hS
  go_wp2
  go_ret
  exact ⟨rfl, Hx8.out⟩
/-! ### few and run -/
def opCs (x : OpV) : List Value := [.int .i64 x.k, .string x.key, .int .i64 x.v, .int .i64 x.o]
/-- the operations' cells lie in block b from off on -/
def Ops (w : World) (b off : Nat) (l : List OpV) : Prop := ∀ i (h : i < l.length) j u, (opCs l[i])[j]? = some u → w.cell? ⟨b, off + (i * 4 + j), none⟩ = some u
theorem Ops.ext {S : Nat → Prop} {w w' : World} {b off : Nat} {l : List OpV} (h : Ops w b off l) (hx : Ext S w w') (hb : 0 < l.length → b < w.heap.size ∧ ¬ S b) : Ops w' b off l :=
  fun i hi j u hu => (hx.cell (p := ⟨b, off + (i * 4 + j), none⟩) (hb (by omega)).1 (hb (by omega)).2).trans (h i hi j u hu)
theorem Ops.at {w : World} {b off : Nat} {l : List OpV} (h : Ops w b off l) (i : Nat) (hi : i < l.length) :
    w.cell? ⟨b, off + i * 4, none⟩ = some (.int .i64 l[i].k) ∧ w.cell? ⟨b, off + i * 4 + 1, none⟩ = some (.string l[i].key) ∧ w.cell? ⟨b, off + i * 4 + 2, none⟩ = some (.int .i64 l[i].v) ∧ w.cell? ⟨b, off + i * 4 + 3, none⟩ = some (.int .i64 l[i].o) := by
  have a := h i hi 0 _ rfl
  have b' := h i hi 1 _ rfl
  have c := h i hi 2 _ rfl
  have d := h i hi 3 _ rfl
  simp only [Nat.add_zero, ← Nat.add_assoc] at a b' c d
  exact ⟨a, b', c, d⟩
def fewB (l : List OpV) (most : Nat) : Bool := l.all (fun x => decide (x.key.size ≤ 60)) && decide (l.length ≤ most)
set_option maxRecDepth 100000 in
set_option maxHeartbeats 1000000 in
theorem few_any (w : World) (b off cap : Nat) (l : List OpV) (most : Nat) (hl : Ops w b off l) (hlen : l.length ≤ 9223372036854775807) (hsz : ∀ x ∈ l, x.key.size ≤ 9223372036854775807) (hm : most ≤ 1000) :
    Calls Try.prog 11 #[.slice (some ⟨b, off, none⟩) l.length cap, .int .i64 most] w fun r w' => r = .returned (.bool (fewB l most)) ∧ w' = w := by
  have Hl := Lib.hid hl
  have Hsz := Lib.hid hsz
  clear hl hsz
  go_enter Try.func11, Try.ntmps11
  go_wp2_with fail
  go_loopg [5] l.length (fun g v5 wr => wr = w ∧ ∃ j : Nat, j ≤ l.length ∧ g = l.length - j ∧ v5 = .int .i64 j ∧ (l.take j).all (fun x => decide (x.key.size ≤ 60)) = true)
  case atStart => exact ⟨rfl, 0, Nat.zero_le _, rfl, rfl, by simp⟩
  case round =>
    obtain ⟨rfl, j, hj, rfl, rfl, hall⟩ := hrel
    have Hall := Lib.hid hall
    clear hall
    by_cases hjl : j < l.length
    · obtain ⟨c0, c1, c2, c3⟩ := Hl.out.at j hjl
      obtain ⟨x, hx⟩ : ∃ x, l[j] = x := ⟨_, rfl⟩
      have hxs := Hsz.out l[j] (List.getElem_mem hjl)
      rw [hx] at c0 c1 c2 c3 hxs
      have htk : (l.take (j + 1)).all (fun x => decide (x.key.size ≤ 60)) = decide (x.key.size ≤ 60) := by
        rw [List.take_add_one, List.getElem?_eq_getElem hjl, hx, List.all_append, Hall.out]; simp
      have Htk := Lib.hid htk
      have hfew : 60 < x.key.size → fewB l most = false := fun h => by
        unfold fewB
        have : l.all (fun x => decide (x.key.size ≤ 60)) = false := by
          rw [List.all_eq_false]
          exact ⟨x, hx ▸ List.getElem_mem hjl, by simp; omega⟩
        rw [this]; rfl
      have Hfew := Lib.hid hfew
      clear hx htk hfew
      by_cases h60 : (60 : Int) < x.key.size
      · go_wp2
        go_ret
        exact ⟨by rw [Hfew.out (by omega)]; rfl, rfl⟩
      · go_wp2
        go_roundg (l.length - (j + 1))
        case measure => omega
        case rel => exact ⟨rfl, j + 1, by omega, rfl, by go_num, by rw [Htk.out]; simp; omega⟩
    · have hje : l.take j = l := List.take_of_length_le (by omega)
      have hf : fewB l most = decide (l.length ≤ most) := by
        unfold fewB
        rw [← hje, Hall.out, hje]; simp
      have Hf := Lib.hid hf
      clear hje hf
      go_wp2
      go_ret
      exact ⟨by rw [Hf.out]; rfl, rfl⟩
def runM (m : KM) (l : List OpV) : KM := l.foldl (fun m x => (doM m x).1) m
theorem aput_length {α : Type} (l : List (ByteArray × α)) (s : ByteArray) (v : α) : (aput l s v).length ≤ l.length + 1 := by
  induction l with
  | nil => simp [aput]
  | cons p r ih =>
    obtain ⟨a, b⟩ := p
    simp only [aput]
    split
    · simp
    · simp; omega
theorem setM_length (m : KM) (k : ByteArray) (n : Int) : (setM m k n).1.length ≤ m.length + 1 := by
  unfold setM
  split
  · exact aput_length m k n
  · simp
theorem doM_length (m : KM) (x : OpV) : (doM m x).1.length ≤ m.length + 1 := by
  unfold doM getM putM casM addM
  repeat' split
  all_goals first | exact setM_length _ _ _ | simp
theorem runM_length (m : KM) (l : List OpV) : (runM m l).length ≤ m.length + l.length := by
  induction l generalizing m with
  | nil => simp [runM]
  | cons x r ih =>
    have h1 := ih (doM m x).1
    have h2 := doM_length m x
    simp only [runM, List.foldl_cons, List.length_cons] at *
    omega
theorem runM_snoc (m : KM) (l : List OpV) (j : Nat) (h : j < l.length) : runM m (l.take (j + 1)) = (doM (runM m (l.take j)) l[j]).1 := by
  unfold runM
  rw [List.take_add_one, List.getElem?_eq_getElem h, List.foldl_append]
  rfl
def RunPost (w : World) (l : List OpV) (r : Ending) (w' : World) : Prop :=
  ∃ sb mb, r = .returned (.pointer (some ⟨sb, 0, none⟩)) ∧ IsStore w' sb mb (runM [] l) ∧ Ext (fun _ => False) w w' ∧ w.heap.size ≤ sb ∧ w.heap.size ≤ mb
set_option maxRecDepth 100000 in
set_option maxHeartbeats 1000000 in
theorem run_any (w : World) (b off cap : Nat) (l : List OpV) (hl : Ops w b off l) (hb : 0 < l.length → b < w.heap.size) (hlen : l.length ≤ 1000) (hsz : ∀ x ∈ l, x.key.size ≤ 9223372036854775807) :
    Calls Try.prog 12 #[.slice (some ⟨b, off, none⟩) l.length cap] w (RunPost w l) := by
  have Hl := Lib.hid hl
  have Hsz := Lib.hid hsz
  have Hb := Lib.hid hb
  clear hl hsz hb
  go_enter Try.func12, Try.ntmps12
  go_wp2_with fail
  refine (new_any w).mono ?_
  rintro r w1 ⟨sb, mb, rfl, hs, hx, h1, h2⟩
  have Hs := Lib.hid hs
  have Hx := Lib.hid hx
  clear hs hx
  go_wp2_with fail
  go_loopg [4] l.length (fun g v4 wr => ∃ j : Nat, j ≤ l.length ∧ g = l.length - j ∧ v4 = .int .i64 j ∧ IsStore wr sb mb (runM [] (l.take j)) ∧ Ext (fun _ => False) w wr)
  case atStart => exact ⟨0, Nat.zero_le _, rfl, rfl, Hs.out, Hx.out⟩
  case round =>
    obtain ⟨j, hj, rfl, rfl, hs, hx⟩ := hrel
    clear Hs Hx
    by_cases hjl : j < l.length
    · have hlr := Hl.out.ext hx (fun h => ⟨Hb.out h, id⟩)
      obtain ⟨c0, c1, c2, c3⟩ := hlr.at j hjl
      have hstep := runM_snoc [] l j hjl
      have hrl := runM_length [] (l.take j)
      rw [List.length_take] at hrl
      have hxs := Hsz.out l[j] (List.getElem_mem hjl)
      obtain ⟨x, hxe⟩ : ∃ x, l[j] = x := ⟨_, rfl⟩
      rw [hxe] at c0 c1 c2 c3 hxs hstep
      obtain ⟨xk, key, xv, xo⟩ := x
      simp only at c0 c1 c2 c3 hxs
      have Hs := Lib.hid hs
      have Hx := Lib.hid hx
      have Hst := Lib.hid hstep
      have hml : (runM [] (l.take j)).length ≤ 1000000 := by simp at hrl; omega
      have Hml := Lib.hid hml
      clear hs hx hlr hxe hstep hrl hml
      go_wp2_with fail
      refine (do_any wr sb mb _ Hs.out Hml.out ⟨xk, key, xv, xo⟩ hxs).mono ?_
      rintro r w3 ⟨rfl, hs3, hx3⟩
      rw [← Hst.out] at hs3
      have hx4 := Hx.out.own hx3 h2
      have Hs3 := Lib.hid hs3
      have Hx4 := Lib.hid hx4
      clear hs3 hx3 hx4 c0 c1 c2 c3 Hs Hx Hst Hml
      go_wp2
      go_roundg (l.length - (j + 1))
      case measure => omega
      case rel => exact ⟨j + 1, by omega, rfl, by go_num, Hs3.out, Hx4.out⟩
    · rw [List.take_of_length_le (by omega)] at hs
      have Hs := Lib.hid hs
      have Hx := Lib.hid hx
      clear hs hx
      go_wp2
      go_ret
      exact ⟨sb, mb, rfl, Hs.out, Hx.out, h1, h2⟩
end Go.Proofs.Ythipbmppmgkklaa
