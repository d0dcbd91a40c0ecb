/-
  StoreSwaps: the walk. Conditions: the arguments' cells are as given.
-/
import Derived.Test.YthipbmppmgkklaaTH
namespace Go.Proofs.Ythipbmppmgkklaa
open Go.RowKit Go.MapKept
open Go.ChangeMaps (setBlock)

/-- two operations in boxes at n and n + 1 -/
abbrev S8 (n : Nat) (x y : OpV) (W : World) : Prop :=
  W.cell? ⟨n, 0, none⟩ = some (.int .i64 x.k) ∧ W.cell? ⟨n, 1, none⟩ = some (.string x.key) ∧ W.cell? ⟨n, 2, none⟩ = some (.int .i64 x.v) ∧ W.cell? ⟨n, 3, none⟩ = some (.int .i64 x.o) ∧
  W.cell? ⟨n + 1, 0, none⟩ = some (.int .i64 y.k) ∧ W.cell? ⟨n + 1, 1, none⟩ = some (.string y.key) ∧ W.cell? ⟨n + 1, 2, none⟩ = some (.int .i64 y.v) ∧ W.cell? ⟨n + 1, 3, none⟩ = some (.int .i64 y.o)
theorem S8.ext {S : Nat → Prop} {n : Nat} {x y : OpV} {W W' : World} (h : S8 n x y W) (hx : Ext S W W') (h1 : ¬ S n) (h2 : ¬ S (n + 1)) : S8 n x y W' := by
  obtain ⟨a, b, c, d, e, f, g, i⟩ := h
  have l1 := World.block_lt_of_cell? W _ a
  have l2 := World.block_lt_of_cell? W _ e
  exact ⟨(hx.cell (p := ⟨n, 0, none⟩) l1 h1).trans a, (hx.cell (p := ⟨n, 1, none⟩) l1 h1).trans b, (hx.cell (p := ⟨n, 2, none⟩) l1 h1).trans c, (hx.cell (p := ⟨n, 3, none⟩) l1 h1).trans d,
    (hx.cell (p := ⟨n + 1, 0, none⟩) l2 h2).trans e, (hx.cell (p := ⟨n + 1, 1, none⟩) l2 h2).trans f, (hx.cell (p := ⟨n + 1, 2, none⟩) l2 h2).trans g, (hx.cell (p := ⟨n + 1, 3, none⟩) l2 h2).trans i⟩
theorem lt_alloc {W : World} {o : Obj} {n : Nat} (h : (W.alloc o).heap.size ≤ n) : W.heap.size < n := by simp at h; omega
theorem lt_alloc2 {W : World} {o o' : Obj} {n : Nat} (h : ((W.alloc o).alloc o').heap.size ≤ n) : W.heap.size + 1 < n := by simp at h; omega
theorem size_drew' (w : World) : w.drew.heap.size = w.heap.size := rfl
theorem S8.drew {n : Nat} {x y : OpV} {W : World} (h : S8 n x y W) : S8 n x y W.drew := h
theorem S8.alloc {n : Nat} {x y : OpV} {W : World} (h : S8 n x y W) (o : Obj) : S8 n x y (W.alloc o) := h.ext (S := fun _ => False) ((Ext.refl _ _).alloc o) id id
theorem S8.set {n : Nat} {x y : OpV} {W : World} (h : S8 n x y W) (p : Addr) (u : Value) (h1 : ¬ n = p.block) (h2 : ¬ n + 1 = p.block) : S8 n x y (W.setCell p u) :=
  h.ext (S := fun b => b = p.block) ((Ext.refl _ _).setCell u (fun _ => rfl)) h1 h2
theorem S8.of_blk {n : Nat} {x y : OpV} {W : World} (h1 : blk W n = some (.cells #[.int .i64 x.k, .string x.key, .int .i64 x.v, .int .i64 x.o] 24 (0, 0))) (h2 : blk W (n + 1) = some (.cells #[.int .i64 y.k, .string y.key, .int .i64 y.v, .int .i64 y.o] 24 (0, 0))) : S8 n x y W :=
  ⟨by simpa using cell_of_cells h1 0, by simpa using cell_of_cells h1 1, by simpa using cell_of_cells h1 2, by simpa using cell_of_cells h1 3, by simpa using cell_of_cells h2 0, by simpa using cell_of_cells h2 1, by simpa using cell_of_cells h2 2, by simpa using cell_of_cells h2 3⟩
theorem Ext.cells {W W' : World} {mb : Nat} (h : Ext (fun b => b = mb) W W') : (∀ b o, b < W.heap.size → ¬ b = mb → W'.cell? ⟨b, o, none⟩ = W.cell? ⟨b, o, none⟩) ∧ (∀ b o, b < W.heap.size → ¬ b = mb → W'.frozen? ⟨b, o, none⟩ = W.frozen? ⟨b, o, none⟩) :=
  ⟨fun b o h1 h2 => h.cell (p := ⟨b, o, none⟩) h1 h2, fun b o h1 h2 => h.frozen (p := ⟨b, o, none⟩) h1 h2⟩
theorem IsStore.alloc' {W : World} {sb mb : Nat} {m : KM} (h : IsStore W sb mb m) (o : Obj) : IsStore (W.alloc o) sb mb m := h.ext ((Ext.refl (fun _ => False) W).alloc o) id id
theorem IsStore.drew' {W : World} {sb mb : Nat} {m : KM} (h : IsStore W sb mb m) : IsStore W.drew sb mb m := h.ext ((Ext.refl (fun _ => False) W).drew) id id
theorem Good.keys1000' {m : KM} (h : Good m) : ∀ p ∈ m, p.1.size ≤ 1000 := fun p hp => by have := (h.key p hp).2; omega
/-- an operation in a box at n, three results in boxes -/
abbrev S13 (n : Nat) (x : OpV) (p q s : Nat) (a b c : Rs) (W : World) : Prop :=
  W.cell? ⟨n, 0, none⟩ = some (.int .i64 x.k) ∧ W.cell? ⟨n, 1, none⟩ = some (.string x.key) ∧ W.cell? ⟨n, 2, none⟩ = some (.int .i64 x.v) ∧ W.cell? ⟨n, 3, none⟩ = some (.int .i64 x.o) ∧
  W.cell? ⟨p, 0, none⟩ = some (.int .i64 a.c) ∧ W.cell? ⟨p, 1, none⟩ = some (.bool a.f) ∧ W.cell? ⟨p, 2, none⟩ = some (.int .i64 a.v) ∧
  W.cell? ⟨q, 0, none⟩ = some (.int .i64 b.c) ∧ W.cell? ⟨q, 1, none⟩ = some (.bool b.f) ∧ W.cell? ⟨q, 2, none⟩ = some (.int .i64 b.v) ∧
  W.cell? ⟨s, 0, none⟩ = some (.int .i64 c.c) ∧ W.cell? ⟨s, 1, none⟩ = some (.bool c.f) ∧ W.cell? ⟨s, 2, none⟩ = some (.int .i64 c.v)
theorem S13.of {n : Nat} {x : OpV} {p q s : Nat} {a b c : Rs} {W : World} (h : blk W n = some (.cells #[.int .i64 x.k, .string x.key, .int .i64 x.v, .int .i64 x.o] 24 (0, 0))) (h1 : Box W p a) (h2 : Box W q b) (h3 : Box W s c) : S13 n x p q s a b c W := by
  obtain ⟨a1, a2, a3⟩ := h1.reads
  obtain ⟨b1, b2, b3⟩ := h2.reads
  obtain ⟨c1, c2, c3⟩ := h3.reads
  exact ⟨by simpa using cell_of_cells h 0, by simpa using cell_of_cells h 1, by simpa using cell_of_cells h 2, by simpa using cell_of_cells h 3, a1, a2, a3, b1, b2, b3, c1, c2, c3⟩
theorem S13.drew {n : Nat} {x : OpV} {p q s : Nat} {a b c : Rs} {W : World} (h : S13 n x p q s a b c W) : S13 n x p q s a b c W.drew := h
theorem fewB_true {l : List OpV} {n : Nat} (h : fewB l n = true) : l.length ≤ n ∧ ∀ x ∈ l, x.key.size ≤ 60 := by
  unfold fewB at h
  simp at h
  exact ⟨h.2, h.1⟩
def Raw (w : World) (b : Nat) : Prop := ∃ x y z, blk w b = some (.cells #[x, y, z] 31 (0, 0))
theorem Raw.newAt {w : World} {b : Nat} (x y z : Value) (h : b = w.heap.size) : Raw (w.alloc (.cells #[x, y, z] 31)) b := by subst h; exact ⟨x, y, z, blk_alloc_at _ _⟩
theorem Raw.ext {S : Nat → Prop} {w w' : World} {b : Nat} (hx : Ext S w w') (hn : ¬ S b) (h : Raw w b) : Raw w' b := by
  obtain ⟨x, y, z, h⟩ := h
  exact ⟨x, y, z, (hx.blk (blk_lt h) hn).trans h⟩
theorem Raw.alloc {w : World} {b : Nat} (h : Raw w b) (o : Obj) : Raw (w.alloc o) b := Raw.ext ((Ext.refl (fun _ => False) w).alloc o) id h
theorem Raw.drew {w : World} {b : Nat} (h : Raw w b) : Raw w.drew b := h
theorem Raw.set {w : World} {b : Nat} (h : Raw w b) (b' i : Nat) (u : Value) : Raw (w.setCell ⟨b', i, none⟩ u) b := by
  obtain ⟨x, y, z, h⟩ := h
  by_cases e : b = b'
  · subst e
    have h2 := blk_setCell_same h i u
    match i with
    | 0 => exact ⟨u, y, z, by simpa using h2⟩
    | 1 => exact ⟨x, u, z, by simpa using h2⟩
    | 2 => exact ⟨x, y, u, by simpa using h2⟩
    | n + 3 => exact ⟨x, y, z, by simpa using h2⟩
  · exact ⟨x, y, z, (blk_setCell_other _ _ _ _ e).trans h⟩
theorem Box.newAt {w : World} {b : Nat} {c v : Int} {f : Bool} (h : b = w.heap.size) : Box (w.alloc (.cells #[.int .i64 c, .bool f, .int .i64 v] 31)) b ⟨c, f, v⟩ := by subst h; exact blk_alloc_at _ _
theorem Box.alloc {w : World} {b : Nat} {x : Rs} (h : Box w b x) (o : Obj) : Box (w.alloc o) b x := h.ext ((Ext.refl (fun _ => False) w).alloc o) id
theorem Box.other {w : World} {b : Nat} {x : Rs} (h : Box w b x) (b' i : Nat) (u : Value) (hn : b ≠ b') : Box (w.setCell ⟨b', i, none⟩ u) b x := (blk_setCell_other _ _ _ _ hn).trans h
theorem Box.set3 {w : World} {b : Nat} {c v : Int} {f : Bool} (h : Raw w b) : Box (((w.setCell ⟨b, 0, none⟩ (.int .i64 c)).setCell ⟨b, 1, none⟩ (.bool f)).setCell ⟨b, 2, none⟩ (.int .i64 v)) b ⟨c, f, v⟩ := by
  obtain ⟨x, y, z, h⟩ := h
  exact blk_set3 h _ _ _
theorem few30 (w : World) (b off cap : Nat) (l : List OpV) (hl : Ops w b off l) (hlen : l.length ≤ 9223372036854775807) (hsz : ∀ x ∈ l, x.key.size ≤ 9223372036854775807) :
    Calls Try.prog 11 #[.slice (some ⟨b, off, none⟩) l.length cap, .int .i64 30] w fun r w' => r = .returned (.bool (fewB l 30)) ∧ w' = w := few_any w b off cap l 30 hl hlen hsz (by omega)
theorem few2 (w : World) (b : Nat) (x y : OpV) (hl : Ops w b 0 [x, y]) (hx : x.key.size ≤ 9223372036854775807) (hy : y.key.size ≤ 9223372036854775807) :
    Calls Try.prog 11 #[.slice (some ⟨b, 0, none⟩) 2 2, .int .i64 2] w fun r w' => r = .returned (.bool (fewB [x, y] 2)) ∧ w' = w :=
  few_any w b 0 2 [x, y] 2 hl (by simp) (by intro z hz; simp at hz; rcases hz with rfl | rfl <;> assumption) (by omega)
theorem ops_pair {w : World} {b : Nat} {x y : OpV} {t : TypeId} (h : blk w b = some (.cells #[.int .i64 x.k, .string x.key, .int .i64 x.v, .int .i64 x.o, .int .i64 y.k, .string y.key, .int .i64 y.v, .int .i64 y.o] t (0, 0))) : Ops w b 0 [x, y] := by
  intro i hi j u hu
  have hc := cell_of_cells h (i * 4 + j)
  rw [Nat.zero_add, hc]
  have hj : j < 4 := by
    have := (List.getElem?_eq_some_iff.1 hu).1
    simpa [opCs] using this
  have hi' : i = 0 ∨ i = 1 := by simp at hi; omega
  rcases hi' with rfl | rfl
  · match j, hj with
    | 0, _ => simpa [opCs] using hu
    | 1, _ => simpa [opCs] using hu
    | 2, _ => simpa [opCs] using hu
    | 3, _ => simpa [opCs] using hu
  · match j, hj with
    | 0, _ => simpa [opCs] using hu
    | 1, _ => simpa [opCs] using hu
    | 2, _ => simpa [opCs] using hu
    | 3, _ => simpa [opCs] using hu
set_option maxRecDepth 100000 in
set_option maxHeartbeats 40000000 in
theorem swaps_core (w : World) (ao : Option Addr) (n cap : Nat) (l : List OpV) (x y : OpV)
    (hfew : ∀ W, Ext (fun _ => False) w W → Calls Try.prog 11 #[.slice ao n cap, .int .i64 30] W fun r w' => r = .returned (.bool (fewB l 30)) ∧ w' = W)
    (hrun : ∀ W, Ext (fun _ => False) w W → l.length ≤ 30 → Calls Try.prog 12 #[.slice ao n cap] W (RunPost W l)) (hv : ∀ z ∈ l, InR z.v)
    (hx : x.key.size ≤ 9223372036854775807) (hy : y.key.size ≤ 9223372036854775807) (hxv : InR x.v) (hyv : InR y.v) :
    Calls Try.prog 3 #[.slice ao n cap, x.val, y.val] w (AwakePost w) := by
  obtain ⟨xk, xkey, xv, xo⟩ := x
  obtain ⟨yk, ykey, yv, yo⟩ := y
  have Hfew := Lib.hid hfew
  have Hrun := Lib.hid hrun
  have Hv := Lib.hid hv
  simp only at hx hy
  clear hfew hrun hv
  unfold OpV.val
  go_enter Try.func3, Try.ntmps3
  go_wp2_with fail
  refine (awake_any _).mono ?_
  rintro r w1 ⟨rfl, hx1⟩
  go_wp2_with fail
  have hxw : Ext (fun _ => False) w w1 := ((((Ext.refl (fun _ => False) w).alloc _).alloc _).trans hx1)
  refine (Hfew.out _ hxw).mono ?_
  rintro r w' ⟨rfl, hw⟩; obtain rfl := hw.symm
  cases hf : fewB l 30 with
  | false =>
    have Hxw := Lib.hid hxw
    clear hf hxw hx1
    go_wp2
    go_ret
    exact ⟨rfl, Hxw.out⟩
  | true =>
    have Hf := Lib.hid hf
    clear hf
    have hp0 := (hx1.blk (by simp; omega) id).trans ((blk_alloc_past (w.alloc (.cells #[.int .i64 xk, .string xkey, .int .i64 xv, .int .i64 xo] 24)) (.cells #[.int .i64 yk, .string ykey, .int .i64 yv, .int .i64 yo] 24) w.heap.size (by simp)).trans (blk_alloc_at w _))
    have hp1 := (hx1.blk (by simp) id).trans (blk_alloc_at (w.alloc (.cells #[.int .i64 xk, .string xkey, .int .i64 xv, .int .i64 xo] 24)) (.cells #[.int .i64 yk, .string ykey, .int .i64 yv, .int .i64 yo] 24))
    simp only [World.size_alloc] at hp0 hp1
    have a0 := cell_of_cells hp0 0
    have a1 := cell_of_cells hp0 1
    have a2 := cell_of_cells hp0 2
    have a3 := cell_of_cells hp0 3
    have b0 := cell_of_cells hp1 0
    have b1 := cell_of_cells hp1 1
    have b2 := cell_of_cells hp1 2
    have b3 := cell_of_cells hp1 3
    simp at a0 a1 a2 a3 b0 b1 b2 b3
    have hs1 : w.heap.size + 1 + 1 ≤ w1.heap.size := by simpa using hx1.size
    have Hxw := Lib.hid hxw
    have Hp0 := Lib.hid hp0
    have Hp1 := Lib.hid hp1
    clear hxw hx1 hp0 hp1
    go_wp2_with fail
    have hox : Ext (fun _ => False) w1 (w1.alloc (.cells #[.int .i64 xk, .string xkey, .int .i64 xv, .int .i64 xo, .int .i64 yk, .string ykey, .int .i64 yv, .int .i64 yo] 24)) := (Ext.refl _ _).alloc _
    refine (few2 _ w1.heap.size ⟨xk, xkey, xv, xo⟩ ⟨yk, ykey, yv, yo⟩ (ops_pair (blk_alloc_at _ _)) hx hy).mono ?_
    rintro r w' ⟨rfl, hw⟩; obtain rfl := hw.symm
    have hx2 := Hxw.out.trans hox
    have hp2 := (hox.blk (blk_lt Hp0.out) id).trans Hp0.out
    have hp3 := (hox.blk (blk_lt Hp1.out) id).trans Hp1.out
    have hs2 := hox.size
    have hwx := hx2.size
    generalize w1.alloc (.cells #[.int .i64 xk, .string xkey, .int .i64 xv, .int .i64 xo, .int .i64 yk, .string ykey, .int .i64 yv, .int .i64 yo] 24) = w2 at *
    clear a0 a1 a2 a3 b0 b1 b2 b3 hox Hxw Hp0 Hp1
    obtain ⟨B1, hB1⟩ : ∃ B1, w1.heap.size = B1 := ⟨_, rfl⟩
    rw [hB1] at *
    have a0 := cell_of_cells hp2 0
    have a1 := cell_of_cells hp2 1
    have a2 := cell_of_cells hp2 2
    have a3 := cell_of_cells hp2 3
    have b0 := cell_of_cells hp3 0
    have b1 := cell_of_cells hp3 1
    have b2 := cell_of_cells hp3 2
    have b3 := cell_of_cells hp3 3
    simp at a0 a1 a2 a3 b0 b1 b2 b3
    have Hx2 := Lib.hid hx2
    have Hp2 := Lib.hid hp2
    have Hp3 := Lib.hid hp3
    have HB1 := Lib.hid hB1
    clear hx2 hp2 hp3 hB1
    cases hf : fewB [⟨xk, xkey, xv, xo⟩, ⟨yk, ykey, yv, yo⟩] 2 with
    | false =>
      clear hf
      go_wp2
      go_ret
      exact ⟨rfl, Hx2.out⟩
    | true =>
      by_cases hke : xkey = ykey
      · have hq := bytes_eq hke
        clear hf hke
        go_wp2
        go_ret
        exact ⟨rfl, Hx2.out⟩
      · have hq := bytes_ne hke
        have Hke := Lib.hid hke
        clear hf hke
        go_wp2_with fail
        obtain ⟨hl30, hk60⟩ := fewB_true Hf.out
        refine (Hrun.out _ Hx2.out hl30).mono ?_
        rintro r w3 ⟨sb, mb, rfl, hs3, hx3, hsb, hmb⟩
        have hp4 := (hx3.blk (blk_lt Hp2.out) id).trans Hp2.out
        have hp5 := (hx3.blk (blk_lt Hp3.out) id).trans Hp3.out
        have hxw3 := Hx2.out.trans hx3
        have Hs3 := Lib.hid hs3
        have Hx3 := Lib.hid hxw3
        have Hp4 := Lib.hid hp4
        have Hp5 := Lib.hid hp5
        have hz3 := hxw3.size
        have hz3' := hx3.size
        clear hs3 hx3 hp4 hp5 hxw3 a0 a1 a2 a3 b0 b1 b2 b3
        go_wp2_with fail
        refine (Hrun.out _ Hx3.out hl30).mono ?_
        rintro r w4 ⟨tb, nb, rfl, ht4, hx4, htb, hnb⟩
        have hs4 := Hs3.out.ext hx4 id id
        have hp6 := (hx4.blk (blk_lt Hp4.out) id).trans Hp4.out
        have hp7 := (hx4.blk (blk_lt Hp5.out) id).trans Hp5.out
        have hxw4 := Hx3.out.trans hx4
        have hlt3 := Hs3.out.lt
        have hlt4 := ht4.lt
        have hz4 := hx4.size
        have Hs4 := Lib.hid hs4
        have Ht4 := Lib.hid ht4
        have Hx4 := Lib.hid hxw4
        have Hp6 := Lib.hid hp6
        have Hp7 := Lib.hid hp7
        clear hs4 ht4 hx4 hxw4 hp6 hp7 Hp4 Hp5 Hx3 Hs3 Hx2 Hp2 Hp3
        obtain ⟨M, hM⟩ : ∃ M, runM [] l = M := ⟨_, rfl⟩
        rw [hM] at Hs4 Ht4
        have hMl : M.length ≤ 30 := by have := runM_length [] l; rw [hM] at this; simp at this; omega
        obtain ⟨⟨Ma, rx⟩, hA⟩ : ∃ p, doM M ⟨xk, xkey, xv, xo⟩ = p := ⟨_, rfl⟩
        obtain ⟨⟨Mab, ry⟩, hAB⟩ : ∃ p, doM Ma ⟨yk, ykey, yv, yo⟩ = p := ⟨_, rfl⟩
        have hMa : Ma.length ≤ 31 := by have := doM_length M ⟨xk, xkey, xv, xo⟩; rw [hA] at this; simp only at this; omega
        have hC1 : ∀ W, Ext (fun _ => False) w4 W → Calls Try.prog 13 #[.pointer (some ⟨sb, 0, none⟩), .agg #[.int .i64 xk, .string xkey, .int .i64 xv, .int .i64 xo]] W (fun r w' => OpPost W sb mb (Ma, rx) r w' ∧ Ext (fun b => b = mb) w4 w' ∧ w4.heap.size ≤ w'.heap.size) := fun W hW => by
          have := do_any W sb mb M (Hs4.out.ext hW id id) (by omega) ⟨xk, xkey, xv, xo⟩ hx
          rw [hA] at this
          exact this.mono (fun r w' h => ⟨h, (hW.mono (T := fun b => b = mb) (fun _ _ h => h.elim)).trans' h.2.2 (fun _ _ e => e), Nat.le_trans hW.size h.2.2.size⟩)
        have hC2 : ∀ W5, IsStore W5 sb mb Ma → Ext (fun b => b = mb) w4 W5 → ∀ W, Ext (fun _ => False) W5 W → Calls Try.prog 13 #[.pointer (some ⟨sb, 0, none⟩), .agg #[.int .i64 yk, .string ykey, .int .i64 yv, .int .i64 yo]] W (fun r w' => OpPost W sb mb (Mab, ry) r w' ∧ Ext (fun b => b = mb) w4 w' ∧ W5.heap.size ≤ w'.heap.size) := fun W5 hW5 hX5 W hW => by
          have := do_any W sb mb Ma (hW5.ext hW id id) (by omega) ⟨yk, ykey, yv, yo⟩ hy
          rw [hAB] at this
          exact this.mono (fun r w' h => ⟨h, hX5.trans' ((hW.mono (T := fun b => b = mb) (fun _ _ h => h.elim)).trans' h.2.2 (fun _ _ e => e)) (fun _ _ e => e), Nat.le_trans hW.size h.2.2.size⟩)
        obtain ⟨rxc, rxf, rxv⟩ := rx
        obtain ⟨ryc, ryf, ryv⟩ := ry
        have HC1 := Lib.hid hC1
        have HC2 := Lib.hid hC2
        have HM := Lib.hid hM
        have HA := Lib.hid hA
        have HAB := Lib.hid hAB
        have hS := S8.of_blk (x := ⟨xk, xkey, xv, xo⟩) (y := ⟨yk, ykey, yv, yo⟩) Hp6.out Hp7.out
        clear hC1 hC2 hM hA hAB hk60 hl30
        have n1 : ¬ w.heap.size = mb := by omega
        have n2 : ¬ w.heap.size + 1 = mb := by omega
        have hmb4 : mb < w4.heap.size := by omega
        have hn4 : w.heap.size + 1 < w4.heap.size := by omega
        have hwmb : w.heap.size ≤ mb := by omega
        have hwsb : w.heap.size ≤ sb := by omega
        have hwnb : w.heap.size ≤ nb := by omega
        have dist : sb ≠ mb ∧ tb ≠ mb ∧ nb ≠ mb ∧ sb < w4.heap.size ∧ tb < w4.heap.size ∧ nb < w4.heap.size := ⟨Hs4.out.ne, by omega, by omega, by omega, by omega, by omega⟩
        have dist2 : sb ≠ nb ∧ w.heap.size + 1 < nb := ⟨by omega, by omega⟩
        have Dist2 := Lib.hid dist2
        clear dist2
        have Dist := Lib.hid dist
        have Hxx := Lib.hid hx
        have Hyy := Lib.hid hy
        clear hs1 hs2 hwx hsb hmb hz3 hz3' htb hnb hlt3 hlt4 hz4 dist hx hy HB1
        have hK8 : ∀ W W', S8 w.heap.size ⟨xk, xkey, xv, xo⟩ ⟨yk, ykey, yv, yo⟩ W → Ext (fun b => b = mb) W W' → S8 w.heap.size ⟨xk, xkey, xv, xo⟩ ⟨yk, ykey, yv, yo⟩ W' := fun W W' h hx => h.ext hx n1 n2
        have e1 : ¬ w4.heap.size = mb := by omega
        have e2 : ¬ w4.heap.size + 1 = mb := by omega
        go_upto_region 6 with fail
        go_cut [9, 10] (fun v9 v10 wx => ∃ B9 B10, v9 = .pointer (some ⟨B9, 0, none⟩) ∧ v10 = .pointer (some ⟨B10, 0, none⟩) ∧ Box wx B9 ⟨rxc, rxf, rxv⟩ ∧ Box wx B10 ⟨ryc, ryf, ryv⟩ ∧ w4.heap.size ≤ B9 ∧ w4.heap.size ≤ B10 ∧ IsStore wx sb mb Mab ∧ Ext (fun b => b = mb) w4 wx)
        case first =>
          go_region_held3 (S8 w.heap.size ⟨xk, xkey, xv, xo⟩ ⟨yk, ykey, yv, yo⟩)
            (repeat (first | (with_reducible assumption) | (with_reducible refine S8.drew ?_) | (with_reducible refine S8.alloc ?_ _) | (with_reducible refine S8.set ?_ _ _ ?_ ?_) | (dsimp only; omega)))
            (first
              | (go_at_call 13; (with_reducible refine (HC1.out _ ?_).mono ?_); (repeat (first | exact Ext.refl _ _ | apply Ext.drew | apply Ext.alloc)); rintro r w5 ⟨⟨rfl, hs5, hx5⟩, X5, z5⟩; have hS5 := hK8 _ _ (by with_reducible assumption) hx5; have hc5 := HC2.out w5 hs5 X5; obtain ⟨hd5, hf5⟩ := hx5.cells; have e3 : ¬ w5.heap.size = mb := (by omega); have e4 : ¬ w5.heap.size + 1 = mb := (by omega); (first | (have y2 : w4.heap.size + 1 < w5.heap.size := lt_alloc2 hx5.size; have y1 : w4.heap.size < w5.heap.size := (by omega)) | (have y1 : w4.heap.size < w5.heap.size := lt_alloc hx5.size) | skip); have Hs5 := Lib.hid hs5; have HX5 := Lib.hid X5; have Hx5 := Lib.hid hx5; clear hs5 hx5 X5; (try simp only [Rs.val]))
              | (go_at_call 13; (with_reducible refine (hc5 _ ?_).mono ?_); (repeat (first | exact Ext.refl _ _ | apply Ext.drew | apply Ext.alloc)); rintro r w6 ⟨⟨rfl, hs6, hx6⟩, X6, z6⟩; have hS6 := hK8 _ _ (by with_reducible assumption) hx6; obtain ⟨hd6, hf6⟩ := hx6.cells; (first | (have y4 : w5.heap.size + 1 < w6.heap.size := lt_alloc2 hx6.size; have y3 : w5.heap.size < w6.heap.size := (by omega)) | (have y3 : w5.heap.size < w6.heap.size := lt_alloc hx6.size) | skip); have y5 : w4.heap.size ≤ w6.heap.size := (by omega); (first | (have y6 : w4.heap.size < w6.heap.size := (by omega)) | skip); (first | (have y7 : w4.heap.size + 1 < w6.heap.size := (by omega)) | skip); have Hs6 := Lib.hid hs6; have HX6 := Lib.hid X6; have Hx6 := Lib.hid hx6; clear hs6 hx6 X6; (try simp only [Rs.val])))
          all_goals
            go_wp2
            go_meet
            have hsb4 := Dist.out.2.2.2.1
            refine ⟨_, _, rfl, rfl, ?_, ?_, ?_, ?_, ?_, ?_⟩
            · (repeat (first | ((with_reducible refine Box.newAt ?_); (first | rfl | (focus (simp; done)))) | (with_reducible refine Box.alloc ?_ _) | (focus ((with_reducible refine Box.set3 ?_); (repeat (first | ((with_reducible refine Raw.newAt _ _ _ ?_); (first | rfl | (focus (simp; done)))) | (with_reducible refine Raw.alloc ?_ _) | (with_reducible refine Raw.drew ?_) | (with_reducible refine Raw.set ?_ _ _ _) | (with_reducible refine Raw.ext Hx6.out ?_ ?_) | (with_reducible refine Raw.ext Hx5.out ?_ ?_) | (show ¬ _ = mb; omega) | omega)); done)) | (with_reducible refine Box.other ?_ _ _ _ ?_) | omega))
            · (repeat (first | ((with_reducible refine Box.newAt ?_); (first | rfl | (focus (simp; done)))) | (with_reducible refine Box.alloc ?_ _) | (focus ((with_reducible refine Box.set3 ?_); (repeat (first | ((with_reducible refine Raw.newAt _ _ _ ?_); (first | rfl | (focus (simp; done)))) | (with_reducible refine Raw.alloc ?_ _) | (with_reducible refine Raw.drew ?_) | (with_reducible refine Raw.set ?_ _ _ _) | (with_reducible refine Raw.ext Hx6.out ?_ ?_) | (with_reducible refine Raw.ext Hx5.out ?_ ?_) | (show ¬ _ = mb; omega) | omega)); done)) | (with_reducible refine Box.other ?_ _ _ _ ?_) | omega))
            · omega
            · omega
            · refine IsStore.ext (S := fun b => w4.heap.size ≤ b) Hs6.out ?_ (by omega) (by omega)
              (repeat (first | (with_reducible exact Ext.refl _ _) | (with_reducible refine Ext.alloc ?_ _) | (with_reducible refine Ext.setCell ?_ _ (fun _ => (by dsimp only; omega)))))
            · (repeat (first | (with_reducible exact HX6.out) | (with_reducible refine Ext.alloc ?_ _) | (with_reducible refine Ext.setCell ?_ _ (fun hh => absurd hh (by dsimp only; omega)))))
        case rest =>
          obtain ⟨B9, B10, rfl, rfl, hb9, hb10, hB9, hB10, hsS, hX⟩ := hcut
          obtain ⟨ds1, ds2, ds3, ds4, ds5, ds6⟩ := Dist.out
          obtain ⟨ds7, ds8⟩ := Dist2.out
          have ht := Ht4.out.ext hX ds2 ds3
          have hp8 := (hX.blk (blk_lt Hp6.out) n1).trans Hp6.out
          have hp9 := (hX.blk (blk_lt Hp7.out) n2).trans Hp7.out
          have hxw : Ext (fun _ => False) w wc := Hx4.out.trans' hX (fun k hk e => by omega)
          have hG : Good M := by rw [← HM.out]; exact Good.nil.runM Hv.out
          have hsw := swap_law (m := M) (a := ⟨xk, xkey, xv, xo⟩) (b := ⟨yk, ykey, yv, yo⟩) (by omega) hG hxv hyv Hke.out
          have hgA := hG.doM (x := ⟨xk, xkey, xv, xo⟩) hxv
          rw [HA.out] at hsw hgA
          have hgAB := hgA.doM (x := ⟨yk, ykey, yv, yo⟩) hyv
          have hgB := hG.doM (x := ⟨yk, ykey, yv, yo⟩) hyv
          have hMab := doM_length Ma ⟨yk, ykey, yv, yo⟩
          simp only at hsw hgA hgAB
          rw [HAB.out] at hsw hgAB hMab
          obtain ⟨⟨Mb, rz⟩, hBe⟩ : ∃ p, doM M ⟨yk, ykey, yv, yo⟩ = p := ⟨_, rfl⟩
          have hMb := doM_length M ⟨yk, ykey, yv, yo⟩
          rw [hBe] at hsw hgB hMb
          simp only at hsw hgB hMb hMab hgAB
          have hgBA := hgB.doM (x := ⟨xk, xkey, xv, xo⟩) hxv
          obtain ⟨⟨Mba, rq⟩, hBA⟩ : ∃ p, doM Mb ⟨xk, xkey, xv, xo⟩ = p := ⟨_, rfl⟩
          have hMba := doM_length Mb ⟨xk, xkey, xv, xo⟩
          rw [hBA] at hsw hgBA hMba
          simp only at hsw hgBA hMba
          obtain ⟨hq1, hq2, hq3⟩ := hsw
          subst hq1 hq2
          have q0 := cell_of_cells hp9 0
          have q1 := cell_of_cells hp9 1
          have q2 := cell_of_cells hp9 2
          have q3 := cell_of_cells hp9 3
          simp at q0 q1 q2 q3
          have Hb9 := Lib.hid hb9
          have Hb10 := Lib.hid hb10
          have HsS := Lib.hid hsS
          have Ht := Lib.hid ht
          have Hp8 := Lib.hid hp8
          have Hp9 := Lib.hid hp9
          have Hxw := Lib.hid hxw
          have HBA := Lib.hid hBA
          have HgAB := Lib.hid hgAB
          have HgBA := Lib.hid hgBA
          have Hq3 := Lib.hid hq3
          clear hb9 hb10 hsS ht hp8 hp9 hxw hBA hgAB hgBA hq3 hG hgA hgB hX hK8 HC1 HC2 Hs4 Ht4 Hx4 Hp6 Hp7 hS HA HAB HM
          go_wp2_with fail
          refine (do_any wc tb nb M Ht.out (by omega) ⟨yk, ykey, yv, yo⟩ Hyy.out).mono ?_
          rw [hBe]
          rintro r w5 ⟨rfl, ht5, hx5⟩
          have hs5 := HsS.out.ext hx5 (by omega) (by omega)
          have hb9' := Hb9.out.ext hx5 (by omega)
          have hb10' := Hb10.out.ext hx5 (by omega)
          have hp8' := (hx5.blk (blk_lt Hp8.out) (by omega)).trans Hp8.out
          have hxw5 := Hxw.out.own hx5 hwnb
          clear q0 q1 q2 q3 hBe
          simp only [Rs.val]
          go_upto_region 8 with fail
          have hb11 := Box.new w5 ⟨ryc, ryf, ryv⟩
          have hxa : Ext (fun _ => False) w5 (w5.alloc (.cells #[.int .i64 ryc, .bool ryf, .int .i64 ryv] 31)) := (Ext.refl (fun _ => False) w5).alloc _
          have hs6 := hs5.ext hxa id id
          have ht6 := ht5.ext hxa id id
          have hb9a := hb9'.ext hxa id
          have hb10a := hb10'.ext hxa id
          have hp8a := (hxa.blk (blk_lt hp8') id).trans hp8'
          have hxw6 := hxw5.trans hxa
          have hnb5 := ht5.lt.2
          have hz6 := hxa.size
          clear hs5 ht5 hb9' hb10' hp8' hxw5 hxa hx5 Hb9 Hb10 HsS Ht Hp8 Hp9 Hxw
          obtain ⟨B11, hB11⟩ : ∃ B, w5.heap.size = B := ⟨_, rfl⟩
          rw [hB11] at hb11 hnb5 ⊢
          clear hB11
          generalize w5.alloc (.cells #[.int .i64 ryc, .bool ryf, .int .i64 ryv] 31) = w6 at *
          have hB : ∀ W, Ext (fun b => b = nb) w6 W → S13 w.heap.size ⟨xk, xkey, xv, xo⟩ B9 B10 B11 ⟨rxc, rxf, rxv⟩ ⟨ryc, ryf, ryv⟩ ⟨ryc, ryf, ryv⟩ W ∧ IsStore W sb mb Mab := fun W hW =>
            ⟨S13.of ((hW.blk (blk_lt hp8a) (by omega)).trans hp8a) (hb9a.ext hW (by omega)) (hb10a.ext hW (by omega)) (hb11.ext hW (by omega)), hs6.ext hW (by omega) (by omega)⟩
          have hC3 : ∀ W, Ext (fun _ => False) w6 W → Calls Try.prog 13 #[.pointer (some ⟨tb, 0, none⟩), .agg #[.int .i64 xk, .string xkey, .int .i64 xv, .int .i64 xo]] W (fun r w' => r = .returned (Rs.val ⟨rxc, rxf, rxv⟩) ∧ IsStore w' tb nb Mba ∧ Ext (fun b => b = nb) w6 w') := fun W hW => by
            have := do_any W tb nb Mb (ht6.ext hW id id) (by omega) ⟨xk, xkey, xv, xo⟩ Hxx.out
            rw [HBA.out] at this
            exact this.mono (fun r w' h => ⟨h.1, h.2.1, (hW.mono (T := fun b => b = nb) (fun _ _ h => h.elim)).trans' h.2.2 (fun _ _ e => e)⟩)
          have hC4 : ∀ W, IsStore W sb mb Mab → Calls Try.prog 14 #[.pointer (some ⟨sb, 0, none⟩)] W (SavePost W Mba) := fun W hW => by
            have := save_any W sb mb Mab hW HgAB.out.keys1000' HgAB.out.val (by omega)
            have e : SavePost W Mab = SavePost W Mba := by unfold SavePost; rw [Hq3.out]
            rw [e] at this; exact this
          have hC5 : ∀ W, IsStore W tb nb Mba → Calls Try.prog 14 #[.pointer (some ⟨tb, 0, none⟩)] W (SavePost W Mba) := fun W hW => save_any W tb nb Mba hW HgBA.out.keys1000' HgBA.out.val (by omega)
          have hS := (hB w6 (Ext.refl _ _)).1
          have HB := Lib.hid hB
          have HC3 := Lib.hid hC3
          have HC4 := Lib.hid hC4
          have HC5 := Lib.hid hC5
          have Hxw := Lib.hid hxw6
          obtain ⟨SV, hSV⟩ : ∃ S : ByteArray, (⟨(saveM Mba).toArray⟩ : ByteArray) = S := ⟨_, rfl⟩
          have HSV := Lib.hid hSV
          clear hB hC3 hC4 hC5 hxw6 hs6 ht6 hb9a hb10a hb11 hp8a hSV
          go_region_held3 (S13 w.heap.size ⟨xk, xkey, xv, xo⟩ B9 B10 B11 ⟨rxc, rxf, rxv⟩ ⟨ryc, ryf, ryv⟩ ⟨ryc, ryf, ryv⟩)
            (repeat (first | (with_reducible assumption) | (with_reducible refine S13.drew ?_)))
            (first
              | (go_at_call 13; (with_reducible refine (HC3.out _ ?_).mono ?_); (repeat (first | exact Ext.refl _ _ | apply Ext.drew)); rintro r w7 ⟨rfl, ht7, X7⟩; have hS7 := (HB.out _ X7).1; have hs7 := (HB.out _ X7).2; have Ht7 := Lib.hid ht7; have HX7 := Lib.hid X7; have Hs7 := Lib.hid hs7; clear ht7 X7 hs7; (try simp only [Rs.val]))
              | (go_at_call 14; (with_reducible refine (HC4.out _ Hs7.out).mono ?_); rintro r w8 ⟨rfl, X8⟩; rw [HSV.out]; have ht8 := Ht7.out.ext X8 id id; have HX8 := Lib.hid (HX7.out.trans' X8 (S := fun b => b = nb) (T := fun _ => False) (fun _ _ h => h.elim)); have hS8 := (HB.out _ HX8.out).1; have Ht8 := Lib.hid ht8; clear ht8 X8)
              | (go_at_call 14; (with_reducible refine (HC5.out _ Ht8.out).mono ?_); rintro r w9 ⟨rfl, X9⟩; rw [HSV.out]; have HX9 := Lib.hid (HX8.out.trans' X9 (S := fun b => b = nb) (T := fun _ => False) (fun _ _ h => h.elim)); have hS9 := (HB.out _ HX9.out).1; clear X9))
          all_goals
            go_wp2
            go_ret
            exact ⟨rfl, Hxw.out.trans' HX9.out (fun k hk e => by omega)⟩
end Go.Proofs.Ythipbmppmgkklaa
