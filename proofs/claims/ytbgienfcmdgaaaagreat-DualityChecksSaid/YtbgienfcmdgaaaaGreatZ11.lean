/-
  Package duality: the closures of Check. Conditions: the captured variables read as a program, an outcome; the numbers are small.
-/
import Derived.Test.YtbgienfcmdgaaaaGreatZ10
set_option linter.unusedVariables false
namespace Go.Proofs.YtbgienfcmdgaaaaGreat
open Go.RowKit Go.MapKept
open Go.ChangeMaps (setBlock)

/-- 10 cells -/
abbrev S10 (b0 b1 b2 b3 b4 b5 b6 b7 b8 b9 o0 o1 o2 o3 o4 o5 o6 o7 o8 o9 : Nat) (x0 x1 x2 x3 x4 x5 x6 x7 x8 x9 : Value) (W : World) : Prop := W.cell? ⟨b0, o0, none⟩ = some x0 ∧ W.cell? ⟨b1, o1, none⟩ = some x1 ∧ W.cell? ⟨b2, o2, none⟩ = some x2 ∧ W.cell? ⟨b3, o3, none⟩ = some x3 ∧ W.cell? ⟨b4, o4, none⟩ = some x4 ∧ W.cell? ⟨b5, o5, none⟩ = some x5 ∧ W.cell? ⟨b6, o6, none⟩ = some x6 ∧ W.cell? ⟨b7, o7, none⟩ = some x7 ∧ W.cell? ⟨b8, o8, none⟩ = some x8 ∧ W.cell? ⟨b9, o9, none⟩ = some x9
section
variable {b0 b1 b2 b3 b4 b5 b6 b7 b8 b9 o0 o1 o2 o3 o4 o5 o6 o7 o8 o9 : Nat} {x0 x1 x2 x3 x4 x5 x6 x7 x8 x9 : Value} {W : World}
theorem S10.drew (h : S10 b0 b1 b2 b3 b4 b5 b6 b7 b8 b9 o0 o1 o2 o3 o4 o5 o6 o7 o8 o9 x0 x1 x2 x3 x4 x5 x6 x7 x8 x9 W) : S10 b0 b1 b2 b3 b4 b5 b6 b7 b8 b9 o0 o1 o2 o3 o4 o5 o6 o7 o8 o9 x0 x1 x2 x3 x4 x5 x6 x7 x8 x9 W.drew := h
theorem S10.keep {W' : World} (h : S10 b0 b1 b2 b3 b4 b5 b6 b7 b8 b9 o0 o1 o2 o3 o4 o5 o6 o7 o8 o9 x0 x1 x2 x3 x4 x5 x6 x7 x8 x9 W) (hx : Ext (fun _ => False) W W') : S10 b0 b1 b2 b3 b4 b5 b6 b7 b8 b9 o0 o1 o2 o3 o4 o5 o6 o7 o8 o9 x0 x1 x2 x3 x4 x5 x6 x7 x8 x9 W' := ⟨cell_keep h.1 hx, cell_keep h.2.1 hx, cell_keep h.2.2.1 hx, cell_keep h.2.2.2.1 hx, cell_keep h.2.2.2.2.1 hx, cell_keep h.2.2.2.2.2.1 hx, cell_keep h.2.2.2.2.2.2.1 hx, cell_keep h.2.2.2.2.2.2.2.1 hx, cell_keep h.2.2.2.2.2.2.2.2.1 hx, cell_keep h.2.2.2.2.2.2.2.2.2 hx⟩
theorem S10.alloc (h : S10 b0 b1 b2 b3 b4 b5 b6 b7 b8 b9 o0 o1 o2 o3 o4 o5 o6 o7 o8 o9 x0 x1 x2 x3 x4 x5 x6 x7 x8 x9 W) (o : Obj) : S10 b0 b1 b2 b3 b4 b5 b6 b7 b8 b9 o0 o1 o2 o3 o4 o5 o6 o7 o8 o9 x0 x1 x2 x3 x4 x5 x6 x7 x8 x9 (W.alloc o) := ⟨cell_new h.1 o, cell_new h.2.1 o, cell_new h.2.2.1 o, cell_new h.2.2.2.1 o, cell_new h.2.2.2.2.1 o, cell_new h.2.2.2.2.2.1 o, cell_new h.2.2.2.2.2.2.1 o, cell_new h.2.2.2.2.2.2.2.1 o, cell_new h.2.2.2.2.2.2.2.2.1 o, cell_new h.2.2.2.2.2.2.2.2.2 o⟩
theorem S10.set (h : S10 b0 b1 b2 b3 b4 b5 b6 b7 b8 b9 o0 o1 o2 o3 o4 o5 o6 o7 o8 o9 x0 x1 x2 x3 x4 x5 x6 x7 x8 x9 W) (p : Addr) (u : Value) (k0 : ¬ b0 = p.block) (k1 : ¬ b1 = p.block) (k2 : ¬ b2 = p.block) (k3 : ¬ b3 = p.block) (k4 : ¬ b4 = p.block) (k5 : ¬ b5 = p.block) (k6 : ¬ b6 = p.block) (k7 : ¬ b7 = p.block) (k8 : ¬ b8 = p.block) (k9 : ¬ b9 = p.block) : S10 b0 b1 b2 b3 b4 b5 b6 b7 b8 b9 o0 o1 o2 o3 o4 o5 o6 o7 o8 o9 x0 x1 x2 x3 x4 x5 x6 x7 x8 x9 (W.setCell p u) := ⟨cell_other h.1 k0, cell_other h.2.1 k1, cell_other h.2.2.1 k2, cell_other h.2.2.2.1 k3, cell_other h.2.2.2.2.1 k4, cell_other h.2.2.2.2.2.1 k5, cell_other h.2.2.2.2.2.2.1 k6, cell_other h.2.2.2.2.2.2.2.1 k7, cell_other h.2.2.2.2.2.2.2.2.1 k8, cell_other h.2.2.2.2.2.2.2.2.2 k9⟩
end
structure OutV where
  kind : Int
  val : Rat
  pt : List Rat
  mu : List Rat
  ray : List Rat
def IsOut (w : World) (v : Value) (o : OutV) (L : Nat) : Prop := ∃ neg a1 m1 c1 a2 m2 c2 pv mv rv, v = .agg #[.int .i64 o.kind, .bool neg, .slice a1 m1 c1, .slice a2 m2 c2, pv, mv, rv] ∧ Rrat w (.agg #[.bool neg, .slice a1 m1 c1, .slice a2 m2 c2]) o.val L ∧ Rats w pv o.pt L ∧ Rats w mv o.mu L ∧ Rats w rv o.ray L ∧ InR o.kind
theorem IsOut.keep {w w' : World} {v : Value} {o : OutV} {L : Nat} (h : IsOut w v o L) (hx : Ext (fun _ => False) w w') : IsOut w' v o L := by
  obtain ⟨neg, a1, m1, c1, a2, m2, c2, pv, mv, rv, e, h1, h2, h3, h4, h5⟩ := h
  exact ⟨neg, a1, m1, c1, a2, m2, c2, pv, mv, rv, e, h1.keep hx, h2.keep hx, h3.keep hx, h4.keep hx, h5⟩
def chk1 (p : ProgV) (o : OutV) : Bool := decide (o.pt.length = p.vars.length) && decide (o.mu.length = p.rows.length) && decide (o.ray.length = 0) && optB p o.pt o.mu && decide (o.val = costQ p o.pt)
def chk2 (p : ProgV) (o : OutV) : Bool := decide (o.val = 0) && decide (o.pt.length + o.ray.length = 0) && decide (o.mu.length = p.rows.length) && infB p o.mu
def chk3 (p : ProgV) (o : OutV) : Bool := decide (o.val = 0) && decide (o.mu.length = 0) && decide (o.pt.length = p.vars.length) && decide (o.ray.length = p.vars.length) && unbB p o.pt o.ray
/-- what the closures have caught -/
structure Caught (w : World) (ob pb nb mb tb : Nat) (p : ProgV) (o : OutV) (L : Nat) (vv rv pv ov : Value) : Prop where
  prg : IsPrg w (.agg #[vv, rv]) p
  out : IsOut w ov o L
  pb : blk w pb = some (.cells #[vv, rv] 25 (0, 0))
  ob : ∃ cs, ov = .agg cs ∧ blk w ob = some (.cells cs 34 (0, 0))
  nb : blk w nb = some (.cells #[.int .i64 (p.vars.length : Int)] 3 (0, 0))
  mb : blk w mb = some (.cells #[.int .i64 (p.rows.length : Int)] 3 (0, 0))
  tb : blk w tb = some (.cells #[.bool (!decide (o.val = 0))] 4 (0, 0))
theorem Caught.keep {w w' : World} {ob pb nb mb tb : Nat} {p : ProgV} {o : OutV} {L : Nat} {vv rv pv ov : Value} (h : Caught w ob pb nb mb tb p o L vv rv pv ov) (hx : Ext (fun _ => False) w w') : Caught w' ob pb nb mb tb p o L vv rv pv ov := by
  obtain ⟨cs, e, h1⟩ := h.ob
  exact ⟨h.prg.keep hx, h.out.keep hx, blk_keep h.pb hx, ⟨cs, e, blk_keep h1 hx⟩, blk_keep h.nb hx, blk_keep h.mb hx, blk_keep h.tb hx⟩
set_option maxRecDepth 100000 in
set_option maxHeartbeats 8000000 in
theorem check1_any (w : World) (ob pb nb mb tb : Nat) (p : ProgV) (o : OutV) (L T : Nat) (vv rv pv ov : Value) (h : Caught w ob pb nb mb tb p o L vv rv pv ov) (hs : Small p T L) :
    Calls Tryz.prog 52 #[.pointer (some ⟨ob, 0, none⟩), .pointer (some ⟨nb, 0, none⟩), .pointer (some ⟨mb, 0, none⟩), .pointer (some ⟨pb, 0, none⟩)] w (BoolPost w (chk1 p o)) := by
  have h1 := hs.room.one
  obtain ⟨r1, r2, r3, r4, r5, r6, r7, r8, r9⟩ := hs.room.all
  obtain ⟨neg, a1, m1, c1, a2, m2, c2, ptv, muv, rav, rfl, hval, hpt, hmu, hra, hk⟩ := h.out
  obtain ⟨cs, e, hob⟩ := h.ob
  cases e
  obtain ⟨po, pc, rfl, -, hpn, -⟩ := hpt.shape
  obtain ⟨mo, mc, rfl, -, hmn, -⟩ := hmu.shape
  obtain ⟨zo, zc, rfl, -, hzn, -⟩ := hra.shape
  have hS : S10 ob ob ob ob ob ob nb mb pb pb 1 2 3 4 5 6 0 0 0 1 (.bool neg) (.slice a1 m1 c1) (.slice a2 m2 c2) (.slice po o.pt.length pc) (.slice mo o.mu.length mc) (.slice zo o.ray.length zc) (.int .i64 p.vars.length) (.int .i64 p.rows.length) vv rv w :=
    ⟨cellq hob 1 rfl, cellq hob 2 rfl, cellq hob 3 rfl, cellq hob 4 rfl, cellq hob 5 rfl, cellq hob 6 rfl, cellq h.nb 0 rfl, cellq h.mb 0 rfl, cellq h.pb 0 rfl, cellq h.pb 1 rfl⟩
  have HO := Lib.hid (fun W (hW : Ext (fun _ => False) w W) => Optimal_any W _ _ _ p o.pt o.mu L T (h.prg.keep hW) (hpt.keep hW) (hmu.keep hW) hs)
  have HC := Lib.hid (fun W (hW : Ext (fun _ => False) w W) => Cost_any W _ _ p o.pt L (h.prg.keep hW) (hpt.keep hW) h1 r7)
  have hcz : Sz (costQ p o.pt) (1 + p.vars.length * (L + 3)) := by
    obtain ⟨_, _, e, hv, _⟩ := h.prg
    exact costQ_sz hv (hpt.sz h1)
  have HR := Lib.hid (fun W u (hW : Ext (fun _ => False) w W) (hu : IsRat W u (costQ p o.pt)) => rcmp_any W _ u o.val _ 4100000 ((hval.keep hW).mono (by omega)) (hu.reads (hcz.mono (by omega))) (by omega) (by omega))
  have HQ := Lib.hid (show chk1 p o = (decide (o.pt.length = p.vars.length) && decide (o.mu.length = p.rows.length) && decide (o.ray.length = 0) && optB p o.pt o.mu && decide (o.val = costQ p o.pt)) from rfl)
  clear h hval hpt hmu hra hk hob hs r1 r2 r3 r4 r5 r6 r7 r8 r9 h1 hcz
  have HZ := Lib.hid (show decide (o.val = costQ p o.pt) = decide ((o.val - costQ p o.pt).num.sign = 0) from decide_eq_decide.2 ⟨fun h => (sign_zero _).2 (by rw [h]; grind), fun h => by have := (sign_zero _).1 h; grind⟩)
  rw [HZ.out] at HQ
  clear HZ
  generalize (o.val - costQ p o.pt).num.sign = sg at *
  generalize costQ p o.pt = cq at *
  generalize p.vars.length = n at *
  generalize p.rows.length = m at *
  generalize o.pt.length = pn at *
  generalize o.mu.length = mn at *
  generalize o.ray.length = zn at *
  go_enter Tryz.func52, Tryz.ntmps52
  go_upto_region 1 with fail
  by_cases e1 : pn = n
  · subst e1
    by_cases e2 : mn = m
    · subst e2
      by_cases e3 : zn = 0
      · subst e3
        cases ho : optB p o.pt o.mu with
        | false =>
          rw [ho] at HO HQ
          clear ho
          refine wp_region_held_drew (S := (S10 ob ob ob ob ob ob nb mb pb pb 1 2 3 4 5 6 0 0 0 1 (.bool neg) (.slice a1 m1 c1) (.slice a2 m2 c2) (.slice po pn pc) (.slice mo mn mc) (.slice zo 0 zc) (.int .i64 pn) (.int .i64 mn) vv rv)) (by kernel_rfl) (hS.drew) (fun hHeld => ?_)
          refine held_take 0 (v := ?_) rfl (by kernel_rfl) (by kernel_rfl) (by kernel_rfl) (fun _ _ _ h => h) (by rfl) ?_ (by assumption) ?_
          rotate_left
          · ((intro w hSw; (try dsimp only at hSw); go_simp) <;> with_reducible rfl)
          (try simp only [Act.put, List.setIfInBounds_toArray, List.set_cons_zero, List.set_cons_succ])
          refine held_take 1 (v := ?_) rfl (by kernel_rfl) (by kernel_rfl) (by kernel_rfl) (fun _ _ _ h => h) (by rfl) ?_ (by assumption) ?_
          rotate_left
          · ((intro w hSw; (try dsimp only at hSw); go_simp) <;> with_reducible rfl)
          (try simp only [Act.put, List.setIfInBounds_toArray, List.set_cons_zero, List.set_cons_succ])
          refine held_take 2 (v := ?_) rfl (by kernel_rfl) (by kernel_rfl) (by kernel_rfl) (fun _ _ _ h => h) (by rfl) ?_ (by assumption) ?_
          rotate_left
          · ((intro w hSw; (try dsimp only at hSw); go_simp) <;> with_reducible rfl)
          (try simp only [Act.put, List.setIfInBounds_toArray, List.set_cons_zero, List.set_cons_succ])
          refine held_take 3 (v := ?_) rfl (by kernel_rfl) (by kernel_rfl) (by kernel_rfl) (fun _ _ _ h => h) (by rfl) ?_ (by assumption) ?_
          rotate_left
          · ((intro w hSw; (try dsimp only at hSw); go_simp) <;> with_reducible rfl)
          (try simp only [Act.put, List.setIfInBounds_toArray, List.set_cons_zero, List.set_cons_succ])
          refine held_take 4 (v := ?_) rfl (by kernel_rfl) (by kernel_rfl) (by kernel_rfl) (fun _ _ _ h => h) (by rfl) ?_ (by assumption) ?_
          rotate_left
          · ((intro w hSw; (try dsimp only at hSw); go_simp) <;> with_reducible rfl)
          (try simp only [Act.put, List.setIfInBounds_toArray, List.set_cons_zero, List.set_cons_succ])
          refine held_take 5 (v := ?_) rfl (by kernel_rfl) (by kernel_rfl) (by kernel_rfl) (fun _ _ _ h => h) (by rfl) ?_ (by assumption) ?_
          rotate_left
          · ((intro w hSw; (try dsimp only at hSw); go_simp) <;> with_reducible rfl)
          (try simp only [Act.put, List.setIfInBounds_toArray, List.set_cons_zero, List.set_cons_succ])
          refine held_take 6 (v := ?_) rfl (by kernel_rfl) (by kernel_rfl) (by kernel_rfl) (fun _ _ _ h => h) (by rfl) ?_ (by assumption) ?_
          rotate_left
          · ((intro w hSw; (try dsimp only at hSw); go_simp) <;> with_reducible rfl)
          (try simp only [Act.put, List.setIfInBounds_toArray, List.set_cons_zero, List.set_cons_succ])
          refine held_take 7 (v := ?_) rfl (by kernel_rfl) (by kernel_rfl) (by kernel_rfl) (fun _ _ _ h => h) (by rfl) ?_ (by assumption) ?_
          rotate_left
          · ((intro w hSw; (try dsimp only at hSw); go_simp) <;> with_reducible rfl)
          (try simp only [Act.put, List.setIfInBounds_toArray, List.set_cons_zero, List.set_cons_succ])
          refine held_take 8 (v := ?_) rfl (by kernel_rfl) (by kernel_rfl) (by kernel_rfl) (fun _ _ _ h => h) (by rfl) ?_ (by assumption) ?_
          rotate_left
          · ((intro w hSw; (try dsimp only at hSw); go_simp) <;> with_reducible rfl)
          (try simp only [Act.put, List.setIfInBounds_toArray, List.set_cons_zero, List.set_cons_succ])
          refine held_take 9 (v := ?_) rfl (by kernel_rfl) (by kernel_rfl) (by kernel_rfl) (fun _ _ _ h => h) (by rfl) ?_ (by assumption) ?_
          rotate_left
          · ((intro w hSw; (try dsimp only at hSw); go_simp) <;> with_reducible rfl)
          (try simp only [Act.put, List.setIfInBounds_toArray, List.set_cons_zero, List.set_cons_succ])
          refine held_take 10 (v := ?_) rfl (by kernel_rfl) (by kernel_rfl) (by kernel_rfl) (fun _ _ _ h => h) (by rfl) ?_ (by assumption) ?_
          rotate_left
          · ((intro w hSw; (try dsimp only at hSw); go_simp) <;> with_reducible rfl)
          (try simp only [Act.put, List.setIfInBounds_toArray, List.set_cons_zero, List.set_cons_succ])
          refine held_take 11 (v := ?_) rfl (by kernel_rfl) (by kernel_rfl) (by kernel_rfl) (fun _ _ _ h => h) (by rfl) ?_ (by assumption) ?_
          rotate_left
          · ((intro w hSw; (try dsimp only at hSw); go_simp) <;> with_reducible rfl)
          (try simp only [Act.put, List.setIfInBounds_toArray, List.set_cons_zero, List.set_cons_succ])
          refine held_take 12 (v := ?_) rfl (by kernel_rfl) (by kernel_rfl) (by kernel_rfl) (fun _ _ _ h => h) (by rfl) ?_ (by assumption) ?_
          rotate_left
          · ((intro w hSw; (try dsimp only at hSw); go_simp) <;> with_reducible rfl)
          (try simp only [Act.put, List.setIfInBounds_toArray, List.set_cons_zero, List.set_cons_succ])
          refine held_take 13 (v := ?_) rfl (by kernel_rfl) (by kernel_rfl) (by kernel_rfl) (fun _ _ _ h => h) (by rfl) ?_ (by assumption) ?_
          rotate_left
          · ((intro w hSw; (try dsimp only at hSw); go_simp) <;> with_reducible rfl)
          (try simp only [Act.put, List.setIfInBounds_toArray, List.set_cons_zero, List.set_cons_succ])
          refine held_take 14 (v := ?_) rfl (by kernel_rfl) (by kernel_rfl) (by kernel_rfl) (fun _ _ _ h => h) (by rfl) ?_ (by assumption) ?_
          rotate_left
          · ((intro w hSw; (try dsimp only at hSw); go_simp) <;> with_reducible rfl)
          (try simp only [Act.put, List.setIfInBounds_toArray, List.set_cons_zero, List.set_cons_succ])
          refine held_take 15 (v := ?_) rfl (by kernel_rfl) (by kernel_rfl) (by kernel_rfl) (fun _ _ _ h => h) (by rfl) ?_ (by assumption) ?_
          rotate_left
          · ((intro w hSw; (try dsimp only at hSw); go_simp) <;> with_reducible rfl)
          (try simp only [Act.put, List.setIfInBounds_toArray, List.set_cons_zero, List.set_cons_succ])
          refine held_take 16 (v := ?_) rfl (by kernel_rfl) (by kernel_rfl) (by kernel_rfl) (fun _ _ _ h => h) (by rfl) ?_ (by assumption) ?_
          rotate_left
          · ((intro w hSw; (try dsimp only at hSw); go_simp) <;> with_reducible rfl)
          (try simp only [Act.put, List.setIfInBounds_toArray, List.set_cons_zero, List.set_cons_succ])
          refine held_take 17 (v := ?_) rfl (by kernel_rfl) (by kernel_rfl) (by kernel_rfl) (fun _ _ _ h => h) (by rfl) ?_ (by assumption) ?_
          rotate_left
          · ((intro w hSw; (try dsimp only at hSw); go_simp) <;> with_reducible rfl)
          (try simp only [Act.put, List.setIfInBounds_toArray, List.set_cons_zero, List.set_cons_succ])
          refine held_take 18 (v := ?_) rfl (by kernel_rfl) (by kernel_rfl) (by kernel_rfl) (fun _ _ _ h => h) (by rfl) ?_ (by assumption) ?_
          rotate_left
          · ((intro w hSw; (try dsimp only at hSw); go_simp) <;> with_reducible rfl)
          (try simp only [Act.put, List.setIfInBounds_toArray, List.set_cons_zero, List.set_cons_succ])
          refine held_take 19 (v := ?_) rfl (by kernel_rfl) (by kernel_rfl) (by kernel_rfl) (fun _ _ _ h => h) (by rfl) ?_ (by assumption) ?_
          rotate_left
          · ((intro w hSw; (try dsimp only at hSw); go_simp) <;> with_reducible rfl)
          (try simp only [Act.put, List.setIfInBounds_toArray, List.set_cons_zero, List.set_cons_succ])
          refine held_take 20 (v := ?_) rfl (by kernel_rfl) (by kernel_rfl) (by kernel_rfl) (fun _ _ _ h => h) (by rfl) ?_ (by assumption) ?_
          rotate_left
          · ((intro w hSw; (try dsimp only at hSw); go_simp) <;> with_reducible rfl)
          (try simp only [Act.put, List.setIfInBounds_toArray, List.set_cons_zero, List.set_cons_succ])
          refine held_take 21 (v := ?_) rfl (by kernel_rfl) (by kernel_rfl) (by kernel_rfl) (fun _ _ _ h => h) (by rfl) ?_ (by assumption) ?_
          rotate_left
          · ((intro w hSw; (try dsimp only at hSw); go_simp) <;> with_reducible rfl)
          (try simp only [Act.put, List.setIfInBounds_toArray, List.set_cons_zero, List.set_cons_succ])
          refine held_take 22 (v := ?_) rfl (by kernel_rfl) (by kernel_rfl) (by kernel_rfl) (fun _ _ _ h => h) (by rfl) ?_ (by assumption) ?_
          rotate_left
          · ((intro w hSw; (try dsimp only at hSw); go_simp) <;> with_reducible rfl)
          (try simp only [Act.put, List.setIfInBounds_toArray, List.set_cons_zero, List.set_cons_succ])
          refine held_take 23 (v := ?_) rfl (by kernel_rfl) (by kernel_rfl) (by kernel_rfl) (fun _ _ _ h => h) (by rfl) ?_ (by assumption) ?_
          rotate_left
          · ((intro w hSw; (try dsimp only at hSw); go_simp) <;> with_reducible rfl)
          (try simp only [Act.put, List.setIfInBounds_toArray, List.set_cons_zero, List.set_cons_succ])
          refine held_step 24 rfl (by kernel_rfl) (fun K hK => ?_)
          (go_simp; go_at_call 33; (with_reducible refine (HO.out _ (Ext.refl (fun _ => False) w).drew).mono ?_); rintro q1 w11 ⟨rfl, hx11⟩; have hX1 := (Ext.refl (fun _ => False) w).drew.trans hx11; have hK1 := hS.keep hX1)
          refine hK.out _ _ (hK1) (fun hHeld => ?_)
          clear hK K
          (try simp only [Act.put, List.setIfInBounds_toArray, List.set_cons_zero, List.set_cons_succ])
          refine held_take 25 (v := ?_) rfl (by kernel_rfl) (by kernel_rfl) (by kernel_rfl) (fun _ _ _ h => h) (by rfl) ?_ (by assumption) ?_
          rotate_left
          · ((intro w hSw; (try dsimp only at hSw); go_simp) <;> with_reducible rfl)
          (try simp only [Act.put, List.setIfInBounds_toArray, List.set_cons_zero, List.set_cons_succ])
          refine held_take 26 (v := ?_) rfl (by kernel_rfl) (by kernel_rfl) (by kernel_rfl) (fun _ _ _ h => h) (by rfl) ?_ (by assumption) ?_
          rotate_left
          · ((intro w hSw; (try dsimp only at hSw); go_simp) <;> with_reducible rfl)
          (try simp only [Act.put, List.setIfInBounds_toArray, List.set_cons_zero, List.set_cons_succ])
          refine held_skip 27 rfl (by kernel_rfl) (by kernel_rfl) (by kernel_rfl) (fun _ _ _ h => h) (by rfl) (by assumption) ?_
          (try simp only [Act.put, List.setIfInBounds_toArray, List.set_cons_zero, List.set_cons_succ])
          refine held_skip 28 rfl (by kernel_rfl) (by kernel_rfl) (by kernel_rfl) (fun _ _ _ h => h) (by rfl) (by assumption) ?_
          (try simp only [Act.put, List.setIfInBounds_toArray, List.set_cons_zero, List.set_cons_succ])
          refine held_skip 29 rfl (by kernel_rfl) (by kernel_rfl) (by kernel_rfl) (fun _ _ _ h => h) (by rfl) (by assumption) ?_
          (try simp only [Act.put, List.setIfInBounds_toArray, List.set_cons_zero, List.set_cons_succ])
          refine held_skip 30 rfl (by kernel_rfl) (by kernel_rfl) (by kernel_rfl) (fun _ _ _ h => h) (by rfl) (by assumption) ?_
          (try simp only [Act.put, List.setIfInBounds_toArray, List.set_cons_zero, List.set_cons_succ])
          refine held_skip 31 rfl (by kernel_rfl) (by kernel_rfl) (by kernel_rfl) (fun _ _ _ h => h) (by rfl) (by assumption) ?_
          (try simp only [Act.put, List.setIfInBounds_toArray, List.set_cons_zero, List.set_cons_succ])
          refine held_skip 32 rfl (by kernel_rfl) (by kernel_rfl) (by kernel_rfl) (fun _ _ _ h => h) (by rfl) (by assumption) ?_
          (try simp only [Act.put, List.setIfInBounds_toArray, List.set_cons_zero, List.set_cons_succ])
          refine held_skip 33 rfl (by kernel_rfl) (by kernel_rfl) (by kernel_rfl) (fun _ _ _ h => h) (by rfl) (by assumption) ?_
          (try simp only [Act.put, List.setIfInBounds_toArray, List.set_cons_zero, List.set_cons_succ])
          refine held_skip 34 rfl (by kernel_rfl) (by kernel_rfl) (by kernel_rfl) (fun _ _ _ h => h) (by rfl) (by assumption) ?_
          (try simp only [Act.put, List.setIfInBounds_toArray, List.set_cons_zero, List.set_cons_succ])
          refine held_take 35 (v := ?_) rfl (by kernel_rfl) (by kernel_rfl) (by kernel_rfl) (fun _ _ _ h => h) (by rfl) ?_ (by assumption) ?_
          rotate_left
          · ((intro w hSw; (try dsimp only at hSw); go_simp) <;> with_reducible rfl)
          (try simp only [Act.put, List.setIfInBounds_toArray, List.set_cons_zero, List.set_cons_succ])
          refine held_take 36 (v := ?_) rfl (by kernel_rfl) (by kernel_rfl) (by kernel_rfl) (fun _ _ _ h => h) (by rfl) ?_ (by assumption) ?_
          rotate_left
          · ((intro w hSw; (try dsimp only at hSw); go_simp) <;> with_reducible rfl)
          (try simp only [Act.put, List.setIfInBounds_toArray, List.set_cons_zero, List.set_cons_succ])
          refine wpAnyH_done (by kernel_rfl) ?_ _
          have HX := Lib.hid hX1
          clear hX1 hx11 hK1 hS hHeld
          go_wp2
          go_ret
          exact ⟨ret_bool (by rw [HQ.out]; simp), HX.out⟩
        | true =>
          rw [ho] at HO HQ
          clear ho
          by_cases e4 : sg = 0
          · have e4' : (sg == 0) = true := by simpa using e4
            refine wp_region_held_drew (S := (S10 ob ob ob ob ob ob nb mb pb pb 1 2 3 4 5 6 0 0 0 1 (.bool neg) (.slice a1 m1 c1) (.slice a2 m2 c2) (.slice po pn pc) (.slice mo mn mc) (.slice zo 0 zc) (.int .i64 pn) (.int .i64 mn) vv rv)) (by kernel_rfl) (hS.drew) (fun hHeld => ?_)
            refine held_take 0 (v := ?_) rfl (by kernel_rfl) (by kernel_rfl) (by kernel_rfl) (fun _ _ _ h => h) (by rfl) ?_ (by assumption) ?_
            rotate_left
            · ((intro w hSw; (try dsimp only at hSw); go_simp) <;> with_reducible rfl)
            (try simp only [Act.put, List.setIfInBounds_toArray, List.set_cons_zero, List.set_cons_succ])
            refine held_take 1 (v := ?_) rfl (by kernel_rfl) (by kernel_rfl) (by kernel_rfl) (fun _ _ _ h => h) (by rfl) ?_ (by assumption) ?_
            rotate_left
            · ((intro w hSw; (try dsimp only at hSw); go_simp) <;> with_reducible rfl)
            (try simp only [Act.put, List.setIfInBounds_toArray, List.set_cons_zero, List.set_cons_succ])
            refine held_take 2 (v := ?_) rfl (by kernel_rfl) (by kernel_rfl) (by kernel_rfl) (fun _ _ _ h => h) (by rfl) ?_ (by assumption) ?_
            rotate_left
            · ((intro w hSw; (try dsimp only at hSw); go_simp) <;> with_reducible rfl)
            (try simp only [Act.put, List.setIfInBounds_toArray, List.set_cons_zero, List.set_cons_succ])
            refine held_take 3 (v := ?_) rfl (by kernel_rfl) (by kernel_rfl) (by kernel_rfl) (fun _ _ _ h => h) (by rfl) ?_ (by assumption) ?_
            rotate_left
            · ((intro w hSw; (try dsimp only at hSw); go_simp) <;> with_reducible rfl)
            (try simp only [Act.put, List.setIfInBounds_toArray, List.set_cons_zero, List.set_cons_succ])
            refine held_take 4 (v := ?_) rfl (by kernel_rfl) (by kernel_rfl) (by kernel_rfl) (fun _ _ _ h => h) (by rfl) ?_ (by assumption) ?_
            rotate_left
            · ((intro w hSw; (try dsimp only at hSw); go_simp) <;> with_reducible rfl)
            (try simp only [Act.put, List.setIfInBounds_toArray, List.set_cons_zero, List.set_cons_succ])
            refine held_take 5 (v := ?_) rfl (by kernel_rfl) (by kernel_rfl) (by kernel_rfl) (fun _ _ _ h => h) (by rfl) ?_ (by assumption) ?_
            rotate_left
            · ((intro w hSw; (try dsimp only at hSw); go_simp) <;> with_reducible rfl)
            (try simp only [Act.put, List.setIfInBounds_toArray, List.set_cons_zero, List.set_cons_succ])
            refine held_take 6 (v := ?_) rfl (by kernel_rfl) (by kernel_rfl) (by kernel_rfl) (fun _ _ _ h => h) (by rfl) ?_ (by assumption) ?_
            rotate_left
            · ((intro w hSw; (try dsimp only at hSw); go_simp) <;> with_reducible rfl)
            (try simp only [Act.put, List.setIfInBounds_toArray, List.set_cons_zero, List.set_cons_succ])
            refine held_take 7 (v := ?_) rfl (by kernel_rfl) (by kernel_rfl) (by kernel_rfl) (fun _ _ _ h => h) (by rfl) ?_ (by assumption) ?_
            rotate_left
            · ((intro w hSw; (try dsimp only at hSw); go_simp) <;> with_reducible rfl)
            (try simp only [Act.put, List.setIfInBounds_toArray, List.set_cons_zero, List.set_cons_succ])
            refine held_take 8 (v := ?_) rfl (by kernel_rfl) (by kernel_rfl) (by kernel_rfl) (fun _ _ _ h => h) (by rfl) ?_ (by assumption) ?_
            rotate_left
            · ((intro w hSw; (try dsimp only at hSw); go_simp) <;> with_reducible rfl)
            (try simp only [Act.put, List.setIfInBounds_toArray, List.set_cons_zero, List.set_cons_succ])
            refine held_take 9 (v := ?_) rfl (by kernel_rfl) (by kernel_rfl) (by kernel_rfl) (fun _ _ _ h => h) (by rfl) ?_ (by assumption) ?_
            rotate_left
            · ((intro w hSw; (try dsimp only at hSw); go_simp) <;> with_reducible rfl)
            (try simp only [Act.put, List.setIfInBounds_toArray, List.set_cons_zero, List.set_cons_succ])
            refine held_take 10 (v := ?_) rfl (by kernel_rfl) (by kernel_rfl) (by kernel_rfl) (fun _ _ _ h => h) (by rfl) ?_ (by assumption) ?_
            rotate_left
            · ((intro w hSw; (try dsimp only at hSw); go_simp) <;> with_reducible rfl)
            (try simp only [Act.put, List.setIfInBounds_toArray, List.set_cons_zero, List.set_cons_succ])
            refine held_take 11 (v := ?_) rfl (by kernel_rfl) (by kernel_rfl) (by kernel_rfl) (fun _ _ _ h => h) (by rfl) ?_ (by assumption) ?_
            rotate_left
            · ((intro w hSw; (try dsimp only at hSw); go_simp) <;> with_reducible rfl)
            (try simp only [Act.put, List.setIfInBounds_toArray, List.set_cons_zero, List.set_cons_succ])
            refine held_take 12 (v := ?_) rfl (by kernel_rfl) (by kernel_rfl) (by kernel_rfl) (fun _ _ _ h => h) (by rfl) ?_ (by assumption) ?_
            rotate_left
            · ((intro w hSw; (try dsimp only at hSw); go_simp) <;> with_reducible rfl)
            (try simp only [Act.put, List.setIfInBounds_toArray, List.set_cons_zero, List.set_cons_succ])
            refine held_take 13 (v := ?_) rfl (by kernel_rfl) (by kernel_rfl) (by kernel_rfl) (fun _ _ _ h => h) (by rfl) ?_ (by assumption) ?_
            rotate_left
            · ((intro w hSw; (try dsimp only at hSw); go_simp) <;> with_reducible rfl)
            (try simp only [Act.put, List.setIfInBounds_toArray, List.set_cons_zero, List.set_cons_succ])
            refine held_take 14 (v := ?_) rfl (by kernel_rfl) (by kernel_rfl) (by kernel_rfl) (fun _ _ _ h => h) (by rfl) ?_ (by assumption) ?_
            rotate_left
            · ((intro w hSw; (try dsimp only at hSw); go_simp) <;> with_reducible rfl)
            (try simp only [Act.put, List.setIfInBounds_toArray, List.set_cons_zero, List.set_cons_succ])
            refine held_take 15 (v := ?_) rfl (by kernel_rfl) (by kernel_rfl) (by kernel_rfl) (fun _ _ _ h => h) (by rfl) ?_ (by assumption) ?_
            rotate_left
            · ((intro w hSw; (try dsimp only at hSw); go_simp) <;> with_reducible rfl)
            (try simp only [Act.put, List.setIfInBounds_toArray, List.set_cons_zero, List.set_cons_succ])
            refine held_take 16 (v := ?_) rfl (by kernel_rfl) (by kernel_rfl) (by kernel_rfl) (fun _ _ _ h => h) (by rfl) ?_ (by assumption) ?_
            rotate_left
            · ((intro w hSw; (try dsimp only at hSw); go_simp) <;> with_reducible rfl)
            (try simp only [Act.put, List.setIfInBounds_toArray, List.set_cons_zero, List.set_cons_succ])
            refine held_take 17 (v := ?_) rfl (by kernel_rfl) (by kernel_rfl) (by kernel_rfl) (fun _ _ _ h => h) (by rfl) ?_ (by assumption) ?_
            rotate_left
            · ((intro w hSw; (try dsimp only at hSw); go_simp) <;> with_reducible rfl)
            (try simp only [Act.put, List.setIfInBounds_toArray, List.set_cons_zero, List.set_cons_succ])
            refine held_take 18 (v := ?_) rfl (by kernel_rfl) (by kernel_rfl) (by kernel_rfl) (fun _ _ _ h => h) (by rfl) ?_ (by assumption) ?_
            rotate_left
            · ((intro w hSw; (try dsimp only at hSw); go_simp) <;> with_reducible rfl)
            (try simp only [Act.put, List.setIfInBounds_toArray, List.set_cons_zero, List.set_cons_succ])
            refine held_take 19 (v := ?_) rfl (by kernel_rfl) (by kernel_rfl) (by kernel_rfl) (fun _ _ _ h => h) (by rfl) ?_ (by assumption) ?_
            rotate_left
            · ((intro w hSw; (try dsimp only at hSw); go_simp) <;> with_reducible rfl)
            (try simp only [Act.put, List.setIfInBounds_toArray, List.set_cons_zero, List.set_cons_succ])
            refine held_take 20 (v := ?_) rfl (by kernel_rfl) (by kernel_rfl) (by kernel_rfl) (fun _ _ _ h => h) (by rfl) ?_ (by assumption) ?_
            rotate_left
            · ((intro w hSw; (try dsimp only at hSw); go_simp) <;> with_reducible rfl)
            (try simp only [Act.put, List.setIfInBounds_toArray, List.set_cons_zero, List.set_cons_succ])
            refine held_take 21 (v := ?_) rfl (by kernel_rfl) (by kernel_rfl) (by kernel_rfl) (fun _ _ _ h => h) (by rfl) ?_ (by assumption) ?_
            rotate_left
            · ((intro w hSw; (try dsimp only at hSw); go_simp) <;> with_reducible rfl)
            (try simp only [Act.put, List.setIfInBounds_toArray, List.set_cons_zero, List.set_cons_succ])
            refine held_take 22 (v := ?_) rfl (by kernel_rfl) (by kernel_rfl) (by kernel_rfl) (fun _ _ _ h => h) (by rfl) ?_ (by assumption) ?_
            rotate_left
            · ((intro w hSw; (try dsimp only at hSw); go_simp) <;> with_reducible rfl)
            (try simp only [Act.put, List.setIfInBounds_toArray, List.set_cons_zero, List.set_cons_succ])
            refine held_take 23 (v := ?_) rfl (by kernel_rfl) (by kernel_rfl) (by kernel_rfl) (fun _ _ _ h => h) (by rfl) ?_ (by assumption) ?_
            rotate_left
            · ((intro w hSw; (try dsimp only at hSw); go_simp) <;> with_reducible rfl)
            (try simp only [Act.put, List.setIfInBounds_toArray, List.set_cons_zero, List.set_cons_succ])
            refine held_step 24 rfl (by kernel_rfl) (fun K hK => ?_)
            (go_simp; go_at_call 33; (with_reducible refine (HO.out _ (Ext.refl (fun _ => False) w).drew).mono ?_); rintro q1 w11 ⟨rfl, hx11⟩; have hX1 := (Ext.refl (fun _ => False) w).drew.trans hx11; have hK1 := hS.keep hX1)
            refine hK.out _ _ (hK1) (fun hHeld => ?_)
            clear hK K
            (try simp only [Act.put, List.setIfInBounds_toArray, List.set_cons_zero, List.set_cons_succ])
            refine held_take 25 (v := ?_) rfl (by kernel_rfl) (by kernel_rfl) (by kernel_rfl) (fun _ _ _ h => h) (by rfl) ?_ (by assumption) ?_
            rotate_left
            · ((intro w hSw; (try dsimp only at hSw); go_simp) <;> with_reducible rfl)
            (try simp only [Act.put, List.setIfInBounds_toArray, List.set_cons_zero, List.set_cons_succ])
            refine held_take 26 (v := ?_) rfl (by kernel_rfl) (by kernel_rfl) (by kernel_rfl) (fun _ _ _ h => h) (by rfl) ?_ (by assumption) ?_
            rotate_left
            · ((intro w hSw; (try dsimp only at hSw); go_simp) <;> with_reducible rfl)
            (try simp only [Act.put, List.setIfInBounds_toArray, List.set_cons_zero, List.set_cons_succ])
            refine held_take 27 (v := ?_) rfl (by kernel_rfl) (by kernel_rfl) (by kernel_rfl) (fun _ _ _ h => h) (by rfl) ?_ (by assumption) ?_
            rotate_left
            · ((intro w hSw; (try dsimp only at hSw); go_simp) <;> with_reducible rfl)
            (try simp only [Act.put, List.setIfInBounds_toArray, List.set_cons_zero, List.set_cons_succ])
            refine held_take 28 (v := ?_) rfl (by kernel_rfl) (by kernel_rfl) (by kernel_rfl) (fun _ _ _ h => h) (by rfl) ?_ (by assumption) ?_
            rotate_left
            · ((intro w hSw; (try dsimp only at hSw); go_simp) <;> with_reducible rfl)
            (try simp only [Act.put, List.setIfInBounds_toArray, List.set_cons_zero, List.set_cons_succ])
            refine held_take 29 (v := ?_) rfl (by kernel_rfl) (by kernel_rfl) (by kernel_rfl) (fun _ _ _ h => h) (by rfl) ?_ (by assumption) ?_
            rotate_left
            · ((intro w hSw; (try dsimp only at hSw); go_simp) <;> with_reducible rfl)
            (try simp only [Act.put, List.setIfInBounds_toArray, List.set_cons_zero, List.set_cons_succ])
            refine held_take 30 (v := ?_) rfl (by kernel_rfl) (by kernel_rfl) (by kernel_rfl) (fun _ _ _ h => h) (by rfl) ?_ (by assumption) ?_
            rotate_left
            · ((intro w hSw; (try dsimp only at hSw); go_simp) <;> with_reducible rfl)
            (try simp only [Act.put, List.setIfInBounds_toArray, List.set_cons_zero, List.set_cons_succ])
            refine held_take 31 (v := ?_) rfl (by kernel_rfl) (by kernel_rfl) (by kernel_rfl) (fun _ _ _ h => h) (by rfl) ?_ (by assumption) ?_
            rotate_left
            · ((intro w hSw; (try dsimp only at hSw); go_simp) <;> with_reducible rfl)
            (try simp only [Act.put, List.setIfInBounds_toArray, List.set_cons_zero, List.set_cons_succ])
            refine held_step 32 rfl (by kernel_rfl) (fun K hK => ?_)
            (go_simp; go_at_call 54; (with_reducible refine (HC.out _ hX1).mono ?_); rintro q2 w12 ⟨v12, rfl, h12, hx12⟩; have hX2 := hX1.trans hx12; have hK2 := hS.keep hX2; have hC := HR.out w12 _ hX2 h12; obtain ⟨n12, a12, l12, c12, a12', l12', c12', rfl⟩ := h12.shape)
            refine hK.out _ _ (hK2) (fun hHeld => ?_)
            clear hK K
            (try simp only [Act.put, List.setIfInBounds_toArray, List.set_cons_zero, List.set_cons_succ])
            refine held_step 33 rfl (by kernel_rfl) (fun K hK => ?_)
            (go_simp; go_at_call 53; (with_reducible refine hC.mono ?_); rintro q3 w13 ⟨rfl, hx13⟩; have hX3 := hX2.trans hx13; have hK3 := hS.keep hX3)
            refine hK.out _ _ (hK3) (fun hHeld => ?_)
            clear hK K
            (try simp only [Act.put, List.setIfInBounds_toArray, List.set_cons_zero, List.set_cons_succ])
            refine held_take 34 (v := ?_) rfl (by kernel_rfl) (by kernel_rfl) (by kernel_rfl) (fun _ _ _ h => h) (by rfl) ?_ (by assumption) ?_
            rotate_left
            · ((intro w hSw; (try dsimp only at hSw); go_simp) <;> with_reducible rfl)
            (try simp only [Act.put, List.setIfInBounds_toArray, List.set_cons_zero, List.set_cons_succ])
            refine held_take 35 (v := ?_) rfl (by kernel_rfl) (by kernel_rfl) (by kernel_rfl) (fun _ _ _ h => h) (by rfl) ?_ (by assumption) ?_
            rotate_left
            · ((intro w hSw; (try dsimp only at hSw); go_simp) <;> with_reducible rfl)
            (try simp only [Act.put, List.setIfInBounds_toArray, List.set_cons_zero, List.set_cons_succ])
            refine held_take 36 (v := ?_) rfl (by kernel_rfl) (by kernel_rfl) (by kernel_rfl) (fun _ _ _ h => h) (by rfl) ?_ (by assumption) ?_
            rotate_left
            · ((intro w hSw; (try dsimp only at hSw); go_simp) <;> with_reducible rfl)
            (try simp only [Act.put, List.setIfInBounds_toArray, List.set_cons_zero, List.set_cons_succ])
            refine wpAnyH_done (by kernel_rfl) ?_ _
            have HX := Lib.hid hX3
            clear hX1 hx11 hK1 hX2 hx12 hK2 hX3 hx13 hK3 h12 hC hS hHeld
            have HE := Lib.hid e4
            go_wp2
            go_ret
            exact ⟨ret_bool (by rw [HQ.out, HE.out]; simp), HX.out⟩
          · have e4' : (sg == 0) = false := by simpa using e4
            refine wp_region_held_drew (S := (S10 ob ob ob ob ob ob nb mb pb pb 1 2 3 4 5 6 0 0 0 1 (.bool neg) (.slice a1 m1 c1) (.slice a2 m2 c2) (.slice po pn pc) (.slice mo mn mc) (.slice zo 0 zc) (.int .i64 pn) (.int .i64 mn) vv rv)) (by kernel_rfl) (hS.drew) (fun hHeld => ?_)
            refine held_take 0 (v := ?_) rfl (by kernel_rfl) (by kernel_rfl) (by kernel_rfl) (fun _ _ _ h => h) (by rfl) ?_ (by assumption) ?_
            rotate_left
            · ((intro w hSw; (try dsimp only at hSw); go_simp) <;> with_reducible rfl)
            (try simp only [Act.put, List.setIfInBounds_toArray, List.set_cons_zero, List.set_cons_succ])
            refine held_take 1 (v := ?_) rfl (by kernel_rfl) (by kernel_rfl) (by kernel_rfl) (fun _ _ _ h => h) (by rfl) ?_ (by assumption) ?_
            rotate_left
            · ((intro w hSw; (try dsimp only at hSw); go_simp) <;> with_reducible rfl)
            (try simp only [Act.put, List.setIfInBounds_toArray, List.set_cons_zero, List.set_cons_succ])
            refine held_take 2 (v := ?_) rfl (by kernel_rfl) (by kernel_rfl) (by kernel_rfl) (fun _ _ _ h => h) (by rfl) ?_ (by assumption) ?_
            rotate_left
            · ((intro w hSw; (try dsimp only at hSw); go_simp) <;> with_reducible rfl)
            (try simp only [Act.put, List.setIfInBounds_toArray, List.set_cons_zero, List.set_cons_succ])
            refine held_take 3 (v := ?_) rfl (by kernel_rfl) (by kernel_rfl) (by kernel_rfl) (fun _ _ _ h => h) (by rfl) ?_ (by assumption) ?_
            rotate_left
            · ((intro w hSw; (try dsimp only at hSw); go_simp) <;> with_reducible rfl)
            (try simp only [Act.put, List.setIfInBounds_toArray, List.set_cons_zero, List.set_cons_succ])
            refine held_take 4 (v := ?_) rfl (by kernel_rfl) (by kernel_rfl) (by kernel_rfl) (fun _ _ _ h => h) (by rfl) ?_ (by assumption) ?_
            rotate_left
            · ((intro w hSw; (try dsimp only at hSw); go_simp) <;> with_reducible rfl)
            (try simp only [Act.put, List.setIfInBounds_toArray, List.set_cons_zero, List.set_cons_succ])
            refine held_take 5 (v := ?_) rfl (by kernel_rfl) (by kernel_rfl) (by kernel_rfl) (fun _ _ _ h => h) (by rfl) ?_ (by assumption) ?_
            rotate_left
            · ((intro w hSw; (try dsimp only at hSw); go_simp) <;> with_reducible rfl)
            (try simp only [Act.put, List.setIfInBounds_toArray, List.set_cons_zero, List.set_cons_succ])
            refine held_take 6 (v := ?_) rfl (by kernel_rfl) (by kernel_rfl) (by kernel_rfl) (fun _ _ _ h => h) (by rfl) ?_ (by assumption) ?_
            rotate_left
            · ((intro w hSw; (try dsimp only at hSw); go_simp) <;> with_reducible rfl)
            (try simp only [Act.put, List.setIfInBounds_toArray, List.set_cons_zero, List.set_cons_succ])
            refine held_take 7 (v := ?_) rfl (by kernel_rfl) (by kernel_rfl) (by kernel_rfl) (fun _ _ _ h => h) (by rfl) ?_ (by assumption) ?_
            rotate_left
            · ((intro w hSw; (try dsimp only at hSw); go_simp) <;> with_reducible rfl)
            (try simp only [Act.put, List.setIfInBounds_toArray, List.set_cons_zero, List.set_cons_succ])
            refine held_take 8 (v := ?_) rfl (by kernel_rfl) (by kernel_rfl) (by kernel_rfl) (fun _ _ _ h => h) (by rfl) ?_ (by assumption) ?_
            rotate_left
            · ((intro w hSw; (try dsimp only at hSw); go_simp) <;> with_reducible rfl)
            (try simp only [Act.put, List.setIfInBounds_toArray, List.set_cons_zero, List.set_cons_succ])
            refine held_take 9 (v := ?_) rfl (by kernel_rfl) (by kernel_rfl) (by kernel_rfl) (fun _ _ _ h => h) (by rfl) ?_ (by assumption) ?_
            rotate_left
            · ((intro w hSw; (try dsimp only at hSw); go_simp) <;> with_reducible rfl)
            (try simp only [Act.put, List.setIfInBounds_toArray, List.set_cons_zero, List.set_cons_succ])
            refine held_take 10 (v := ?_) rfl (by kernel_rfl) (by kernel_rfl) (by kernel_rfl) (fun _ _ _ h => h) (by rfl) ?_ (by assumption) ?_
            rotate_left
            · ((intro w hSw; (try dsimp only at hSw); go_simp) <;> with_reducible rfl)
            (try simp only [Act.put, List.setIfInBounds_toArray, List.set_cons_zero, List.set_cons_succ])
            refine held_take 11 (v := ?_) rfl (by kernel_rfl) (by kernel_rfl) (by kernel_rfl) (fun _ _ _ h => h) (by rfl) ?_ (by assumption) ?_
            rotate_left
            · ((intro w hSw; (try dsimp only at hSw); go_simp) <;> with_reducible rfl)
            (try simp only [Act.put, List.setIfInBounds_toArray, List.set_cons_zero, List.set_cons_succ])
            refine held_take 12 (v := ?_) rfl (by kernel_rfl) (by kernel_rfl) (by kernel_rfl) (fun _ _ _ h => h) (by rfl) ?_ (by assumption) ?_
            rotate_left
            · ((intro w hSw; (try dsimp only at hSw); go_simp) <;> with_reducible rfl)
            (try simp only [Act.put, List.setIfInBounds_toArray, List.set_cons_zero, List.set_cons_succ])
            refine held_take 13 (v := ?_) rfl (by kernel_rfl) (by kernel_rfl) (by kernel_rfl) (fun _ _ _ h => h) (by rfl) ?_ (by assumption) ?_
            rotate_left
            · ((intro w hSw; (try dsimp only at hSw); go_simp) <;> with_reducible rfl)
            (try simp only [Act.put, List.setIfInBounds_toArray, List.set_cons_zero, List.set_cons_succ])
            refine held_take 14 (v := ?_) rfl (by kernel_rfl) (by kernel_rfl) (by kernel_rfl) (fun _ _ _ h => h) (by rfl) ?_ (by assumption) ?_
            rotate_left
            · ((intro w hSw; (try dsimp only at hSw); go_simp) <;> with_reducible rfl)
            (try simp only [Act.put, List.setIfInBounds_toArray, List.set_cons_zero, List.set_cons_succ])
            refine held_take 15 (v := ?_) rfl (by kernel_rfl) (by kernel_rfl) (by kernel_rfl) (fun _ _ _ h => h) (by rfl) ?_ (by assumption) ?_
            rotate_left
            · ((intro w hSw; (try dsimp only at hSw); go_simp) <;> with_reducible rfl)
            (try simp only [Act.put, List.setIfInBounds_toArray, List.set_cons_zero, List.set_cons_succ])
            refine held_take 16 (v := ?_) rfl (by kernel_rfl) (by kernel_rfl) (by kernel_rfl) (fun _ _ _ h => h) (by rfl) ?_ (by assumption) ?_
            rotate_left
            · ((intro w hSw; (try dsimp only at hSw); go_simp) <;> with_reducible rfl)
            (try simp only [Act.put, List.setIfInBounds_toArray, List.set_cons_zero, List.set_cons_succ])
            refine held_take 17 (v := ?_) rfl (by kernel_rfl) (by kernel_rfl) (by kernel_rfl) (fun _ _ _ h => h) (by rfl) ?_ (by assumption) ?_
            rotate_left
            · ((intro w hSw; (try dsimp only at hSw); go_simp) <;> with_reducible rfl)
            (try simp only [Act.put, List.setIfInBounds_toArray, List.set_cons_zero, List.set_cons_succ])
            refine held_take 18 (v := ?_) rfl (by kernel_rfl) (by kernel_rfl) (by kernel_rfl) (fun _ _ _ h => h) (by rfl) ?_ (by assumption) ?_
            rotate_left
            · ((intro w hSw; (try dsimp only at hSw); go_simp) <;> with_reducible rfl)
            (try simp only [Act.put, List.setIfInBounds_toArray, List.set_cons_zero, List.set_cons_succ])
            refine held_take 19 (v := ?_) rfl (by kernel_rfl) (by kernel_rfl) (by kernel_rfl) (fun _ _ _ h => h) (by rfl) ?_ (by assumption) ?_
            rotate_left
            · ((intro w hSw; (try dsimp only at hSw); go_simp) <;> with_reducible rfl)
            (try simp only [Act.put, List.setIfInBounds_toArray, List.set_cons_zero, List.set_cons_succ])
            refine held_take 20 (v := ?_) rfl (by kernel_rfl) (by kernel_rfl) (by kernel_rfl) (fun _ _ _ h => h) (by rfl) ?_ (by assumption) ?_
            rotate_left
            · ((intro w hSw; (try dsimp only at hSw); go_simp) <;> with_reducible rfl)
            (try simp only [Act.put, List.setIfInBounds_toArray, List.set_cons_zero, List.set_cons_succ])
            refine held_take 21 (v := ?_) rfl (by kernel_rfl) (by kernel_rfl) (by kernel_rfl) (fun _ _ _ h => h) (by rfl) ?_ (by assumption) ?_
            rotate_left
            · ((intro w hSw; (try dsimp only at hSw); go_simp) <;> with_reducible rfl)
            (try simp only [Act.put, List.setIfInBounds_toArray, List.set_cons_zero, List.set_cons_succ])
            refine held_take 22 (v := ?_) rfl (by kernel_rfl) (by kernel_rfl) (by kernel_rfl) (fun _ _ _ h => h) (by rfl) ?_ (by assumption) ?_
            rotate_left
            · ((intro w hSw; (try dsimp only at hSw); go_simp) <;> with_reducible rfl)
            (try simp only [Act.put, List.setIfInBounds_toArray, List.set_cons_zero, List.set_cons_succ])
            refine held_take 23 (v := ?_) rfl (by kernel_rfl) (by kernel_rfl) (by kernel_rfl) (fun _ _ _ h => h) (by rfl) ?_ (by assumption) ?_
            rotate_left
            · ((intro w hSw; (try dsimp only at hSw); go_simp) <;> with_reducible rfl)
            (try simp only [Act.put, List.setIfInBounds_toArray, List.set_cons_zero, List.set_cons_succ])
            refine held_step 24 rfl (by kernel_rfl) (fun K hK => ?_)
            (go_simp; go_at_call 33; (with_reducible refine (HO.out _ (Ext.refl (fun _ => False) w).drew).mono ?_); rintro q1 w11 ⟨rfl, hx11⟩; have hX1 := (Ext.refl (fun _ => False) w).drew.trans hx11; have hK1 := hS.keep hX1)
            refine hK.out _ _ (hK1) (fun hHeld => ?_)
            clear hK K
            (try simp only [Act.put, List.setIfInBounds_toArray, List.set_cons_zero, List.set_cons_succ])
            refine held_take 25 (v := ?_) rfl (by kernel_rfl) (by kernel_rfl) (by kernel_rfl) (fun _ _ _ h => h) (by rfl) ?_ (by assumption) ?_
            rotate_left
            · ((intro w hSw; (try dsimp only at hSw); go_simp) <;> with_reducible rfl)
            (try simp only [Act.put, List.setIfInBounds_toArray, List.set_cons_zero, List.set_cons_succ])
            refine held_take 26 (v := ?_) rfl (by kernel_rfl) (by kernel_rfl) (by kernel_rfl) (fun _ _ _ h => h) (by rfl) ?_ (by assumption) ?_
            rotate_left
            · ((intro w hSw; (try dsimp only at hSw); go_simp) <;> with_reducible rfl)
            (try simp only [Act.put, List.setIfInBounds_toArray, List.set_cons_zero, List.set_cons_succ])
            refine held_take 27 (v := ?_) rfl (by kernel_rfl) (by kernel_rfl) (by kernel_rfl) (fun _ _ _ h => h) (by rfl) ?_ (by assumption) ?_
            rotate_left
            · ((intro w hSw; (try dsimp only at hSw); go_simp) <;> with_reducible rfl)
            (try simp only [Act.put, List.setIfInBounds_toArray, List.set_cons_zero, List.set_cons_succ])
            refine held_take 28 (v := ?_) rfl (by kernel_rfl) (by kernel_rfl) (by kernel_rfl) (fun _ _ _ h => h) (by rfl) ?_ (by assumption) ?_
            rotate_left
            · ((intro w hSw; (try dsimp only at hSw); go_simp) <;> with_reducible rfl)
            (try simp only [Act.put, List.setIfInBounds_toArray, List.set_cons_zero, List.set_cons_succ])
            refine held_take 29 (v := ?_) rfl (by kernel_rfl) (by kernel_rfl) (by kernel_rfl) (fun _ _ _ h => h) (by rfl) ?_ (by assumption) ?_
            rotate_left
            · ((intro w hSw; (try dsimp only at hSw); go_simp) <;> with_reducible rfl)
            (try simp only [Act.put, List.setIfInBounds_toArray, List.set_cons_zero, List.set_cons_succ])
            refine held_take 30 (v := ?_) rfl (by kernel_rfl) (by kernel_rfl) (by kernel_rfl) (fun _ _ _ h => h) (by rfl) ?_ (by assumption) ?_
            rotate_left
            · ((intro w hSw; (try dsimp only at hSw); go_simp) <;> with_reducible rfl)
            (try simp only [Act.put, List.setIfInBounds_toArray, List.set_cons_zero, List.set_cons_succ])
            refine held_take 31 (v := ?_) rfl (by kernel_rfl) (by kernel_rfl) (by kernel_rfl) (fun _ _ _ h => h) (by rfl) ?_ (by assumption) ?_
            rotate_left
            · ((intro w hSw; (try dsimp only at hSw); go_simp) <;> with_reducible rfl)
            (try simp only [Act.put, List.setIfInBounds_toArray, List.set_cons_zero, List.set_cons_succ])
            refine held_step 32 rfl (by kernel_rfl) (fun K hK => ?_)
            (go_simp; go_at_call 54; (with_reducible refine (HC.out _ hX1).mono ?_); rintro q2 w12 ⟨v12, rfl, h12, hx12⟩; have hX2 := hX1.trans hx12; have hK2 := hS.keep hX2; have hC := HR.out w12 _ hX2 h12; obtain ⟨n12, a12, l12, c12, a12', l12', c12', rfl⟩ := h12.shape)
            refine hK.out _ _ (hK2) (fun hHeld => ?_)
            clear hK K
            (try simp only [Act.put, List.setIfInBounds_toArray, List.set_cons_zero, List.set_cons_succ])
            refine held_step 33 rfl (by kernel_rfl) (fun K hK => ?_)
            (go_simp; go_at_call 53; (with_reducible refine hC.mono ?_); rintro q3 w13 ⟨rfl, hx13⟩; have hX3 := hX2.trans hx13; have hK3 := hS.keep hX3)
            refine hK.out _ _ (hK3) (fun hHeld => ?_)
            clear hK K
            (try simp only [Act.put, List.setIfInBounds_toArray, List.set_cons_zero, List.set_cons_succ])
            refine held_take 34 (v := ?_) rfl (by kernel_rfl) (by kernel_rfl) (by kernel_rfl) (fun _ _ _ h => h) (by rfl) ?_ (by assumption) ?_
            rotate_left
            · ((intro w hSw; (try dsimp only at hSw); go_simp) <;> with_reducible rfl)
            (try simp only [Act.put, List.setIfInBounds_toArray, List.set_cons_zero, List.set_cons_succ])
            refine held_take 35 (v := ?_) rfl (by kernel_rfl) (by kernel_rfl) (by kernel_rfl) (fun _ _ _ h => h) (by rfl) ?_ (by assumption) ?_
            rotate_left
            · ((intro w hSw; (try dsimp only at hSw); go_simp) <;> with_reducible rfl)
            (try simp only [Act.put, List.setIfInBounds_toArray, List.set_cons_zero, List.set_cons_succ])
            refine held_take 36 (v := ?_) rfl (by kernel_rfl) (by kernel_rfl) (by kernel_rfl) (fun _ _ _ h => h) (by rfl) ?_ (by assumption) ?_
            rotate_left
            · ((intro w hSw; (try dsimp only at hSw); go_simp) <;> with_reducible rfl)
            (try simp only [Act.put, List.setIfInBounds_toArray, List.set_cons_zero, List.set_cons_succ])
            refine wpAnyH_done (by kernel_rfl) ?_ _
            have HX := Lib.hid hX3
            clear hX1 hx11 hK1 hX2 hx12 hK2 hX3 hx13 hK3 h12 hC hS hHeld
            go_wp2
            go_ret
            exact ⟨ret_bool (by rw [HQ.out, decide_eq_false e4]; simp), HX.out⟩
      · have e3' : ((zn : Int) == 0) = false := by simpa using e3
        refine wp_region_held_drew (S := (S10 ob ob ob ob ob ob nb mb pb pb 1 2 3 4 5 6 0 0 0 1 (.bool neg) (.slice a1 m1 c1) (.slice a2 m2 c2) (.slice po pn pc) (.slice mo mn mc) (.slice zo zn zc) (.int .i64 pn) (.int .i64 mn) vv rv)) (by kernel_rfl) (hS.drew) (fun hHeld => ?_)
        refine held_take 0 (v := ?_) rfl (by kernel_rfl) (by kernel_rfl) (by kernel_rfl) (fun _ _ _ h => h) (by rfl) ?_ (by assumption) ?_
        rotate_left
        · ((intro w hSw; (try dsimp only at hSw); go_simp) <;> with_reducible rfl)
        (try simp only [Act.put, List.setIfInBounds_toArray, List.set_cons_zero, List.set_cons_succ])
        refine held_take 1 (v := ?_) rfl (by kernel_rfl) (by kernel_rfl) (by kernel_rfl) (fun _ _ _ h => h) (by rfl) ?_ (by assumption) ?_
        rotate_left
        · ((intro w hSw; (try dsimp only at hSw); go_simp) <;> with_reducible rfl)
        (try simp only [Act.put, List.setIfInBounds_toArray, List.set_cons_zero, List.set_cons_succ])
        refine held_take 2 (v := ?_) rfl (by kernel_rfl) (by kernel_rfl) (by kernel_rfl) (fun _ _ _ h => h) (by rfl) ?_ (by assumption) ?_
        rotate_left
        · ((intro w hSw; (try dsimp only at hSw); go_simp) <;> with_reducible rfl)
        (try simp only [Act.put, List.setIfInBounds_toArray, List.set_cons_zero, List.set_cons_succ])
        refine held_take 3 (v := ?_) rfl (by kernel_rfl) (by kernel_rfl) (by kernel_rfl) (fun _ _ _ h => h) (by rfl) ?_ (by assumption) ?_
        rotate_left
        · ((intro w hSw; (try dsimp only at hSw); go_simp) <;> with_reducible rfl)
        (try simp only [Act.put, List.setIfInBounds_toArray, List.set_cons_zero, List.set_cons_succ])
        refine held_take 4 (v := ?_) rfl (by kernel_rfl) (by kernel_rfl) (by kernel_rfl) (fun _ _ _ h => h) (by rfl) ?_ (by assumption) ?_
        rotate_left
        · ((intro w hSw; (try dsimp only at hSw); go_simp) <;> with_reducible rfl)
        (try simp only [Act.put, List.setIfInBounds_toArray, List.set_cons_zero, List.set_cons_succ])
        refine held_take 5 (v := ?_) rfl (by kernel_rfl) (by kernel_rfl) (by kernel_rfl) (fun _ _ _ h => h) (by rfl) ?_ (by assumption) ?_
        rotate_left
        · ((intro w hSw; (try dsimp only at hSw); go_simp) <;> with_reducible rfl)
        (try simp only [Act.put, List.setIfInBounds_toArray, List.set_cons_zero, List.set_cons_succ])
        refine held_take 6 (v := ?_) rfl (by kernel_rfl) (by kernel_rfl) (by kernel_rfl) (fun _ _ _ h => h) (by rfl) ?_ (by assumption) ?_
        rotate_left
        · ((intro w hSw; (try dsimp only at hSw); go_simp) <;> with_reducible rfl)
        (try simp only [Act.put, List.setIfInBounds_toArray, List.set_cons_zero, List.set_cons_succ])
        refine held_take 7 (v := ?_) rfl (by kernel_rfl) (by kernel_rfl) (by kernel_rfl) (fun _ _ _ h => h) (by rfl) ?_ (by assumption) ?_
        rotate_left
        · ((intro w hSw; (try dsimp only at hSw); go_simp) <;> with_reducible rfl)
        (try simp only [Act.put, List.setIfInBounds_toArray, List.set_cons_zero, List.set_cons_succ])
        refine held_take 8 (v := ?_) rfl (by kernel_rfl) (by kernel_rfl) (by kernel_rfl) (fun _ _ _ h => h) (by rfl) ?_ (by assumption) ?_
        rotate_left
        · ((intro w hSw; (try dsimp only at hSw); go_simp) <;> with_reducible rfl)
        (try simp only [Act.put, List.setIfInBounds_toArray, List.set_cons_zero, List.set_cons_succ])
        refine held_take 9 (v := ?_) rfl (by kernel_rfl) (by kernel_rfl) (by kernel_rfl) (fun _ _ _ h => h) (by rfl) ?_ (by assumption) ?_
        rotate_left
        · ((intro w hSw; (try dsimp only at hSw); go_simp) <;> with_reducible rfl)
        (try simp only [Act.put, List.setIfInBounds_toArray, List.set_cons_zero, List.set_cons_succ])
        refine held_take 10 (v := ?_) rfl (by kernel_rfl) (by kernel_rfl) (by kernel_rfl) (fun _ _ _ h => h) (by rfl) ?_ (by assumption) ?_
        rotate_left
        · ((intro w hSw; (try dsimp only at hSw); go_simp) <;> with_reducible rfl)
        (try simp only [Act.put, List.setIfInBounds_toArray, List.set_cons_zero, List.set_cons_succ])
        refine held_take 11 (v := ?_) rfl (by kernel_rfl) (by kernel_rfl) (by kernel_rfl) (fun _ _ _ h => h) (by rfl) ?_ (by assumption) ?_
        rotate_left
        · ((intro w hSw; (try dsimp only at hSw); go_simp) <;> with_reducible rfl)
        (try simp only [Act.put, List.setIfInBounds_toArray, List.set_cons_zero, List.set_cons_succ])
        refine held_take 12 (v := ?_) rfl (by kernel_rfl) (by kernel_rfl) (by kernel_rfl) (fun _ _ _ h => h) (by rfl) ?_ (by assumption) ?_
        rotate_left
        · ((intro w hSw; (try dsimp only at hSw); go_simp) <;> with_reducible rfl)
        (try simp only [Act.put, List.setIfInBounds_toArray, List.set_cons_zero, List.set_cons_succ])
        refine held_take 13 (v := ?_) rfl (by kernel_rfl) (by kernel_rfl) (by kernel_rfl) (fun _ _ _ h => h) (by rfl) ?_ (by assumption) ?_
        rotate_left
        · ((intro w hSw; (try dsimp only at hSw); go_simp) <;> with_reducible rfl)
        (try simp only [Act.put, List.setIfInBounds_toArray, List.set_cons_zero, List.set_cons_succ])
        refine held_take 14 (v := ?_) rfl (by kernel_rfl) (by kernel_rfl) (by kernel_rfl) (fun _ _ _ h => h) (by rfl) ?_ (by assumption) ?_
        rotate_left
        · ((intro w hSw; (try dsimp only at hSw); go_simp) <;> with_reducible rfl)
        (try simp only [Act.put, List.setIfInBounds_toArray, List.set_cons_zero, List.set_cons_succ])
        refine held_take 15 (v := ?_) rfl (by kernel_rfl) (by kernel_rfl) (by kernel_rfl) (fun _ _ _ h => h) (by rfl) ?_ (by assumption) ?_
        rotate_left
        · ((intro w hSw; (try dsimp only at hSw); go_simp) <;> with_reducible rfl)
        (try simp only [Act.put, List.setIfInBounds_toArray, List.set_cons_zero, List.set_cons_succ])
        refine held_take 16 (v := ?_) rfl (by kernel_rfl) (by kernel_rfl) (by kernel_rfl) (fun _ _ _ h => h) (by rfl) ?_ (by assumption) ?_
        rotate_left
        · ((intro w hSw; (try dsimp only at hSw); go_simp) <;> with_reducible rfl)
        (try simp only [Act.put, List.setIfInBounds_toArray, List.set_cons_zero, List.set_cons_succ])
        refine held_take 17 (v := ?_) rfl (by kernel_rfl) (by kernel_rfl) (by kernel_rfl) (fun _ _ _ h => h) (by rfl) ?_ (by assumption) ?_
        rotate_left
        · ((intro w hSw; (try dsimp only at hSw); go_simp) <;> with_reducible rfl)
        (try simp only [Act.put, List.setIfInBounds_toArray, List.set_cons_zero, List.set_cons_succ])
        refine held_take 18 (v := ?_) rfl (by kernel_rfl) (by kernel_rfl) (by kernel_rfl) (fun _ _ _ h => h) (by rfl) ?_ (by assumption) ?_
        rotate_left
        · ((intro w hSw; (try dsimp only at hSw); go_simp) <;> with_reducible rfl)
        (try simp only [Act.put, List.setIfInBounds_toArray, List.set_cons_zero, List.set_cons_succ])
        refine held_skip 19 rfl (by kernel_rfl) (by kernel_rfl) (by kernel_rfl) (fun _ _ _ h => h) (by rfl) (by assumption) ?_
        (try simp only [Act.put, List.setIfInBounds_toArray, List.set_cons_zero, List.set_cons_succ])
        refine held_skip 20 rfl (by kernel_rfl) (by kernel_rfl) (by kernel_rfl) (fun _ _ _ h => h) (by rfl) (by assumption) ?_
        (try simp only [Act.put, List.setIfInBounds_toArray, List.set_cons_zero, List.set_cons_succ])
        refine held_skip 21 rfl (by kernel_rfl) (by kernel_rfl) (by kernel_rfl) (fun _ _ _ h => h) (by rfl) (by assumption) ?_
        (try simp only [Act.put, List.setIfInBounds_toArray, List.set_cons_zero, List.set_cons_succ])
        refine held_skip 22 rfl (by kernel_rfl) (by kernel_rfl) (by kernel_rfl) (fun _ _ _ h => h) (by rfl) (by assumption) ?_
        (try simp only [Act.put, List.setIfInBounds_toArray, List.set_cons_zero, List.set_cons_succ])
        refine held_skip 23 rfl (by kernel_rfl) (by kernel_rfl) (by kernel_rfl) (fun _ _ _ h => h) (by rfl) (by assumption) ?_
        (try simp only [Act.put, List.setIfInBounds_toArray, List.set_cons_zero, List.set_cons_succ])
        refine held_skip 24 rfl (by kernel_rfl) (by kernel_rfl) (by kernel_rfl) (fun _ _ _ h => h) (by rfl) (by assumption) ?_
        (try simp only [Act.put, List.setIfInBounds_toArray, List.set_cons_zero, List.set_cons_succ])
        refine held_take 25 (v := ?_) rfl (by kernel_rfl) (by kernel_rfl) (by kernel_rfl) (fun _ _ _ h => h) (by rfl) ?_ (by assumption) ?_
        rotate_left
        · ((intro w hSw; (try dsimp only at hSw); go_simp) <;> with_reducible rfl)
        (try simp only [Act.put, List.setIfInBounds_toArray, List.set_cons_zero, List.set_cons_succ])
        refine held_take 26 (v := ?_) rfl (by kernel_rfl) (by kernel_rfl) (by kernel_rfl) (fun _ _ _ h => h) (by rfl) ?_ (by assumption) ?_
        rotate_left
        · ((intro w hSw; (try dsimp only at hSw); go_simp) <;> with_reducible rfl)
        (try simp only [Act.put, List.setIfInBounds_toArray, List.set_cons_zero, List.set_cons_succ])
        refine held_skip 27 rfl (by kernel_rfl) (by kernel_rfl) (by kernel_rfl) (fun _ _ _ h => h) (by rfl) (by assumption) ?_
        (try simp only [Act.put, List.setIfInBounds_toArray, List.set_cons_zero, List.set_cons_succ])
        refine held_skip 28 rfl (by kernel_rfl) (by kernel_rfl) (by kernel_rfl) (fun _ _ _ h => h) (by rfl) (by assumption) ?_
        (try simp only [Act.put, List.setIfInBounds_toArray, List.set_cons_zero, List.set_cons_succ])
        refine held_skip 29 rfl (by kernel_rfl) (by kernel_rfl) (by kernel_rfl) (fun _ _ _ h => h) (by rfl) (by assumption) ?_
        (try simp only [Act.put, List.setIfInBounds_toArray, List.set_cons_zero, List.set_cons_succ])
        refine held_skip 30 rfl (by kernel_rfl) (by kernel_rfl) (by kernel_rfl) (fun _ _ _ h => h) (by rfl) (by assumption) ?_
        (try simp only [Act.put, List.setIfInBounds_toArray, List.set_cons_zero, List.set_cons_succ])
        refine held_skip 31 rfl (by kernel_rfl) (by kernel_rfl) (by kernel_rfl) (fun _ _ _ h => h) (by rfl) (by assumption) ?_
        (try simp only [Act.put, List.setIfInBounds_toArray, List.set_cons_zero, List.set_cons_succ])
        refine held_skip 32 rfl (by kernel_rfl) (by kernel_rfl) (by kernel_rfl) (fun _ _ _ h => h) (by rfl) (by assumption) ?_
        (try simp only [Act.put, List.setIfInBounds_toArray, List.set_cons_zero, List.set_cons_succ])
        refine held_skip 33 rfl (by kernel_rfl) (by kernel_rfl) (by kernel_rfl) (fun _ _ _ h => h) (by rfl) (by assumption) ?_
        (try simp only [Act.put, List.setIfInBounds_toArray, List.set_cons_zero, List.set_cons_succ])
        refine held_skip 34 rfl (by kernel_rfl) (by kernel_rfl) (by kernel_rfl) (fun _ _ _ h => h) (by rfl) (by assumption) ?_
        (try simp only [Act.put, List.setIfInBounds_toArray, List.set_cons_zero, List.set_cons_succ])
        refine held_take 35 (v := ?_) rfl (by kernel_rfl) (by kernel_rfl) (by kernel_rfl) (fun _ _ _ h => h) (by rfl) ?_ (by assumption) ?_
        rotate_left
        · ((intro w hSw; (try dsimp only at hSw); go_simp) <;> with_reducible rfl)
        (try simp only [Act.put, List.setIfInBounds_toArray, List.set_cons_zero, List.set_cons_succ])
        refine held_take 36 (v := ?_) rfl (by kernel_rfl) (by kernel_rfl) (by kernel_rfl) (fun _ _ _ h => h) (by rfl) ?_ (by assumption) ?_
        rotate_left
        · ((intro w hSw; (try dsimp only at hSw); go_simp) <;> with_reducible rfl)
        (try simp only [Act.put, List.setIfInBounds_toArray, List.set_cons_zero, List.set_cons_succ])
        refine wpAnyH_done (by kernel_rfl) ?_ _
        clear hS hHeld
        go_wp2
        go_ret
        exact ⟨ret_bool (by rw [HQ.out, decide_eq_false e3]; simp), (Ext.refl _ w).drew⟩
    · have e2' : ((mn : Int) == (m : Int)) = false := by rw [beq_eq_false_iff_ne]; omega
      refine wp_region_held_drew (S := (S10 ob ob ob ob ob ob nb mb pb pb 1 2 3 4 5 6 0 0 0 1 (.bool neg) (.slice a1 m1 c1) (.slice a2 m2 c2) (.slice po pn pc) (.slice mo mn mc) (.slice zo zn zc) (.int .i64 pn) (.int .i64 m) vv rv)) (by kernel_rfl) (hS.drew) (fun hHeld => ?_)
      refine held_take 0 (v := ?_) rfl (by kernel_rfl) (by kernel_rfl) (by kernel_rfl) (fun _ _ _ h => h) (by rfl) ?_ (by assumption) ?_
      rotate_left
      · ((intro w hSw; (try dsimp only at hSw); go_simp) <;> with_reducible rfl)
      (try simp only [Act.put, List.setIfInBounds_toArray, List.set_cons_zero, List.set_cons_succ])
      refine held_take 1 (v := ?_) rfl (by kernel_rfl) (by kernel_rfl) (by kernel_rfl) (fun _ _ _ h => h) (by rfl) ?_ (by assumption) ?_
      rotate_left
      · ((intro w hSw; (try dsimp only at hSw); go_simp) <;> with_reducible rfl)
      (try simp only [Act.put, List.setIfInBounds_toArray, List.set_cons_zero, List.set_cons_succ])
      refine held_take 2 (v := ?_) rfl (by kernel_rfl) (by kernel_rfl) (by kernel_rfl) (fun _ _ _ h => h) (by rfl) ?_ (by assumption) ?_
      rotate_left
      · ((intro w hSw; (try dsimp only at hSw); go_simp) <;> with_reducible rfl)
      (try simp only [Act.put, List.setIfInBounds_toArray, List.set_cons_zero, List.set_cons_succ])
      refine held_take 3 (v := ?_) rfl (by kernel_rfl) (by kernel_rfl) (by kernel_rfl) (fun _ _ _ h => h) (by rfl) ?_ (by assumption) ?_
      rotate_left
      · ((intro w hSw; (try dsimp only at hSw); go_simp) <;> with_reducible rfl)
      (try simp only [Act.put, List.setIfInBounds_toArray, List.set_cons_zero, List.set_cons_succ])
      refine held_take 4 (v := ?_) rfl (by kernel_rfl) (by kernel_rfl) (by kernel_rfl) (fun _ _ _ h => h) (by rfl) ?_ (by assumption) ?_
      rotate_left
      · ((intro w hSw; (try dsimp only at hSw); go_simp) <;> with_reducible rfl)
      (try simp only [Act.put, List.setIfInBounds_toArray, List.set_cons_zero, List.set_cons_succ])
      refine held_take 5 (v := ?_) rfl (by kernel_rfl) (by kernel_rfl) (by kernel_rfl) (fun _ _ _ h => h) (by rfl) ?_ (by assumption) ?_
      rotate_left
      · ((intro w hSw; (try dsimp only at hSw); go_simp) <;> with_reducible rfl)
      (try simp only [Act.put, List.setIfInBounds_toArray, List.set_cons_zero, List.set_cons_succ])
      refine held_take 6 (v := ?_) rfl (by kernel_rfl) (by kernel_rfl) (by kernel_rfl) (fun _ _ _ h => h) (by rfl) ?_ (by assumption) ?_
      rotate_left
      · ((intro w hSw; (try dsimp only at hSw); go_simp) <;> with_reducible rfl)
      (try simp only [Act.put, List.setIfInBounds_toArray, List.set_cons_zero, List.set_cons_succ])
      refine held_take 7 (v := ?_) rfl (by kernel_rfl) (by kernel_rfl) (by kernel_rfl) (fun _ _ _ h => h) (by rfl) ?_ (by assumption) ?_
      rotate_left
      · ((intro w hSw; (try dsimp only at hSw); go_simp) <;> with_reducible rfl)
      (try simp only [Act.put, List.setIfInBounds_toArray, List.set_cons_zero, List.set_cons_succ])
      refine held_take 8 (v := ?_) rfl (by kernel_rfl) (by kernel_rfl) (by kernel_rfl) (fun _ _ _ h => h) (by rfl) ?_ (by assumption) ?_
      rotate_left
      · ((intro w hSw; (try dsimp only at hSw); go_simp) <;> with_reducible rfl)
      (try simp only [Act.put, List.setIfInBounds_toArray, List.set_cons_zero, List.set_cons_succ])
      refine held_take 9 (v := ?_) rfl (by kernel_rfl) (by kernel_rfl) (by kernel_rfl) (fun _ _ _ h => h) (by rfl) ?_ (by assumption) ?_
      rotate_left
      · ((intro w hSw; (try dsimp only at hSw); go_simp) <;> with_reducible rfl)
      (try simp only [Act.put, List.setIfInBounds_toArray, List.set_cons_zero, List.set_cons_succ])
      refine held_take 10 (v := ?_) rfl (by kernel_rfl) (by kernel_rfl) (by kernel_rfl) (fun _ _ _ h => h) (by rfl) ?_ (by assumption) ?_
      rotate_left
      · ((intro w hSw; (try dsimp only at hSw); go_simp) <;> with_reducible rfl)
      (try simp only [Act.put, List.setIfInBounds_toArray, List.set_cons_zero, List.set_cons_succ])
      refine held_take 11 (v := ?_) rfl (by kernel_rfl) (by kernel_rfl) (by kernel_rfl) (fun _ _ _ h => h) (by rfl) ?_ (by assumption) ?_
      rotate_left
      · ((intro w hSw; (try dsimp only at hSw); go_simp) <;> with_reducible rfl)
      (try simp only [Act.put, List.setIfInBounds_toArray, List.set_cons_zero, List.set_cons_succ])
      refine held_take 12 (v := ?_) rfl (by kernel_rfl) (by kernel_rfl) (by kernel_rfl) (fun _ _ _ h => h) (by rfl) ?_ (by assumption) ?_
      rotate_left
      · ((intro w hSw; (try dsimp only at hSw); go_simp) <;> with_reducible rfl)
      (try simp only [Act.put, List.setIfInBounds_toArray, List.set_cons_zero, List.set_cons_succ])
      refine held_skip 13 rfl (by kernel_rfl) (by kernel_rfl) (by kernel_rfl) (fun _ _ _ h => h) (by rfl) (by assumption) ?_
      (try simp only [Act.put, List.setIfInBounds_toArray, List.set_cons_zero, List.set_cons_succ])
      refine held_skip 14 rfl (by kernel_rfl) (by kernel_rfl) (by kernel_rfl) (fun _ _ _ h => h) (by rfl) (by assumption) ?_
      (try simp only [Act.put, List.setIfInBounds_toArray, List.set_cons_zero, List.set_cons_succ])
      refine held_skip 15 rfl (by kernel_rfl) (by kernel_rfl) (by kernel_rfl) (fun _ _ _ h => h) (by rfl) (by assumption) ?_
      (try simp only [Act.put, List.setIfInBounds_toArray, List.set_cons_zero, List.set_cons_succ])
      refine held_skip 16 rfl (by kernel_rfl) (by kernel_rfl) (by kernel_rfl) (fun _ _ _ h => h) (by rfl) (by assumption) ?_
      (try simp only [Act.put, List.setIfInBounds_toArray, List.set_cons_zero, List.set_cons_succ])
      refine held_take 17 (v := ?_) rfl (by kernel_rfl) (by kernel_rfl) (by kernel_rfl) (fun _ _ _ h => h) (by rfl) ?_ (by assumption) ?_
      rotate_left
      · ((intro w hSw; (try dsimp only at hSw); go_simp) <;> with_reducible rfl)
      (try simp only [Act.put, List.setIfInBounds_toArray, List.set_cons_zero, List.set_cons_succ])
      refine held_take 18 (v := ?_) rfl (by kernel_rfl) (by kernel_rfl) (by kernel_rfl) (fun _ _ _ h => h) (by rfl) ?_ (by assumption) ?_
      rotate_left
      · ((intro w hSw; (try dsimp only at hSw); go_simp) <;> with_reducible rfl)
      (try simp only [Act.put, List.setIfInBounds_toArray, List.set_cons_zero, List.set_cons_succ])
      refine held_skip 19 rfl (by kernel_rfl) (by kernel_rfl) (by kernel_rfl) (fun _ _ _ h => h) (by rfl) (by assumption) ?_
      (try simp only [Act.put, List.setIfInBounds_toArray, List.set_cons_zero, List.set_cons_succ])
      refine held_skip 20 rfl (by kernel_rfl) (by kernel_rfl) (by kernel_rfl) (fun _ _ _ h => h) (by rfl) (by assumption) ?_
      (try simp only [Act.put, List.setIfInBounds_toArray, List.set_cons_zero, List.set_cons_succ])
      refine held_skip 21 rfl (by kernel_rfl) (by kernel_rfl) (by kernel_rfl) (fun _ _ _ h => h) (by rfl) (by assumption) ?_
      (try simp only [Act.put, List.setIfInBounds_toArray, List.set_cons_zero, List.set_cons_succ])
      refine held_skip 22 rfl (by kernel_rfl) (by kernel_rfl) (by kernel_rfl) (fun _ _ _ h => h) (by rfl) (by assumption) ?_
      (try simp only [Act.put, List.setIfInBounds_toArray, List.set_cons_zero, List.set_cons_succ])
      refine held_skip 23 rfl (by kernel_rfl) (by kernel_rfl) (by kernel_rfl) (fun _ _ _ h => h) (by rfl) (by assumption) ?_
      (try simp only [Act.put, List.setIfInBounds_toArray, List.set_cons_zero, List.set_cons_succ])
      refine held_skip 24 rfl (by kernel_rfl) (by kernel_rfl) (by kernel_rfl) (fun _ _ _ h => h) (by rfl) (by assumption) ?_
      (try simp only [Act.put, List.setIfInBounds_toArray, List.set_cons_zero, List.set_cons_succ])
      refine held_take 25 (v := ?_) rfl (by kernel_rfl) (by kernel_rfl) (by kernel_rfl) (fun _ _ _ h => h) (by rfl) ?_ (by assumption) ?_
      rotate_left
      · ((intro w hSw; (try dsimp only at hSw); go_simp) <;> with_reducible rfl)
      (try simp only [Act.put, List.setIfInBounds_toArray, List.set_cons_zero, List.set_cons_succ])
      refine held_take 26 (v := ?_) rfl (by kernel_rfl) (by kernel_rfl) (by kernel_rfl) (fun _ _ _ h => h) (by rfl) ?_ (by assumption) ?_
      rotate_left
      · ((intro w hSw; (try dsimp only at hSw); go_simp) <;> with_reducible rfl)
      (try simp only [Act.put, List.setIfInBounds_toArray, List.set_cons_zero, List.set_cons_succ])
      refine held_skip 27 rfl (by kernel_rfl) (by kernel_rfl) (by kernel_rfl) (fun _ _ _ h => h) (by rfl) (by assumption) ?_
      (try simp only [Act.put, List.setIfInBounds_toArray, List.set_cons_zero, List.set_cons_succ])
      refine held_skip 28 rfl (by kernel_rfl) (by kernel_rfl) (by kernel_rfl) (fun _ _ _ h => h) (by rfl) (by assumption) ?_
      (try simp only [Act.put, List.setIfInBounds_toArray, List.set_cons_zero, List.set_cons_succ])
      refine held_skip 29 rfl (by kernel_rfl) (by kernel_rfl) (by kernel_rfl) (fun _ _ _ h => h) (by rfl) (by assumption) ?_
      (try simp only [Act.put, List.setIfInBounds_toArray, List.set_cons_zero, List.set_cons_succ])
      refine held_skip 30 rfl (by kernel_rfl) (by kernel_rfl) (by kernel_rfl) (fun _ _ _ h => h) (by rfl) (by assumption) ?_
      (try simp only [Act.put, List.setIfInBounds_toArray, List.set_cons_zero, List.set_cons_succ])
      refine held_skip 31 rfl (by kernel_rfl) (by kernel_rfl) (by kernel_rfl) (fun _ _ _ h => h) (by rfl) (by assumption) ?_
      (try simp only [Act.put, List.setIfInBounds_toArray, List.set_cons_zero, List.set_cons_succ])
      refine held_skip 32 rfl (by kernel_rfl) (by kernel_rfl) (by kernel_rfl) (fun _ _ _ h => h) (by rfl) (by assumption) ?_
      (try simp only [Act.put, List.setIfInBounds_toArray, List.set_cons_zero, List.set_cons_succ])
      refine held_skip 33 rfl (by kernel_rfl) (by kernel_rfl) (by kernel_rfl) (fun _ _ _ h => h) (by rfl) (by assumption) ?_
      (try simp only [Act.put, List.setIfInBounds_toArray, List.set_cons_zero, List.set_cons_succ])
      refine held_skip 34 rfl (by kernel_rfl) (by kernel_rfl) (by kernel_rfl) (fun _ _ _ h => h) (by rfl) (by assumption) ?_
      (try simp only [Act.put, List.setIfInBounds_toArray, List.set_cons_zero, List.set_cons_succ])
      refine held_take 35 (v := ?_) rfl (by kernel_rfl) (by kernel_rfl) (by kernel_rfl) (fun _ _ _ h => h) (by rfl) ?_ (by assumption) ?_
      rotate_left
      · ((intro w hSw; (try dsimp only at hSw); go_simp) <;> with_reducible rfl)
      (try simp only [Act.put, List.setIfInBounds_toArray, List.set_cons_zero, List.set_cons_succ])
      refine held_take 36 (v := ?_) rfl (by kernel_rfl) (by kernel_rfl) (by kernel_rfl) (fun _ _ _ h => h) (by rfl) ?_ (by assumption) ?_
      rotate_left
      · ((intro w hSw; (try dsimp only at hSw); go_simp) <;> with_reducible rfl)
      (try simp only [Act.put, List.setIfInBounds_toArray, List.set_cons_zero, List.set_cons_succ])
      refine wpAnyH_done (by kernel_rfl) ?_ _
      clear hS hHeld
      go_wp2
      go_ret
      exact ⟨ret_bool (by rw [HQ.out, decide_eq_false e2]; simp), (Ext.refl _ w).drew⟩
  · have e1' : ((pn : Int) == (n : Int)) = false := by rw [beq_eq_false_iff_ne]; omega
    refine wp_region_held_drew (S := (S10 ob ob ob ob ob ob nb mb pb pb 1 2 3 4 5 6 0 0 0 1 (.bool neg) (.slice a1 m1 c1) (.slice a2 m2 c2) (.slice po pn pc) (.slice mo mn mc) (.slice zo zn zc) (.int .i64 n) (.int .i64 m) vv rv)) (by kernel_rfl) (hS.drew) (fun hHeld => ?_)
    refine held_take 0 (v := ?_) rfl (by kernel_rfl) (by kernel_rfl) (by kernel_rfl) (fun _ _ _ h => h) (by rfl) ?_ (by assumption) ?_
    rotate_left
    · ((intro w hSw; (try dsimp only at hSw); go_simp) <;> with_reducible rfl)
    (try simp only [Act.put, List.setIfInBounds_toArray, List.set_cons_zero, List.set_cons_succ])
    refine held_take 1 (v := ?_) rfl (by kernel_rfl) (by kernel_rfl) (by kernel_rfl) (fun _ _ _ h => h) (by rfl) ?_ (by assumption) ?_
    rotate_left
    · ((intro w hSw; (try dsimp only at hSw); go_simp) <;> with_reducible rfl)
    (try simp only [Act.put, List.setIfInBounds_toArray, List.set_cons_zero, List.set_cons_succ])
    refine held_take 2 (v := ?_) rfl (by kernel_rfl) (by kernel_rfl) (by kernel_rfl) (fun _ _ _ h => h) (by rfl) ?_ (by assumption) ?_
    rotate_left
    · ((intro w hSw; (try dsimp only at hSw); go_simp) <;> with_reducible rfl)
    (try simp only [Act.put, List.setIfInBounds_toArray, List.set_cons_zero, List.set_cons_succ])
    refine held_take 3 (v := ?_) rfl (by kernel_rfl) (by kernel_rfl) (by kernel_rfl) (fun _ _ _ h => h) (by rfl) ?_ (by assumption) ?_
    rotate_left
    · ((intro w hSw; (try dsimp only at hSw); go_simp) <;> with_reducible rfl)
    (try simp only [Act.put, List.setIfInBounds_toArray, List.set_cons_zero, List.set_cons_succ])
    refine held_take 4 (v := ?_) rfl (by kernel_rfl) (by kernel_rfl) (by kernel_rfl) (fun _ _ _ h => h) (by rfl) ?_ (by assumption) ?_
    rotate_left
    · ((intro w hSw; (try dsimp only at hSw); go_simp) <;> with_reducible rfl)
    (try simp only [Act.put, List.setIfInBounds_toArray, List.set_cons_zero, List.set_cons_succ])
    refine held_take 5 (v := ?_) rfl (by kernel_rfl) (by kernel_rfl) (by kernel_rfl) (fun _ _ _ h => h) (by rfl) ?_ (by assumption) ?_
    rotate_left
    · ((intro w hSw; (try dsimp only at hSw); go_simp) <;> with_reducible rfl)
    (try simp only [Act.put, List.setIfInBounds_toArray, List.set_cons_zero, List.set_cons_succ])
    refine held_skip 6 rfl (by kernel_rfl) (by kernel_rfl) (by kernel_rfl) (fun _ _ _ h => h) (by rfl) (by assumption) ?_
    (try simp only [Act.put, List.setIfInBounds_toArray, List.set_cons_zero, List.set_cons_succ])
    refine held_skip 7 rfl (by kernel_rfl) (by kernel_rfl) (by kernel_rfl) (fun _ _ _ h => h) (by rfl) (by assumption) ?_
    (try simp only [Act.put, List.setIfInBounds_toArray, List.set_cons_zero, List.set_cons_succ])
    refine held_skip 8 rfl (by kernel_rfl) (by kernel_rfl) (by kernel_rfl) (fun _ _ _ h => h) (by rfl) (by assumption) ?_
    (try simp only [Act.put, List.setIfInBounds_toArray, List.set_cons_zero, List.set_cons_succ])
    refine held_skip 9 rfl (by kernel_rfl) (by kernel_rfl) (by kernel_rfl) (fun _ _ _ h => h) (by rfl) (by assumption) ?_
    (try simp only [Act.put, List.setIfInBounds_toArray, List.set_cons_zero, List.set_cons_succ])
    refine held_skip 10 rfl (by kernel_rfl) (by kernel_rfl) (by kernel_rfl) (fun _ _ _ h => h) (by rfl) (by assumption) ?_
    (try simp only [Act.put, List.setIfInBounds_toArray, List.set_cons_zero, List.set_cons_succ])
    refine held_take 11 (v := ?_) rfl (by kernel_rfl) (by kernel_rfl) (by kernel_rfl) (fun _ _ _ h => h) (by rfl) ?_ (by assumption) ?_
    rotate_left
    · ((intro w hSw; (try dsimp only at hSw); go_simp) <;> with_reducible rfl)
    (try simp only [Act.put, List.setIfInBounds_toArray, List.set_cons_zero, List.set_cons_succ])
    refine held_take 12 (v := ?_) rfl (by kernel_rfl) (by kernel_rfl) (by kernel_rfl) (fun _ _ _ h => h) (by rfl) ?_ (by assumption) ?_
    rotate_left
    · ((intro w hSw; (try dsimp only at hSw); go_simp) <;> with_reducible rfl)
    (try simp only [Act.put, List.setIfInBounds_toArray, List.set_cons_zero, List.set_cons_succ])
    refine held_skip 13 rfl (by kernel_rfl) (by kernel_rfl) (by kernel_rfl) (fun _ _ _ h => h) (by rfl) (by assumption) ?_
    (try simp only [Act.put, List.setIfInBounds_toArray, List.set_cons_zero, List.set_cons_succ])
    refine held_skip 14 rfl (by kernel_rfl) (by kernel_rfl) (by kernel_rfl) (fun _ _ _ h => h) (by rfl) (by assumption) ?_
    (try simp only [Act.put, List.setIfInBounds_toArray, List.set_cons_zero, List.set_cons_succ])
    refine held_skip 15 rfl (by kernel_rfl) (by kernel_rfl) (by kernel_rfl) (fun _ _ _ h => h) (by rfl) (by assumption) ?_
    (try simp only [Act.put, List.setIfInBounds_toArray, List.set_cons_zero, List.set_cons_succ])
    refine held_skip 16 rfl (by kernel_rfl) (by kernel_rfl) (by kernel_rfl) (fun _ _ _ h => h) (by rfl) (by assumption) ?_
    (try simp only [Act.put, List.setIfInBounds_toArray, List.set_cons_zero, List.set_cons_succ])
    refine held_take 17 (v := ?_) rfl (by kernel_rfl) (by kernel_rfl) (by kernel_rfl) (fun _ _ _ h => h) (by rfl) ?_ (by assumption) ?_
    rotate_left
    · ((intro w hSw; (try dsimp only at hSw); go_simp) <;> with_reducible rfl)
    (try simp only [Act.put, List.setIfInBounds_toArray, List.set_cons_zero, List.set_cons_succ])
    refine held_take 18 (v := ?_) rfl (by kernel_rfl) (by kernel_rfl) (by kernel_rfl) (fun _ _ _ h => h) (by rfl) ?_ (by assumption) ?_
    rotate_left
    · ((intro w hSw; (try dsimp only at hSw); go_simp) <;> with_reducible rfl)
    (try simp only [Act.put, List.setIfInBounds_toArray, List.set_cons_zero, List.set_cons_succ])
    refine held_skip 19 rfl (by kernel_rfl) (by kernel_rfl) (by kernel_rfl) (fun _ _ _ h => h) (by rfl) (by assumption) ?_
    (try simp only [Act.put, List.setIfInBounds_toArray, List.set_cons_zero, List.set_cons_succ])
    refine held_skip 20 rfl (by kernel_rfl) (by kernel_rfl) (by kernel_rfl) (fun _ _ _ h => h) (by rfl) (by assumption) ?_
    (try simp only [Act.put, List.setIfInBounds_toArray, List.set_cons_zero, List.set_cons_succ])
    refine held_skip 21 rfl (by kernel_rfl) (by kernel_rfl) (by kernel_rfl) (fun _ _ _ h => h) (by rfl) (by assumption) ?_
    (try simp only [Act.put, List.setIfInBounds_toArray, List.set_cons_zero, List.set_cons_succ])
    refine held_skip 22 rfl (by kernel_rfl) (by kernel_rfl) (by kernel_rfl) (fun _ _ _ h => h) (by rfl) (by assumption) ?_
    (try simp only [Act.put, List.setIfInBounds_toArray, List.set_cons_zero, List.set_cons_succ])
    refine held_skip 23 rfl (by kernel_rfl) (by kernel_rfl) (by kernel_rfl) (fun _ _ _ h => h) (by rfl) (by assumption) ?_
    (try simp only [Act.put, List.setIfInBounds_toArray, List.set_cons_zero, List.set_cons_succ])
    refine held_skip 24 rfl (by kernel_rfl) (by kernel_rfl) (by kernel_rfl) (fun _ _ _ h => h) (by rfl) (by assumption) ?_
    (try simp only [Act.put, List.setIfInBounds_toArray, List.set_cons_zero, List.set_cons_succ])
    refine held_take 25 (v := ?_) rfl (by kernel_rfl) (by kernel_rfl) (by kernel_rfl) (fun _ _ _ h => h) (by rfl) ?_ (by assumption) ?_
    rotate_left
    · ((intro w hSw; (try dsimp only at hSw); go_simp) <;> with_reducible rfl)
    (try simp only [Act.put, List.setIfInBounds_toArray, List.set_cons_zero, List.set_cons_succ])
    refine held_take 26 (v := ?_) rfl (by kernel_rfl) (by kernel_rfl) (by kernel_rfl) (fun _ _ _ h => h) (by rfl) ?_ (by assumption) ?_
    rotate_left
    · ((intro w hSw; (try dsimp only at hSw); go_simp) <;> with_reducible rfl)
    (try simp only [Act.put, List.setIfInBounds_toArray, List.set_cons_zero, List.set_cons_succ])
    refine held_skip 27 rfl (by kernel_rfl) (by kernel_rfl) (by kernel_rfl) (fun _ _ _ h => h) (by rfl) (by assumption) ?_
    (try simp only [Act.put, List.setIfInBounds_toArray, List.set_cons_zero, List.set_cons_succ])
    refine held_skip 28 rfl (by kernel_rfl) (by kernel_rfl) (by kernel_rfl) (fun _ _ _ h => h) (by rfl) (by assumption) ?_
    (try simp only [Act.put, List.setIfInBounds_toArray, List.set_cons_zero, List.set_cons_succ])
    refine held_skip 29 rfl (by kernel_rfl) (by kernel_rfl) (by kernel_rfl) (fun _ _ _ h => h) (by rfl) (by assumption) ?_
    (try simp only [Act.put, List.setIfInBounds_toArray, List.set_cons_zero, List.set_cons_succ])
    refine held_skip 30 rfl (by kernel_rfl) (by kernel_rfl) (by kernel_rfl) (fun _ _ _ h => h) (by rfl) (by assumption) ?_
    (try simp only [Act.put, List.setIfInBounds_toArray, List.set_cons_zero, List.set_cons_succ])
    refine held_skip 31 rfl (by kernel_rfl) (by kernel_rfl) (by kernel_rfl) (fun _ _ _ h => h) (by rfl) (by assumption) ?_
    (try simp only [Act.put, List.setIfInBounds_toArray, List.set_cons_zero, List.set_cons_succ])
    refine held_skip 32 rfl (by kernel_rfl) (by kernel_rfl) (by kernel_rfl) (fun _ _ _ h => h) (by rfl) (by assumption) ?_
    (try simp only [Act.put, List.setIfInBounds_toArray, List.set_cons_zero, List.set_cons_succ])
    refine held_skip 33 rfl (by kernel_rfl) (by kernel_rfl) (by kernel_rfl) (fun _ _ _ h => h) (by rfl) (by assumption) ?_
    (try simp only [Act.put, List.setIfInBounds_toArray, List.set_cons_zero, List.set_cons_succ])
    refine held_skip 34 rfl (by kernel_rfl) (by kernel_rfl) (by kernel_rfl) (fun _ _ _ h => h) (by rfl) (by assumption) ?_
    (try simp only [Act.put, List.setIfInBounds_toArray, List.set_cons_zero, List.set_cons_succ])
    refine held_take 35 (v := ?_) rfl (by kernel_rfl) (by kernel_rfl) (by kernel_rfl) (fun _ _ _ h => h) (by rfl) ?_ (by assumption) ?_
    rotate_left
    · ((intro w hSw; (try dsimp only at hSw); go_simp) <;> with_reducible rfl)
    (try simp only [Act.put, List.setIfInBounds_toArray, List.set_cons_zero, List.set_cons_succ])
    refine held_take 36 (v := ?_) rfl (by kernel_rfl) (by kernel_rfl) (by kernel_rfl) (fun _ _ _ h => h) (by rfl) ?_ (by assumption) ?_
    rotate_left
    · ((intro w hSw; (try dsimp only at hSw); go_simp) <;> with_reducible rfl)
    (try simp only [Act.put, List.setIfInBounds_toArray, List.set_cons_zero, List.set_cons_succ])
    refine wpAnyH_done (by kernel_rfl) ?_ _
    clear hS hHeld
    go_wp2
    go_ret
    exact ⟨ret_bool (by rw [HQ.out, decide_eq_false e1]; simp), (Ext.refl _ w).drew⟩
set_option maxRecDepth 100000 in
set_option maxHeartbeats 8000000 in
theorem check2_any (w : World) (ob pb nb mb tb : Nat) (p : ProgV) (o : OutV) (L T : Nat) (vv rv pv ov : Value) (h : Caught w ob pb nb mb tb p o L vv rv pv ov) (hs : Small p T L) :
    Calls Tryz.prog 55 #[.pointer (some ⟨tb, 0, none⟩), .pointer (some ⟨ob, 0, none⟩), .pointer (some ⟨mb, 0, none⟩), .pointer (some ⟨pb, 0, none⟩)] w (BoolPost w (chk2 p o)) := by
  obtain ⟨neg, a1, m1, c1, a2, m2, c2, ptv, muv, rav, rfl, hval, hpt, hmu, hra, hk⟩ := h.out
  obtain ⟨cs, e, hob⟩ := h.ob
  cases e
  obtain ⟨po, pc, rfl, -, hpn, -⟩ := hpt.shape
  obtain ⟨mo, mc, rfl, -, hmn, -⟩ := hmu.shape
  obtain ⟨zo, zc, rfl, -, hzn, -⟩ := hra.shape
  have hlen : o.pt.length ≤ 4611686018427387903 ∧ o.ray.length ≤ 4611686018427387903 ∨ True := .inr trivial
  have t0 := cellq h.tb 0 rfl
  have x4 := cellq hob 4 rfl
  have x5 := cellq hob 5 rfl
  have x6 := cellq hob 6 rfl
  have y0 := cellq h.mb 0 rfl
  have z0 := cellq h.pb 0 rfl
  have z1 := cellq h.pb 1 rfl
  have HI := Lib.hid (Infeasible_any w _ _ p o.mu L T h.prg hmu hs)
  have HQ := Lib.hid (show chk2 p o = (decide (o.val = 0) && decide (o.pt.length + o.ray.length = 0) && decide (o.mu.length = p.rows.length) && infB p o.mu) from rfl)
  clear h hval hpt hmu hra hk hob hs hlen
  generalize p.rows.length = m at *
  generalize o.pt.length = pn at *
  generalize o.mu.length = mn at *
  generalize o.ray.length = zn at *
  by_cases e0 : o.val = 0
  · rw [decide_eq_true e0] at t0 HQ
    clear e0
    by_cases e1 : pn = 0
    · subst e1
      by_cases e1b : zn = 0
      · subst e1b
        by_cases e2 : mn = m
        · subst e2
          go_enter Tryz.func55, Tryz.ntmps55
          go_wp2_with fail
          refine HI.out.mono ?_
          rintro r2 w2 ⟨rfl, hx2⟩
          have HX := Lib.hid hx2
          clear hx2 t0 x4 x5 x6 y0 z0 z1
          go_wp2
          go_ret
          exact ⟨ret_bool (by rw [HQ.out]; simp), HX.out⟩
        · have e2' : ((mn : Int) == (m : Int)) = false := by rw [beq_eq_false_iff_ne]; omega
          go_enter Tryz.func55, Tryz.ntmps55
          go_wp2
          go_ret
          exact ⟨ret_bool (by rw [HQ.out, decide_eq_false e2]; simp), Ext.refl _ w⟩
      · have e1' : ((zn : Int) == 0) = false := by simpa using e1b
        go_enter Tryz.func55, Tryz.ntmps55
        go_wp2
        go_ret
        exact ⟨ret_bool (by rw [HQ.out, decide_eq_false (p := (0 + zn = 0)) (by omega)]; simp), Ext.refl _ w⟩
    · have ew : (wrap64 ((pn : Int) + (zn : Int)) == 0) = false := by
        have : ¬ wrap64 ((pn : Int) + (zn : Int)) = 0 := by unfold wrap64; omega
        simpa using this
      go_enter Tryz.func55, Tryz.ntmps55
      go_wp2
      all_goals
        go_ret
        exact ⟨ret_bool (by rw [HQ.out, decide_eq_false (p := (pn + zn = 0)) (by omega)]; simp), Ext.refl _ w⟩
  · rw [decide_eq_false e0] at t0 HQ
    clear e0
    go_enter Tryz.func55, Tryz.ntmps55
    go_wp2
    go_ret
    exact ⟨ret_bool (by rw [HQ.out]; simp), Ext.refl _ w⟩
set_option maxRecDepth 100000 in
set_option maxHeartbeats 8000000 in
theorem check3_any (w : World) (ob pb nb mb tb : Nat) (p : ProgV) (o : OutV) (L T : Nat) (vv rv pv ov : Value) (h : Caught w ob pb nb mb tb p o L vv rv pv ov) (hs : Small p T L) :
    Calls Tryz.prog 56 #[.pointer (some ⟨tb, 0, none⟩), .pointer (some ⟨ob, 0, none⟩), .pointer (some ⟨nb, 0, none⟩), .pointer (some ⟨pb, 0, none⟩)] w (BoolPost w (chk3 p o)) := by
  obtain ⟨neg, a1, m1, c1, a2, m2, c2, ptv, muv, rav, rfl, hval, hpt, hmu, hra, hk⟩ := h.out
  obtain ⟨cs, e, hob⟩ := h.ob
  cases e
  obtain ⟨po, pc, rfl, -, hpn, -⟩ := hpt.shape
  obtain ⟨mo, mc, rfl, -, hmn, -⟩ := hmu.shape
  obtain ⟨zo, zc, rfl, -, hzn, -⟩ := hra.shape
  have t0 := cellq h.tb 0 rfl
  have x4 := cellq hob 4 rfl
  have x5 := cellq hob 5 rfl
  have x6 := cellq hob 6 rfl
  have y0 := cellq h.nb 0 rfl
  have z0 := cellq h.pb 0 rfl
  have z1 := cellq h.pb 1 rfl
  have HI := Lib.hid (Unbounded_any w _ _ _ p o.pt o.ray L T h.prg hpt hra hs)
  have HQ := Lib.hid (show chk3 p o = (decide (o.val = 0) && decide (o.mu.length = 0) && decide (o.pt.length = p.vars.length) && decide (o.ray.length = p.vars.length) && unbB p o.pt o.ray) from rfl)
  clear h hval hpt hmu hra hk hob hs
  generalize p.vars.length = n at *
  generalize o.pt.length = pn at *
  generalize o.mu.length = mn at *
  generalize o.ray.length = zn at *
  by_cases e0 : o.val = 0
  · rw [decide_eq_true e0] at t0 HQ
    clear e0
    by_cases e1 : mn = 0
    · subst e1
      by_cases e2 : pn = n
      · subst e2
        by_cases e3 : zn = pn
        · subst e3
          go_enter Tryz.func56, Tryz.ntmps56
          go_wp2_with fail
          refine HI.out.mono ?_
          rintro r2 w2 ⟨rfl, hx2⟩
          have HX := Lib.hid hx2
          clear hx2 t0 x4 x5 x6 y0 z0 z1
          go_wp2
          go_ret
          exact ⟨ret_bool (by rw [HQ.out]; simp), HX.out⟩
        · have e3' : ((zn : Int) == (pn : Int)) = false := by rw [beq_eq_false_iff_ne]; omega
          go_enter Tryz.func56, Tryz.ntmps56
          go_wp2
          go_ret
          exact ⟨ret_bool (by rw [HQ.out, decide_eq_false e3]; simp), Ext.refl _ w⟩
      · have e2' : ((pn : Int) == (n : Int)) = false := by rw [beq_eq_false_iff_ne]; omega
        go_enter Tryz.func56, Tryz.ntmps56
        go_wp2
        go_ret
        exact ⟨ret_bool (by rw [HQ.out, decide_eq_false e2]; simp), Ext.refl _ w⟩
    · have e1' : ((mn : Int) == 0) = false := by simpa using e1
      go_enter Tryz.func56, Tryz.ntmps56
      go_wp2
      go_ret
      exact ⟨ret_bool (by rw [HQ.out, decide_eq_false e1]; simp), Ext.refl _ w⟩
  · rw [decide_eq_false e0] at t0 HQ
    clear e0
    go_enter Tryz.func56, Tryz.ntmps56
    go_wp2
    go_ret
    exact ⟨ret_bool (by rw [HQ.out]; simp), Ext.refl _ w⟩
end Go.Proofs.YtbgienfcmdgaaaaGreat
