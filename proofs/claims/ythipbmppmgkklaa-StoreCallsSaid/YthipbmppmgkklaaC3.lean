/-
  The reference of package store: Set. Conditions: none beyond IsRows.
-/
import Derived.Test.YthipbmppmgkklaaC2
import Derived.Outline
namespace Go.Proofs.Ythipbmppmgkklaa
open Go.RowKit Go.MapKept
open Go.ChangeMaps (setBlock)

theorem Try.infoPair : (Try.prog.info? 89).map (fun i => (i.zero, i.size, i.bytes)) = some (some (.agg #[.string .empty, .int .i64 0]), 2, 24) := by kernel_rfl
/-- the rows behind a put -/
def setN (R : KM) (n : ByteArray) (s : Int) : KM := kpre leS R n ++ (n, s) :: krest leS R n
theorem setN_shape {R : KM} (h : Rising R) (n : ByteArray) (s : Int) :
    ((kget R n).isSome = false ∧ setN R n s = R.take (posN R n) ++ (n, s) :: R.drop (posN R n)) ∨
    ((kget R n).isSome = true ∧ posN R n < R.length ∧ setN R n s = R.take (posN R n) ++ (n, s) :: R.drop (posN R n + 1)) := by
  have h2 : R.take (posN R n) = kpre leS R n := kpre_take _ _
  unfold setN
  rw [h2]
  rcases krest_eq linS h n with ⟨h1, h3, _⟩ | ⟨v', h1, h3, h4⟩
  · exact .inl ⟨by rw [h1]; rfl, by rw [h3]; rfl⟩
  · exact .inr ⟨by rw [h1]; rfl, (List.getElem?_eq_some_iff.1 h3).1, by rw [h4]; rfl⟩
def RowsPost (w : World) (R : KM) (r : Ending) (w' : World) : Prop := ∃ v, r = .returned v ∧ IsRows w' v R ∧ Ext (fun _ => False) w w'
theorem rows_shape {w : World} {v : Value} {R : KM} (h : IsRows w v R) : ∃ ao cap, v = .slice ao R.length cap := ownsRow_shape h
set_option maxRecDepth 100000 in
set_option maxHeartbeats 4000000 in
theorem rset_any (w : World) (v : Value) (R : KM) (hr : IsRows w v R) (hg : Rising R) (hl : R.length ≤ 1000000) (n : ByteArray) (x : Int) :
    Calls Try.prog 44 #[v, .string n, .int .i64 x] w (RowsPost w (setN R n x)) := by
  have hfind := fun (W : World) (hx : Ext (fun _ => False) w W) => find_any W v R (hr.keep hx) hg hl n
  obtain ⟨ao, cap, rfl⟩ := ownsRow_shape hr
  have hc := hr
  unfold IsRows at hc
  have hsh := setN_shape hg n x
  obtain ⟨N, hN⟩ : ∃ N, R.length = N := ⟨_, rfl⟩
  have hPN : posN R n ≤ N := by rw [← hN]; exact kpre_le _ _
  rw [hN] at hfind ⊢
  rw [hN] at hc hl hsh
  have Hfind := Lib.hid hfind
  obtain ⟨k1, k2, k3, k4⟩ := row_nil_cap hc
  generalize setN R n x = R' at *
  generalize hok : (kget R n).isSome = ok at *
  generalize posN R n = P at *
  have L1 : Lies w ao P ((R.take P).flatMap cellsP) := by
    rcases k4 with h | ⟨g, rfl, _⟩
    · exact .inl (by have := k3 h; omega)
    · have := row_lies cellsP_len hc 0 P 0 (by omega)
      simpa using this
  have hl1 : (R.take P).length = P := by rw [List.length_take]; omega
  have Lb : ∀ Q, Q ≤ N → Q ≠ cap → Lies w (Option.map (fun x => x.add (Q * 2)) ao) (N - Q) ((R.drop Q).flatMap cellsP) := fun Q hQ hne => by
    rcases k4 with h | ⟨g, rfl, _⟩
    · exact .inl (by have := k3 h; omega)
    · have := row_lies cellsP_len hc Q (N - Q) (Q * 2) rfl
      rw [List.take_of_length_le (by rw [List.length_drop]; omega)] at this
      simpa [Addr.add_lit] using this
  have hgl : ∀ ad, ao = some ad → ad.block < w.heap.size := fun ad e => by
    rcases k4 with h | ⟨g, h, hlt⟩
    · rw [h] at e; cases e
    · rw [h] at e; cases e; exact hlt
  have hglM : ∀ Q ad, Option.map (fun x => x.add (Q * 2)) ao = some ad → ad.block < w.heap.size := fun Q ad e => by
    rcases k4 with h | ⟨g, h, hlt⟩
    · rw [h] at e; cases e
    · rw [h] at e; cases e; simpa [Addr.add_lit] using hlt
  have hcases : ∃ rl : KM, R' = R.take P ++ (n, x) :: rl ∧ (∀ p ∈ rl, p ∈ R) ∧ ((ok = false ∧ P = cap ∧ rl.length = 0) ∨ (ok = false ∧ ¬ P = cap ∧ rl = R.drop P ∧ rl.length = N - P) ∨ (ok = true ∧ P < N ∧ P + 1 = cap ∧ rl.length = 0) ∨ (ok = true ∧ P < N ∧ ¬ P + 1 = cap ∧ rl = R.drop (P + 1) ∧ rl.length = N - (P + 1))) := by
    rcases hsh with ⟨a, b⟩ | ⟨a, b, d⟩
    · refine ⟨_, b, fun p hp => List.mem_of_mem_drop hp, ?_⟩
      by_cases e : P = cap
      · exact .inl ⟨a, e, by rw [List.length_drop]; omega⟩
      · exact .inr (.inl ⟨a, e, rfl, by rw [List.length_drop]; omega⟩)
    · refine ⟨_, d, fun p hp => List.mem_of_mem_drop hp, ?_⟩
      by_cases e : P + 1 = cap
      · exact .inr (.inr (.inl ⟨a, b, e, by rw [List.length_drop]; omega⟩))
      · exact .inr (.inr (.inr ⟨a, b, e, rfl, by rw [List.length_drop]; omega⟩))
  obtain ⟨rl, hrl', hsub, hcs⟩ := hcases
  have Ho1 := Lib.hid (rows_one cellsP_one (R.take P))
  have Ho2 := Lib.hid (rows_one cellsP_one rl)
  have Hrl' := Lib.hid hrl'
  have HL1 := Lib.hid (And.intro L1 hl1)
  have HLb := Lib.hid Lb
  have Hk3 := Lib.hid k3
  have Hgl := Lib.hid hgl
  have HglM := Lib.hid hglM
  obtain ⟨i0, hi, hz0, hz1, hz2⟩ := info_parts Try.infoPair
  have HN := Lib.hid hN
  clear hN hfind hc hr hsh hok hrl' hsub L1 hl1 Lb k3 k4 hgl hglM hg
  have hmx : N ≤ 1000000 := hl
  rcases hcs with ⟨rfl, q1, q2⟩ | ⟨rfl, q1, q3, q2⟩ | ⟨rfl, q0, q1, q2⟩ | ⟨rfl, q0, q1, q3, q2⟩
  · subst q1
    have Hq2 := Lib.hid q2
    try (have Hq3 := Lib.hid q3; clear q3)
    clear q2
    go_enter Try.func44, Try.ntmps44
    go_wp2_with fail
    refine (Hfind.out _ (Ext.refl _ w)).mono ?_
    rintro r w3 ⟨rfl, hx3⟩
    have Hxw3 := Lib.hid hx3
    clear hx3
    have hb4 := blk_alloc_at w3 (.cells #[] 89)
    have hx4 : Ext (fun b => w3.heap.size ≤ b) w3 (w3.alloc (.cells #[] 89)) := (Ext.refl _ w3).alloc _
    have L4 := HL1.out.1.ext (ext_any (Hxw3.out.alloc (.cells #[] 89)) (fun b => w3.heap.size ≤ b)) (fun ad e _ => by have := Hgl.out ad e; have := Hxw3.out.size; omega) (by rw [fm_length cellsP_len, HL1.out.2]; omega)
    go_wp2_with (first
      | (at_builtin; refine wpList_append_any rfl (.tmp 24) (.tmp 27) 47 rfl 0 89 i0 _ 2 24 Try.underlying47 hi hz0 hz1 hz2 rfl (by decide) _ 0 [] rfl (ownsRow_empty 2 hb4) _ _ _ Hk3.out _ rfl (by rw [fm_length cellsP_len, HL1.out.2]) L4 Ho1.out (by simp only [maxLen]; omega) (by omega) (Nat.zero_le _) ?_; intro v5 w5 hown5 hgrow5 hat5; have hx5 : Ext (fun b => w3.heap.size ≤ b) w3 w5 := hx4.grown hgrow5 (fun k e _ => Nat.le_of_eq (Option.some.inj e)); have hs5 : w3.heap.size < w5.heap.size := Nat.lt_of_lt_of_le (by simp) hgrow5.size; have hv5 : ∀ g, v5.ownBlock = some g → w3.heap.size ≤ g := own_step hat5 (fun g e => Nat.le_of_eq (Option.some.inj e)) (by simp); have Hx5 := Lib.hid hx5; have Hv5 := Lib.hid hv5; have Hown5 := Lib.hid hown5; clear hx5 hv5 hown5 hgrow5 hat5 L4 hx4 hb4)
      | (at_builtin; refine wpList_append_any rfl (.tmp 28) (.tmp 32) 47 rfl 0 89 i0 _ 2 24 Try.underlying47 hi hz0 hz1 hz2 rfl (by decide) _ _ _ rfl (Hown5.out.alloc _) _ 1 1 (fun e => (by cases e)) (cellsP (n, x)) rfl rfl (.inr ⟨_, rfl, cells_new (cellsP (n, x)) _ rfl⟩) (cellsP_one _) (by simp only [maxLen]; omega) (by omega) (Nat.zero_le _) ?_; intro v6 w6 hown6 hgrow6 hat6; have hx6 : Ext (fun b => w3.heap.size ≤ b) w3 w6 := (Hx5.out.alloc _).grown hgrow6 (fun k e _ => Hv5.out k e); have hs6 : w3.heap.size < w6.heap.size := Nat.lt_of_lt_of_le hs5 (Nat.le_trans (by simp) hgrow6.size); have hv6 : ∀ g, v6.ownBlock = some g → w3.heap.size ≤ g := own_step hat6 Hv5.out (by simp; omega); have L6 := fun (a : Option Addr) (m : Nat) (l : KM) (hp : m = l.length) (h : Lies w a m (l.flatMap cellsP)) (hb : ∀ ad, a = some ad → ad.block < w.heap.size) => (h.ext (ext_any Hxw3.out (fun b => w3.heap.size ≤ b)) (fun ad e _ => (by have := hb ad e; have := Hxw3.out.size; omega)) (by rw [fm_length cellsP_len]; omega)).ext hx6 (fun ad e _ => (by have := hb ad e; have := Hxw3.out.size; omega)) (by rw [fm_length cellsP_len]; omega); have HL6 := Lib.hid L6; have Hx6 := Lib.hid hx6; have Hv6 := Lib.hid hv6; have Hown6 := Lib.hid hown6; clear hx6 hv6 hown6 hgrow6 hat6 L6 Hown5 Hx5 Hv5)
      | (at_builtin; refine wpList_append_any rfl (.tmp 33) (.tmp 34) 47 rfl 0 89 i0 _ 2 24 Try.underlying47 hi hz0 hz1 hz2 rfl (by decide) _ _ _ rfl Hown6.out _ _ _ (fun e => (by first | rfl | (have := Hk3.out (Option.map_eq_none_iff.1 e); omega) | (have := Hk3.out e; omega))) (rl.flatMap cellsP) rfl (by have := Hq2.out; rw [fm_length cellsP_len]; omega) (by first | exact .inl (by omega) | exact HL6.out _ _ rl (by have := Hq2.out; omega) (by rw [Hq3.out]; exact HLb.out _ (by omega) q1) (HglM.out _)) Ho2.out (by simp only [maxLen]; omega) (by omega) (Nat.zero_le _) ?_; intro v7 w7 hown7 hgrow7 hat7; simp only [Nat.zero_add, List.nil_append] at hown7; have hx7 : Ext (fun b => w3.heap.size ≤ b) w3 w7 := Hx6.out.grown hgrow7 (fun k e _ => Hv6.out k e); have Hx7 := Lib.hid hx7; have Hown7 := Lib.hid hown7; clear hx7 hown7 hgrow7 hat7 Hown6 Hx6 Hv6 HL6))
    go_ret
    have h0 : R'.flatMap cellsP = (R.take P).flatMap cellsP ++ cellsP (n, x) ++ rl.flatMap cellsP := by rw [Hrl'.out]; simp
    have hb3 := Hown7.out
    rw [← h0] at hb3
    have hcount := row_count (by omega) cellsP_len hb3
    rw [hcount] at hb3
    have hxf : Ext (fun _ => False) w w7 := Hxw3.out.trans' Hx7.out (fun k hk (e : w3.heap.size ≤ k) => absurd hk (by have := Hxw3.out.size; omega))
    exact ⟨v7, rfl, hb3, hxf⟩
  · have Hq2 := Lib.hid q2
    try (have Hq3 := Lib.hid q3; clear q3)
    clear q2
    go_enter Try.func44, Try.ntmps44
    go_wp2_with fail
    refine (Hfind.out _ (Ext.refl _ w)).mono ?_
    rintro r w3 ⟨rfl, hx3⟩
    have Hxw3 := Lib.hid hx3
    clear hx3
    have hb4 := blk_alloc_at w3 (.cells #[] 89)
    have hx4 : Ext (fun b => w3.heap.size ≤ b) w3 (w3.alloc (.cells #[] 89)) := (Ext.refl _ w3).alloc _
    have L4 := HL1.out.1.ext (ext_any (Hxw3.out.alloc (.cells #[] 89)) (fun b => w3.heap.size ≤ b)) (fun ad e _ => by have := Hgl.out ad e; have := Hxw3.out.size; omega) (by rw [fm_length cellsP_len, HL1.out.2]; omega)
    go_wp2_with (first
      | (at_builtin; refine wpList_append_any rfl (.tmp 24) (.tmp 27) 47 rfl 0 89 i0 _ 2 24 Try.underlying47 hi hz0 hz1 hz2 rfl (by decide) _ 0 [] rfl (ownsRow_empty 2 hb4) _ _ _ Hk3.out _ rfl (by rw [fm_length cellsP_len, HL1.out.2]) L4 Ho1.out (by simp only [maxLen]; omega) (by omega) (Nat.zero_le _) ?_; intro v5 w5 hown5 hgrow5 hat5; have hx5 : Ext (fun b => w3.heap.size ≤ b) w3 w5 := hx4.grown hgrow5 (fun k e _ => Nat.le_of_eq (Option.some.inj e)); have hs5 : w3.heap.size < w5.heap.size := Nat.lt_of_lt_of_le (by simp) hgrow5.size; have hv5 : ∀ g, v5.ownBlock = some g → w3.heap.size ≤ g := own_step hat5 (fun g e => Nat.le_of_eq (Option.some.inj e)) (by simp); have Hx5 := Lib.hid hx5; have Hv5 := Lib.hid hv5; have Hown5 := Lib.hid hown5; clear hx5 hv5 hown5 hgrow5 hat5 L4 hx4 hb4)
      | (at_builtin; refine wpList_append_any rfl (.tmp 28) (.tmp 32) 47 rfl 0 89 i0 _ 2 24 Try.underlying47 hi hz0 hz1 hz2 rfl (by decide) _ _ _ rfl (Hown5.out.alloc _) _ 1 1 (fun e => (by cases e)) (cellsP (n, x)) rfl rfl (.inr ⟨_, rfl, cells_new (cellsP (n, x)) _ rfl⟩) (cellsP_one _) (by simp only [maxLen]; omega) (by omega) (Nat.zero_le _) ?_; intro v6 w6 hown6 hgrow6 hat6; have hx6 : Ext (fun b => w3.heap.size ≤ b) w3 w6 := (Hx5.out.alloc _).grown hgrow6 (fun k e _ => Hv5.out k e); have hs6 : w3.heap.size < w6.heap.size := Nat.lt_of_lt_of_le hs5 (Nat.le_trans (by simp) hgrow6.size); have hv6 : ∀ g, v6.ownBlock = some g → w3.heap.size ≤ g := own_step hat6 Hv5.out (by simp; omega); have L6 := fun (a : Option Addr) (m : Nat) (l : KM) (hp : m = l.length) (h : Lies w a m (l.flatMap cellsP)) (hb : ∀ ad, a = some ad → ad.block < w.heap.size) => (h.ext (ext_any Hxw3.out (fun b => w3.heap.size ≤ b)) (fun ad e _ => (by have := hb ad e; have := Hxw3.out.size; omega)) (by rw [fm_length cellsP_len]; omega)).ext hx6 (fun ad e _ => (by have := hb ad e; have := Hxw3.out.size; omega)) (by rw [fm_length cellsP_len]; omega); have HL6 := Lib.hid L6; have Hx6 := Lib.hid hx6; have Hv6 := Lib.hid hv6; have Hown6 := Lib.hid hown6; clear hx6 hv6 hown6 hgrow6 hat6 L6 Hown5 Hx5 Hv5)
      | (at_builtin; refine wpList_append_any rfl (.tmp 33) (.tmp 34) 47 rfl 0 89 i0 _ 2 24 Try.underlying47 hi hz0 hz1 hz2 rfl (by decide) _ _ _ rfl Hown6.out _ _ _ (fun e => (by first | rfl | (have := Hk3.out (Option.map_eq_none_iff.1 e); omega) | (have := Hk3.out e; omega))) (rl.flatMap cellsP) rfl (by have := Hq2.out; rw [fm_length cellsP_len]; omega) (by first | exact .inl (by omega) | exact HL6.out _ _ rl (by have := Hq2.out; omega) (by rw [Hq3.out]; exact HLb.out _ (by omega) q1) (HglM.out _)) Ho2.out (by simp only [maxLen]; omega) (by omega) (Nat.zero_le _) ?_; intro v7 w7 hown7 hgrow7 hat7; simp only [Nat.zero_add, List.nil_append] at hown7; have hx7 : Ext (fun b => w3.heap.size ≤ b) w3 w7 := Hx6.out.grown hgrow7 (fun k e _ => Hv6.out k e); have Hx7 := Lib.hid hx7; have Hown7 := Lib.hid hown7; clear hx7 hown7 hgrow7 hat7 Hown6 Hx6 Hv6 HL6))
    go_ret
    have h0 : R'.flatMap cellsP = (R.take P).flatMap cellsP ++ cellsP (n, x) ++ rl.flatMap cellsP := by rw [Hrl'.out]; simp
    have hb3 := Hown7.out
    rw [← h0] at hb3
    have hcount := row_count (by omega) cellsP_len hb3
    rw [hcount] at hb3
    have hxf : Ext (fun _ => False) w w7 := Hxw3.out.trans' Hx7.out (fun k hk (e : w3.heap.size ≤ k) => absurd hk (by have := Hxw3.out.size; omega))
    exact ⟨v7, rfl, hb3, hxf⟩
  · subst q1
    have Hq2 := Lib.hid q2
    try (have Hq3 := Lib.hid q3; clear q3)
    clear q2
    go_enter Try.func44, Try.ntmps44
    go_wp2_with fail
    refine (Hfind.out _ (Ext.refl _ w)).mono ?_
    rintro r w3 ⟨rfl, hx3⟩
    have Hxw3 := Lib.hid hx3
    clear hx3
    have hb4 := blk_alloc_at w3 (.cells #[] 89)
    have hx4 : Ext (fun b => w3.heap.size ≤ b) w3 (w3.alloc (.cells #[] 89)) := (Ext.refl _ w3).alloc _
    have L4 := HL1.out.1.ext (ext_any (Hxw3.out.alloc (.cells #[] 89)) (fun b => w3.heap.size ≤ b)) (fun ad e _ => by have := Hgl.out ad e; have := Hxw3.out.size; omega) (by rw [fm_length cellsP_len, HL1.out.2]; omega)
    go_wp2_with (first
      | (at_builtin; refine wpList_append_any rfl (.tmp 24) (.tmp 27) 47 rfl 0 89 i0 _ 2 24 Try.underlying47 hi hz0 hz1 hz2 rfl (by decide) _ 0 [] rfl (ownsRow_empty 2 hb4) _ _ _ Hk3.out _ rfl (by rw [fm_length cellsP_len, HL1.out.2]) L4 Ho1.out (by simp only [maxLen]; omega) (by omega) (Nat.zero_le _) ?_; intro v5 w5 hown5 hgrow5 hat5; have hx5 : Ext (fun b => w3.heap.size ≤ b) w3 w5 := hx4.grown hgrow5 (fun k e _ => Nat.le_of_eq (Option.some.inj e)); have hs5 : w3.heap.size < w5.heap.size := Nat.lt_of_lt_of_le (by simp) hgrow5.size; have hv5 : ∀ g, v5.ownBlock = some g → w3.heap.size ≤ g := own_step hat5 (fun g e => Nat.le_of_eq (Option.some.inj e)) (by simp); have Hx5 := Lib.hid hx5; have Hv5 := Lib.hid hv5; have Hown5 := Lib.hid hown5; clear hx5 hv5 hown5 hgrow5 hat5 L4 hx4 hb4)
      | (at_builtin; refine wpList_append_any rfl (.tmp 28) (.tmp 32) 47 rfl 0 89 i0 _ 2 24 Try.underlying47 hi hz0 hz1 hz2 rfl (by decide) _ _ _ rfl (Hown5.out.alloc _) _ 1 1 (fun e => (by cases e)) (cellsP (n, x)) rfl rfl (.inr ⟨_, rfl, cells_new (cellsP (n, x)) _ rfl⟩) (cellsP_one _) (by simp only [maxLen]; omega) (by omega) (Nat.zero_le _) ?_; intro v6 w6 hown6 hgrow6 hat6; have hx6 : Ext (fun b => w3.heap.size ≤ b) w3 w6 := (Hx5.out.alloc _).grown hgrow6 (fun k e _ => Hv5.out k e); have hs6 : w3.heap.size < w6.heap.size := Nat.lt_of_lt_of_le hs5 (Nat.le_trans (by simp) hgrow6.size); have hv6 : ∀ g, v6.ownBlock = some g → w3.heap.size ≤ g := own_step hat6 Hv5.out (by simp; omega); have L6 := fun (a : Option Addr) (m : Nat) (l : KM) (hp : m = l.length) (h : Lies w a m (l.flatMap cellsP)) (hb : ∀ ad, a = some ad → ad.block < w.heap.size) => (h.ext (ext_any Hxw3.out (fun b => w3.heap.size ≤ b)) (fun ad e _ => (by have := hb ad e; have := Hxw3.out.size; omega)) (by rw [fm_length cellsP_len]; omega)).ext hx6 (fun ad e _ => (by have := hb ad e; have := Hxw3.out.size; omega)) (by rw [fm_length cellsP_len]; omega); have HL6 := Lib.hid L6; have Hx6 := Lib.hid hx6; have Hv6 := Lib.hid hv6; have Hown6 := Lib.hid hown6; clear hx6 hv6 hown6 hgrow6 hat6 L6 Hown5 Hx5 Hv5)
      | (at_builtin; refine wpList_append_any rfl (.tmp 33) (.tmp 34) 47 rfl 0 89 i0 _ 2 24 Try.underlying47 hi hz0 hz1 hz2 rfl (by decide) _ _ _ rfl Hown6.out _ _ _ (fun e => (by first | rfl | (have := Hk3.out (Option.map_eq_none_iff.1 e); omega) | (have := Hk3.out e; omega))) (rl.flatMap cellsP) rfl (by have := Hq2.out; rw [fm_length cellsP_len]; omega) (by first | exact .inl (by omega) | exact HL6.out _ _ rl (by have := Hq2.out; omega) (by rw [Hq3.out]; exact HLb.out _ (by omega) q1) (HglM.out _)) Ho2.out (by simp only [maxLen]; omega) (by omega) (Nat.zero_le _) ?_; intro v7 w7 hown7 hgrow7 hat7; simp only [Nat.zero_add, List.nil_append] at hown7; have hx7 : Ext (fun b => w3.heap.size ≤ b) w3 w7 := Hx6.out.grown hgrow7 (fun k e _ => Hv6.out k e); have Hx7 := Lib.hid hx7; have Hown7 := Lib.hid hown7; clear hx7 hown7 hgrow7 hat7 Hown6 Hx6 Hv6 HL6))
    go_ret
    have h0 : R'.flatMap cellsP = (R.take P).flatMap cellsP ++ cellsP (n, x) ++ rl.flatMap cellsP := by rw [Hrl'.out]; simp
    have hb3 := Hown7.out
    rw [← h0] at hb3
    have hcount := row_count (by omega) cellsP_len hb3
    rw [hcount] at hb3
    have hxf : Ext (fun _ => False) w w7 := Hxw3.out.trans' Hx7.out (fun k hk (e : w3.heap.size ≤ k) => absurd hk (by have := Hxw3.out.size; omega))
    exact ⟨v7, rfl, hb3, hxf⟩
  · have Hq2 := Lib.hid q2
    try (have Hq3 := Lib.hid q3; clear q3)
    clear q2
    go_enter Try.func44, Try.ntmps44
    go_wp2_with fail
    refine (Hfind.out _ (Ext.refl _ w)).mono ?_
    rintro r w3 ⟨rfl, hx3⟩
    have Hxw3 := Lib.hid hx3
    clear hx3
    have hb4 := blk_alloc_at w3 (.cells #[] 89)
    have hx4 : Ext (fun b => w3.heap.size ≤ b) w3 (w3.alloc (.cells #[] 89)) := (Ext.refl _ w3).alloc _
    have L4 := HL1.out.1.ext (ext_any (Hxw3.out.alloc (.cells #[] 89)) (fun b => w3.heap.size ≤ b)) (fun ad e _ => by have := Hgl.out ad e; have := Hxw3.out.size; omega) (by rw [fm_length cellsP_len, HL1.out.2]; omega)
    go_wp2_with (first
      | (at_builtin; refine wpList_append_any rfl (.tmp 24) (.tmp 27) 47 rfl 0 89 i0 _ 2 24 Try.underlying47 hi hz0 hz1 hz2 rfl (by decide) _ 0 [] rfl (ownsRow_empty 2 hb4) _ _ _ Hk3.out _ rfl (by rw [fm_length cellsP_len, HL1.out.2]) L4 Ho1.out (by simp only [maxLen]; omega) (by omega) (Nat.zero_le _) ?_; intro v5 w5 hown5 hgrow5 hat5; have hx5 : Ext (fun b => w3.heap.size ≤ b) w3 w5 := hx4.grown hgrow5 (fun k e _ => Nat.le_of_eq (Option.some.inj e)); have hs5 : w3.heap.size < w5.heap.size := Nat.lt_of_lt_of_le (by simp) hgrow5.size; have hv5 : ∀ g, v5.ownBlock = some g → w3.heap.size ≤ g := own_step hat5 (fun g e => Nat.le_of_eq (Option.some.inj e)) (by simp); have Hx5 := Lib.hid hx5; have Hv5 := Lib.hid hv5; have Hown5 := Lib.hid hown5; clear hx5 hv5 hown5 hgrow5 hat5 L4 hx4 hb4)
      | (at_builtin; refine wpList_append_any rfl (.tmp 28) (.tmp 32) 47 rfl 0 89 i0 _ 2 24 Try.underlying47 hi hz0 hz1 hz2 rfl (by decide) _ _ _ rfl (Hown5.out.alloc _) _ 1 1 (fun e => (by cases e)) (cellsP (n, x)) rfl rfl (.inr ⟨_, rfl, cells_new (cellsP (n, x)) _ rfl⟩) (cellsP_one _) (by simp only [maxLen]; omega) (by omega) (Nat.zero_le _) ?_; intro v6 w6 hown6 hgrow6 hat6; have hx6 : Ext (fun b => w3.heap.size ≤ b) w3 w6 := (Hx5.out.alloc _).grown hgrow6 (fun k e _ => Hv5.out k e); have hs6 : w3.heap.size < w6.heap.size := Nat.lt_of_lt_of_le hs5 (Nat.le_trans (by simp) hgrow6.size); have hv6 : ∀ g, v6.ownBlock = some g → w3.heap.size ≤ g := own_step hat6 Hv5.out (by simp; omega); have L6 := fun (a : Option Addr) (m : Nat) (l : KM) (hp : m = l.length) (h : Lies w a m (l.flatMap cellsP)) (hb : ∀ ad, a = some ad → ad.block < w.heap.size) => (h.ext (ext_any Hxw3.out (fun b => w3.heap.size ≤ b)) (fun ad e _ => (by have := hb ad e; have := Hxw3.out.size; omega)) (by rw [fm_length cellsP_len]; omega)).ext hx6 (fun ad e _ => (by have := hb ad e; have := Hxw3.out.size; omega)) (by rw [fm_length cellsP_len]; omega); have HL6 := Lib.hid L6; have Hx6 := Lib.hid hx6; have Hv6 := Lib.hid hv6; have Hown6 := Lib.hid hown6; clear hx6 hv6 hown6 hgrow6 hat6 L6 Hown5 Hx5 Hv5)
      | (at_builtin; refine wpList_append_any rfl (.tmp 33) (.tmp 34) 47 rfl 0 89 i0 _ 2 24 Try.underlying47 hi hz0 hz1 hz2 rfl (by decide) _ _ _ rfl Hown6.out _ _ _ (fun e => (by first | rfl | (have := Hk3.out (Option.map_eq_none_iff.1 e); omega) | (have := Hk3.out e; omega))) (rl.flatMap cellsP) rfl (by have := Hq2.out; rw [fm_length cellsP_len]; omega) (by first | exact .inl (by omega) | exact HL6.out _ _ rl (by have := Hq2.out; omega) (by rw [Hq3.out]; exact HLb.out _ (by omega) q1) (HglM.out _)) Ho2.out (by simp only [maxLen]; omega) (by omega) (Nat.zero_le _) ?_; intro v7 w7 hown7 hgrow7 hat7; simp only [Nat.zero_add, List.nil_append] at hown7; have hx7 : Ext (fun b => w3.heap.size ≤ b) w3 w7 := Hx6.out.grown hgrow7 (fun k e _ => Hv6.out k e); have Hx7 := Lib.hid hx7; have Hown7 := Lib.hid hown7; clear hx7 hown7 hgrow7 hat7 Hown6 Hx6 Hv6 HL6))
    go_ret
    have h0 : R'.flatMap cellsP = (R.take P).flatMap cellsP ++ cellsP (n, x) ++ rl.flatMap cellsP := by rw [Hrl'.out]; simp
    have hb3 := Hown7.out
    rw [← h0] at hb3
    have hcount := row_count (by omega) cellsP_len hb3
    rw [hcount] at hb3
    have hxf : Ext (fun _ => False) w w7 := Hxw3.out.trans' Hx7.out (fun k hk (e : w3.heap.size ≤ k) => absurd hk (by have := Hxw3.out.size; omega))
    exact ⟨v7, rfl, hb3, hxf⟩
end Go.Proofs.Ythipbmppmgkklaa
