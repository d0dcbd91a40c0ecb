/-
  The reference of package store: Do. Conditions: IsRows, the state is good and small.
-/
import Derived.Test.YthipbmppmgkklaaC3
import Derived.Test.YthipbmppmgkklaaQ4
namespace Go.Proofs.Ythipbmppmgkklaa
open Go.RowKit Go.MapKept
open Go.ChangeMaps (setBlock)

/-- the reference's answer: the rows of the new state, and the result -/
def RDoPost (w : World) (p : KM × Rs) (r : Ending) (w' : World) : Prop := ∃ v', r = .returned (.tuple #[v', p.2.val]) ∧ IsRows w' v' (ksort leS p.1) ∧ Ext (fun _ => False) w w'
theorem ksort_aput {m : KM} (hn : (m.map Prod.fst).Nodup) (k : ByteArray) (n : Int) : setN (ksort leS m) k n = ksort leS (aput m k n) := by
  rw [aput_k, ksort_kput linS hn]; rfl
theorem kget_sorted {m : KM} (hn : (m.map Prod.fst).Nodup) (k : ByteArray) : kget (ksort leS m) k = assoc m k := by
  rw [kget_ksort hn, assoc_k]
/-- the call's own boxes: the operation's, the result's -/
structure DoSt (w wi : World) (x : OpV) : Prop where
  ext : Ext (fun _ => False) w wi
  p : blk wi w.heap.size = some (.cells #[.int .i64 x.k, .string x.key, .int .i64 x.v, .int .i64 x.o] 24 (0, 0))
  q : blk wi (w.heap.size + 1) = some (.cells #[.int .i64 0, .bool false, .int .i64 0] 31 (0, 0))
theorem DoSt.start (w : World) (x : OpV) : DoSt w ((w.alloc (.cells #[.int .i64 x.k, .string x.key, .int .i64 x.v, .int .i64 x.o] 24)).alloc (.cells #[.int .i64 0, .bool false, .int .i64 0] 31)) x :=
  ⟨((Ext.refl _ w).alloc _).alloc _, (blk_alloc_past _ _ _ (by simp)).trans (blk_alloc_at _ _), by simpa using blk_alloc_at (w.alloc (.cells #[.int .i64 x.k, .string x.key, .int .i64 x.v, .int .i64 x.o] 24)) (.cells #[.int .i64 0, .bool false, .int .i64 0] 31)⟩
theorem DoSt.keep {w wi w' : World} {x : OpV} (h : DoSt w wi x) (hx : Ext (fun _ => False) wi w') : DoSt w w' x :=
  ⟨h.ext.trans hx, (hx.blk (blk_lt h.p) id).trans h.p, (hx.blk (blk_lt h.q) id).trans h.q⟩
theorem DoSt.fin {w wi : World} {x : OpV} (h : DoSt w wi x) {v' : Value} {m' : KM} (hr : IsRows wi v' (ksort leS m')) (pc : Int) (pf : Bool) (pv : Int) :
    (set3 wi (w.heap.size + 1) (.int .i64 pc) (.bool pf) (.int .i64 pv)).cell? ⟨w.heap.size + 1, 0, none⟩ = some (.int .i64 pc) ∧ (set3 wi (w.heap.size + 1) (.int .i64 pc) (.bool pf) (.int .i64 pv)).cell? ⟨w.heap.size + 1, 1, none⟩ = some (.bool pf) ∧ (set3 wi (w.heap.size + 1) (.int .i64 pc) (.bool pf) (.int .i64 pv)).cell? ⟨w.heap.size + 1, 2, none⟩ = some (.int .i64 pv) ∧
      RDoPost w (m', ⟨pc, pf, pv⟩) (.returned (.tuple #[v', .agg #[.int .i64 pc, .bool pf, .int .i64 pv]])) (set3 wi (w.heap.size + 1) (.int .i64 pc) (.bool pf) (.int .i64 pv)) := by
  obtain ⟨d0, d1, d2, hx9⟩ := tail_done h.q (.int .i64 pc) (.bool pf) (.int .i64 pv)
  refine ⟨d0, d1, d2, v', rfl, ownsRow_ext hr hx9 (fun g hg e => ?_), h.ext.trans' hx9 (fun k hk (e : k = w.heap.size + 1) => absurd hk (by omega))⟩
  obtain ⟨cur, hc⟩ := row_type hr hg
  have e' : g = w.heap.size + 1 := e
  rw [e', h.q] at hc
  cases hc
set_option maxRecDepth 100000 in
set_option maxHeartbeats 4000000 in
theorem rdo_bad (w : World) (v : Value) (m : KM) (hr : IsRows w v (ksort leS m)) (xk : Int) (key : ByteArray) (xv xo : Int) (hks : key.size ≤ 9223372036854775807)
    (hbad : (xk < 0 ∨ 3 < xk) ∨ (key.size : Int) < 1 ∨ (31 : Int) < key.size) :
    Calls Try.prog 20 #[v, .agg #[.int .i64 xk, .string key, .int .i64 xv, .int .i64 xo]] w (RDoPost w (m, ⟨1, false, 0⟩)) := by
  obtain ⟨w1, hw1⟩ : ∃ w1, w1 = (w.alloc (.cells #[.int .i64 xk, .string key, .int .i64 xv, .int .i64 xo] 24)).alloc (.cells #[.int .i64 0, .bool false, .int .i64 0] 31) := ⟨_, rfl⟩
  have hS : DoSt w w1 ⟨xk, key, xv, xo⟩ := by rw [hw1]; exact DoSt.start w ⟨xk, key, xv, xo⟩
  obtain ⟨p0, p1, p2, p3⟩ := box4 hS.p
  obtain ⟨c0, c1, c2, f0, f1, f2⟩ := tail_reads hS.q
  have hltq := blk_lt hS.q
  have hltp := blk_lt hS.p
  have hfin := hS.fin (ownsRow_keep hr hS.ext) 1 false 0
  obtain ⟨ao, cap, rfl⟩ := ownsRow_shape hr
  generalize (ksort leS m).length = N at *
  have Hfin := Lib.hid hfin
  unfold set3 at Hfin
  clear hfin hS hr
  by_cases h1 : xk < 0
  · clear hbad
    go_enter Try.func20, Try.ntmps20
    go_upto_region 1 with fail
    rw [← hw1]
    clear hw1
    go_wp2
    obtain ⟨d0, d1, d2, hfin⟩ := Hfin.out
    exact bodyPost_ret (v := .tuple #[.slice ao N cap, .agg #[.int .i64 1, .bool false, .int .i64 0]]) (by simp [results, Try.results20, go_sem, d0, d1, d2]) rfl hfin
  by_cases h2 : 3 < xk
  · clear hbad
    go_enter Try.func20, Try.ntmps20
    go_upto_region 1 with fail
    rw [← hw1]
    clear hw1
    go_wp2
    obtain ⟨d0, d1, d2, hfin⟩ := Hfin.out
    exact bodyPost_ret (v := .tuple #[.slice ao N cap, .agg #[.int .i64 1, .bool false, .int .i64 0]]) (by simp [results, Try.results20, go_sem, d0, d1, d2]) rfl hfin
  by_cases h3 : (key.size : Int) < 1
  · clear hbad
    go_enter Try.func20, Try.ntmps20
    go_upto_region 1 with fail
    rw [← hw1]
    clear hw1
    go_wp2
    obtain ⟨d0, d1, d2, hfin⟩ := Hfin.out
    exact bodyPost_ret (v := .tuple #[.slice ao N cap, .agg #[.int .i64 1, .bool false, .int .i64 0]]) (by simp [results, Try.results20, go_sem, d0, d1, d2]) rfl hfin
  · have h4 : (31 : Int) < key.size := by omega
    clear hbad
    go_enter Try.func20, Try.ntmps20
    go_upto_region 1 with fail
    rw [← hw1]
    clear hw1
    go_wp2
    obtain ⟨d0, d1, d2, hfin⟩ := Hfin.out
    exact bodyPost_ret (v := .tuple #[.slice ao N cap, .agg #[.int .i64 1, .bool false, .int .i64 0]]) (by simp [results, Try.results20, go_sem, d0, d1, d2]) rfl hfin
set_option maxRecDepth 100000 in
set_option maxHeartbeats 4000000 in
theorem rdo_good (w : World) (v : Value) (m : KM) (hr : IsRows w v (ksort leS m)) (hg : Good m) (hm : m.length ≤ 100000) (xk : Int) (key : ByteArray) (xv xo : Int) (hks : key.size ≤ 9223372036854775807)
    (b1 : ¬ xk < 0) (b2 : ¬ 3 < xk) (b3 : ¬ (key.size : Int) < 1) (b4 : ¬ (31 : Int) < key.size) :
    Calls Try.prog 20 #[v, .agg #[.int .i64 xk, .string key, .int .i64 xv, .int .i64 xo]] w (RDoPost w (doM m ⟨xk, key, xv, xo⟩)) := by
  have e : doM m ⟨xk, key, xv, xo⟩ = if xk = 0 then getM m ⟨xk, key, xv, xo⟩ else if xk = 1 then putM m ⟨xk, key, xv, xo⟩ else if xk = 2 then casM m ⟨xk, key, xv, xo⟩ else if xk = 3 then addM m ⟨xk, key, xv, xo⟩ else (m, ⟨1, false, 0⟩) := by
    unfold doM; rw [if_neg (by show ¬ (key.size < 1 ∨ 31 < key.size); omega)]
  have hlen : (ksort leS m).length = m.length := ksort_length m
  have hgR : Rising (ksort leS m) := ksort_lt linS hg.nodup
  have hget := fun (W : World) (hx : Ext (fun _ => False) w W) => rget_any W v _ (hr.keep hx) hgR (by omega) key
  have hset := fun (W : World) (hx : Ext (fun _ => False) w W) (n : Int) => rset_any W v _ (hr.keep hx) hgR (by omega) key n
  simp only [kget_sorted hg.nodup, ksort_aput hg.nodup] at hget hset
  have hfits : fits m key = ((assoc m key).isSome || decide (m.length < 1024)) := rfl
  unfold getM putM casM addM setM at e
  simp only at e
  obtain ⟨A, hA⟩ : ∃ A, (assoc m key).getD 0 = A := ⟨_, rfl⟩
  obtain ⟨B, hB⟩ : ∃ B, (assoc m key).isSome = B := ⟨_, rfl⟩
  obtain ⟨N, hN⟩ : ∃ N, m.length = N := ⟨_, rfl⟩
  rw [hA, hB] at hget
  rw [hB, hN] at hfits
  rw [hA, hB, hfits] at e
  rw [hN] at hm hlen
  obtain ⟨w1, hw1⟩ : ∃ w1, w1 = (w.alloc (.cells #[.int .i64 xk, .string key, .int .i64 xv, .int .i64 xo] 24)).alloc (.cells #[.int .i64 0, .bool false, .int .i64 0] 31) := ⟨_, rfl⟩
  have hS : DoSt w w1 ⟨xk, key, xv, xo⟩ := by rw [hw1]; exact DoSt.start w ⟨xk, key, xv, xo⟩
  obtain ⟨p0, p1, p2, p3⟩ := box4 hS.p
  have hltp := blk_lt hS.p
  have hget1 := hget w1 hS.ext
  have Hset := Lib.hid hset
  have HS := Lib.hid hS
  have Hr := Lib.hid hr
  obtain ⟨ao, cap, rfl⟩ := ownsRow_shape hr
  rw [hlen] at hget1 Hset Hr ⊢
  have Hget := Lib.hid hget1
  have He := Lib.hid e
  clear hget1 hget hset hS hr hg hgR hlen hA hB hN hfits e
  generalize doM m ⟨xk, key, xv, xo⟩ = M at *
  simp only at p0 p1 p2 p3
  by_cases hful : B = false ∧ 1024 ≤ N ∧ (xk = 1 ∨ xk = 3)
  · obtain ⟨rfl, hN1, e1⟩ := hful
    have hN2 : (1024 : Int) ≤ N := by omega
    rcases e1 with e1 | e1
    · subst e1
      have HM : Hid (M = (m, ⟨8, false, 0⟩)) := Lib.hid (by rw [He.out, if_neg (by omega), if_pos rfl, if_neg (by simp; omega)])
      clear He
      go_enter Try.func20, Try.ntmps20
      go_upto_region 1 with fail
      rw [← hw1]
      clear hw1
      go_wp2_with fail
      refine Hget.out.mono ?_
      rintro r w3 ⟨rfl, hx3⟩
      have hS3 := HS.out.keep hx3
      have hr3 := Hr.out.keep hS3.ext
      clear p0 p1 p2 p3 hltp
      obtain ⟨p0, p1, p2, p3⟩ := box4 hS3.p
      obtain ⟨c0, c1, c2, f0, f1, f2⟩ := tail_reads hS3.q
      simp only at p0 p1 p2 p3
      have hltq := blk_lt hS3.q
      have hltp := blk_lt hS3.p
      have HS3 := Lib.hid hS3
      have hfin := hS3.fin (m' := m) hr3 8 false 0
      have Hfin := Lib.hid hfin
      unfold set3 at Hfin
      clear hfin hx3 hS3 hr3 HS Hget Hset
      go_wp2_with fail
      obtain ⟨d0, d1, d2, hfin⟩ := Hfin.out
      exact bodyPost_ret (v := .tuple #[.slice ao N cap, .agg #[.int .i64 8, .bool false, .int .i64 0]]) (by simp [results, Try.results20, go_sem, d0, d1, d2]) rfl (by rw [HM.out]; exact hfin)
    · subst e1
      have HM : Hid (M = (m, ⟨8, false, 0⟩)) := Lib.hid (by rw [He.out, if_neg (by omega), if_neg (by omega), if_neg (by omega), if_pos rfl, if_neg (by simp; omega)])
      clear He
      go_enter Try.func20, Try.ntmps20
      go_upto_region 1 with fail
      rw [← hw1]
      clear hw1
      go_wp2_with fail
      refine Hget.out.mono ?_
      rintro r w3 ⟨rfl, hx3⟩
      have hS3 := HS.out.keep hx3
      have hr3 := Hr.out.keep hS3.ext
      clear p0 p1 p2 p3 hltp
      obtain ⟨p0, p1, p2, p3⟩ := box4 hS3.p
      obtain ⟨c0, c1, c2, f0, f1, f2⟩ := tail_reads hS3.q
      simp only at p0 p1 p2 p3
      have hltq := blk_lt hS3.q
      have hltp := blk_lt hS3.p
      have HS3 := Lib.hid hS3
      have hfin := hS3.fin (m' := m) hr3 8 false 0
      have Hfin := Lib.hid hfin
      unfold set3 at Hfin
      clear hfin hx3 hS3 hr3 HS Hget Hset
      go_wp2_with fail
      obtain ⟨d0, d1, d2, hfin⟩ := Hfin.out
      exact bodyPost_ret (v := .tuple #[.slice ao N cap, .agg #[.int .i64 8, .bool false, .int .i64 0]]) (by simp [results, Try.results20, go_sem, d0, d1, d2]) rfl (by rw [HM.out]; exact hfin)
  by_cases k0 : xk = 0
  · subst k0
    have HM : Hid (M = (m, ⟨0, B, A⟩)) := Lib.hid (by rw [He.out, if_pos rfl])
    clear hful
    cases B with
    | true =>
      clear He
      go_enter Try.func20, Try.ntmps20
      go_upto_region 1 with fail
      rw [← hw1]
      clear hw1
      go_wp2_with fail
      refine Hget.out.mono ?_
      rintro r w3 ⟨rfl, hx3⟩
      have hS3 := HS.out.keep hx3
      have hr3 := Hr.out.keep hS3.ext
      clear p0 p1 p2 p3 hltp
      obtain ⟨p0, p1, p2, p3⟩ := box4 hS3.p
      obtain ⟨c0, c1, c2, f0, f1, f2⟩ := tail_reads hS3.q
      simp only at p0 p1 p2 p3
      have hltq := blk_lt hS3.q
      have hltp := blk_lt hS3.p
      have HS3 := Lib.hid hS3
      have hfin := hS3.fin (m' := m) hr3 0 true A
      have Hfin := Lib.hid hfin
      unfold set3 at Hfin
      clear hfin hx3 hS3 hr3 HS Hget Hset
      go_wp2_with fail
      obtain ⟨d0, d1, d2, hfin⟩ := Hfin.out
      exact bodyPost_ret (v := .tuple #[.slice ao N cap, .agg #[.int .i64 0, .bool true, .int .i64 A]]) (by simp [results, Try.results20, go_sem, d0, d1, d2]) rfl (by rw [HM.out]; exact hfin)
    | false =>
      by_cases hN1 : (1024 : Int) ≤ N
      · clear He
        go_enter Try.func20, Try.ntmps20
        go_upto_region 1 with fail
        rw [← hw1]
        clear hw1
        go_wp2_with fail
        refine Hget.out.mono ?_
        rintro r w3 ⟨rfl, hx3⟩
        have hS3 := HS.out.keep hx3
        have hr3 := Hr.out.keep hS3.ext
        clear p0 p1 p2 p3 hltp
        obtain ⟨p0, p1, p2, p3⟩ := box4 hS3.p
        obtain ⟨c0, c1, c2, f0, f1, f2⟩ := tail_reads hS3.q
        simp only at p0 p1 p2 p3
        have hltq := blk_lt hS3.q
        have hltp := blk_lt hS3.p
        have HS3 := Lib.hid hS3
        have hfin := hS3.fin (m' := m) hr3 0 false A
        have Hfin := Lib.hid hfin
        unfold set3 at Hfin
        clear hfin hx3 hS3 hr3 HS Hget Hset
        go_wp2_with fail
        obtain ⟨d0, d1, d2, hfin⟩ := Hfin.out
        exact bodyPost_ret (v := .tuple #[.slice ao N cap, .agg #[.int .i64 0, .bool false, .int .i64 A]]) (by simp [results, Try.results20, go_sem, d0, d1, d2]) rfl (by rw [HM.out]; exact hfin)
      · clear He
        go_enter Try.func20, Try.ntmps20
        go_upto_region 1 with fail
        rw [← hw1]
        clear hw1
        go_wp2_with fail
        refine Hget.out.mono ?_
        rintro r w3 ⟨rfl, hx3⟩
        have hS3 := HS.out.keep hx3
        have hr3 := Hr.out.keep hS3.ext
        clear p0 p1 p2 p3 hltp
        obtain ⟨p0, p1, p2, p3⟩ := box4 hS3.p
        obtain ⟨c0, c1, c2, f0, f1, f2⟩ := tail_reads hS3.q
        simp only at p0 p1 p2 p3
        have hltq := blk_lt hS3.q
        have hltp := blk_lt hS3.p
        have HS3 := Lib.hid hS3
        have hfin := hS3.fin (m' := m) hr3 0 false A
        have Hfin := Lib.hid hfin
        unfold set3 at Hfin
        clear hfin hx3 hS3 hr3 HS Hget Hset
        go_wp2_with fail
        obtain ⟨d0, d1, d2, hfin⟩ := Hfin.out
        exact bodyPost_ret (v := .tuple #[.slice ao N cap, .agg #[.int .i64 0, .bool false, .int .i64 A]]) (by simp [results, Try.results20, go_sem, d0, d1, d2]) rfl (by rw [HM.out]; exact hfin)
  by_cases k1 : xk = 1
  · subst k1
    have hfit : (B || decide (N < 1024)) = true := by
      cases B with
      | true => rfl
      | false => simp; by_cases h : N < 1024
                 · exact h
                 · exact absurd ⟨rfl, by omega, .inl rfl⟩ hful
    have HM : Hid (M = (aput m key xv, ⟨0, true, xv⟩)) := Lib.hid (by rw [He.out, if_neg (by omega), if_pos rfl, if_pos hfit])
    clear hful
    cases B with
    | true =>
      clear hfit
      clear He
      go_enter Try.func20, Try.ntmps20
      go_upto_region 1 with fail
      rw [← hw1]
      clear hw1
      go_wp2_with fail
      refine Hget.out.mono ?_
      rintro r w3 ⟨rfl, hx3⟩
      have hS3 := HS.out.keep hx3
      have hr3 := Hr.out.keep hS3.ext
      clear p0 p1 p2 p3 hltp
      obtain ⟨p0, p1, p2, p3⟩ := box4 hS3.p
      obtain ⟨c0, c1, c2, f0, f1, f2⟩ := tail_reads hS3.q
      simp only at p0 p1 p2 p3
      have hltq := blk_lt hS3.q
      have hltp := blk_lt hS3.p
      have HS3 := Lib.hid hS3
      have hset3 := Hset.out w3.drew (hS3.ext.trans ((Ext.refl (fun _ => False) w3).drew)) xv
      have Hset3 := Lib.hid hset3
      clear hset3 hx3 hS3 hr3 HS Hget Hset
      go_upto_region 10 with fail
      go_region_held3 (fun w' => w'.cell? ⟨w.heap.size, 1, none⟩ = some (.string key) ∧ w'.cell? ⟨w.heap.size, 2, none⟩ = some (.int .i64 xv))
        (first | exact ⟨by assumption, by assumption⟩ | go_keep)
        (first
          | (go_at_call 44; (with_reducible refine Hset3.out.mono ?_); rintro r w5 ⟨v5, rfl, hr5, hx5⟩; have hS5 := (HS3.out.keep ((Ext.refl (fun _ => False) w3).drew)).keep hx5; obtain ⟨p0, p1, p2, p3⟩ := box4 hS5.p; obtain ⟨c0, c1, c2, f0, f1, f2⟩ := tail_reads hS5.q; simp only at p0 p1 p2 p3; have hltq := blk_lt hS5.q; have hfin := hS5.fin hr5 0 true xv; have Hfin := Lib.hid hfin; unfold set3 at Hfin; clear hfin hr5 hx5 hS5))
      all_goals go_wp2_with fail
      all_goals obtain ⟨d0, d1, d2, hfin⟩ := Hfin.out
      all_goals exact bodyPost_ret (v := .tuple #[v5, .agg #[.int .i64 0, .bool true, .int .i64 xv]]) (by simp [results, Try.results20, go_sem, d0, d1, d2]) rfl (by rw [HM.out]; exact hfin)
    | false =>
      have hN1 : ¬ (1024 : Int) ≤ N := by simp at hfit; omega
      clear hfit
      clear He
      go_enter Try.func20, Try.ntmps20
      go_upto_region 1 with fail
      rw [← hw1]
      clear hw1
      go_wp2_with fail
      refine Hget.out.mono ?_
      rintro r w3 ⟨rfl, hx3⟩
      have hS3 := HS.out.keep hx3
      have hr3 := Hr.out.keep hS3.ext
      clear p0 p1 p2 p3 hltp
      obtain ⟨p0, p1, p2, p3⟩ := box4 hS3.p
      obtain ⟨c0, c1, c2, f0, f1, f2⟩ := tail_reads hS3.q
      simp only at p0 p1 p2 p3
      have hltq := blk_lt hS3.q
      have hltp := blk_lt hS3.p
      have HS3 := Lib.hid hS3
      have hset3 := Hset.out w3.drew (hS3.ext.trans ((Ext.refl (fun _ => False) w3).drew)) xv
      have Hset3 := Lib.hid hset3
      clear hset3 hx3 hS3 hr3 HS Hget Hset
      go_upto_region 10 with fail
      go_region_held3 (fun w' => w'.cell? ⟨w.heap.size, 1, none⟩ = some (.string key) ∧ w'.cell? ⟨w.heap.size, 2, none⟩ = some (.int .i64 xv))
        (first | exact ⟨by assumption, by assumption⟩ | go_keep)
        (first
          | (go_at_call 44; (with_reducible refine Hset3.out.mono ?_); rintro r w5 ⟨v5, rfl, hr5, hx5⟩; have hS5 := (HS3.out.keep ((Ext.refl (fun _ => False) w3).drew)).keep hx5; obtain ⟨p0, p1, p2, p3⟩ := box4 hS5.p; obtain ⟨c0, c1, c2, f0, f1, f2⟩ := tail_reads hS5.q; simp only at p0 p1 p2 p3; have hltq := blk_lt hS5.q; have hfin := hS5.fin hr5 0 true xv; have Hfin := Lib.hid hfin; unfold set3 at Hfin; clear hfin hr5 hx5 hS5))
      all_goals go_wp2_with fail
      all_goals obtain ⟨d0, d1, d2, hfin⟩ := Hfin.out
      all_goals exact bodyPost_ret (v := .tuple #[v5, .agg #[.int .i64 0, .bool true, .int .i64 xv]]) (by simp [results, Try.results20, go_sem, d0, d1, d2]) rfl (by rw [HM.out]; exact hfin)
  by_cases k2 : xk = 2
  · subst k2
    clear hful
    cases B with
    | false =>
      have HM : Hid (M = (m, ⟨0, false, A⟩)) := Lib.hid (by rw [He.out, if_neg (by omega), if_neg (by omega), if_pos rfl, if_neg (by simp)])
      by_cases hN1 : (1024 : Int) ≤ N
      · clear He
        go_enter Try.func20, Try.ntmps20
        go_upto_region 1 with fail
        rw [← hw1]
        clear hw1
        go_wp2_with fail
        refine Hget.out.mono ?_
        rintro r w3 ⟨rfl, hx3⟩
        have hS3 := HS.out.keep hx3
        have hr3 := Hr.out.keep hS3.ext
        clear p0 p1 p2 p3 hltp
        obtain ⟨p0, p1, p2, p3⟩ := box4 hS3.p
        obtain ⟨c0, c1, c2, f0, f1, f2⟩ := tail_reads hS3.q
        simp only at p0 p1 p2 p3
        have hltq := blk_lt hS3.q
        have hltp := blk_lt hS3.p
        have HS3 := Lib.hid hS3
        have hfin := hS3.fin (m' := m) hr3 0 false A
        have Hfin := Lib.hid hfin
        unfold set3 at Hfin
        clear hfin hx3 hS3 hr3 HS Hget Hset
        go_wp2_with fail
        obtain ⟨d0, d1, d2, hfin⟩ := Hfin.out
        exact bodyPost_ret (v := .tuple #[.slice ao N cap, .agg #[.int .i64 0, .bool false, .int .i64 A]]) (by simp [results, Try.results20, go_sem, d0, d1, d2]) rfl (by rw [HM.out]; exact hfin)
      · clear He
        go_enter Try.func20, Try.ntmps20
        go_upto_region 1 with fail
        rw [← hw1]
        clear hw1
        go_wp2_with fail
        refine Hget.out.mono ?_
        rintro r w3 ⟨rfl, hx3⟩
        have hS3 := HS.out.keep hx3
        have hr3 := Hr.out.keep hS3.ext
        clear p0 p1 p2 p3 hltp
        obtain ⟨p0, p1, p2, p3⟩ := box4 hS3.p
        obtain ⟨c0, c1, c2, f0, f1, f2⟩ := tail_reads hS3.q
        simp only at p0 p1 p2 p3
        have hltq := blk_lt hS3.q
        have hltp := blk_lt hS3.p
        have HS3 := Lib.hid hS3
        have hfin := hS3.fin (m' := m) hr3 0 false A
        have Hfin := Lib.hid hfin
        unfold set3 at Hfin
        clear hfin hx3 hS3 hr3 HS Hget Hset
        go_wp2_with fail
        obtain ⟨d0, d1, d2, hfin⟩ := Hfin.out
        exact bodyPost_ret (v := .tuple #[.slice ao N cap, .agg #[.int .i64 0, .bool false, .int .i64 A]]) (by simp [results, Try.results20, go_sem, d0, d1, d2]) rfl (by rw [HM.out]; exact hfin)
    | true =>
      by_cases hA : A = xo
      · have HM : Hid (M = (aput m key xv, ⟨0, true, xv⟩)) := Lib.hid (by rw [He.out, if_neg (by omega), if_neg (by omega), if_pos rfl, if_pos (by simp [hA]), if_pos (by simp)])
        subst hA
        clear He
        go_enter Try.func20, Try.ntmps20
        go_upto_region 1 with fail
        rw [← hw1]
        clear hw1
        go_wp2_with fail
        refine Hget.out.mono ?_
        rintro r w3 ⟨rfl, hx3⟩
        have hS3 := HS.out.keep hx3
        have hr3 := Hr.out.keep hS3.ext
        clear p0 p1 p2 p3 hltp
        obtain ⟨p0, p1, p2, p3⟩ := box4 hS3.p
        obtain ⟨c0, c1, c2, f0, f1, f2⟩ := tail_reads hS3.q
        simp only at p0 p1 p2 p3
        have hltq := blk_lt hS3.q
        have hltp := blk_lt hS3.p
        have HS3 := Lib.hid hS3
        have hset3 := Hset.out w3.drew (hS3.ext.trans ((Ext.refl (fun _ => False) w3).drew)) xv
        have Hset3 := Lib.hid hset3
        clear hset3 hx3 hS3 hr3 HS Hget Hset
        go_upto_region 14 with fail
        go_region_held3 (fun w' => w'.cell? ⟨w.heap.size, 1, none⟩ = some (.string key) ∧ w'.cell? ⟨w.heap.size, 2, none⟩ = some (.int .i64 xv))
          (first | exact ⟨by assumption, by assumption⟩ | go_keep)
          (first
            | (go_at_call 44; (with_reducible refine Hset3.out.mono ?_); rintro r w5 ⟨v5, rfl, hr5, hx5⟩; have hS5 := (HS3.out.keep ((Ext.refl (fun _ => False) w3).drew)).keep hx5; obtain ⟨p0, p1, p2, p3⟩ := box4 hS5.p; obtain ⟨c0, c1, c2, f0, f1, f2⟩ := tail_reads hS5.q; simp only at p0 p1 p2 p3; have hltq := blk_lt hS5.q; have hfin := hS5.fin hr5 0 true xv; have Hfin := Lib.hid hfin; unfold set3 at Hfin; clear hfin hr5 hx5 hS5))
        all_goals go_wp2_with fail
        all_goals obtain ⟨d0, d1, d2, hfin⟩ := Hfin.out
        all_goals exact bodyPost_ret (v := .tuple #[v5, .agg #[.int .i64 0, .bool true, .int .i64 xv]]) (by simp [results, Try.results20, go_sem, d0, d1, d2]) rfl (by rw [HM.out]; exact hfin)
      · have HM : Hid (M = (m, ⟨0, false, A⟩)) := Lib.hid (by rw [He.out, if_neg (by omega), if_neg (by omega), if_pos rfl, if_neg (by simp [hA])])
        have hA2 : (A == xo) = false := by simpa using hA
        clear He
        go_enter Try.func20, Try.ntmps20
        go_upto_region 1 with fail
        rw [← hw1]
        clear hw1
        go_wp2_with fail
        refine Hget.out.mono ?_
        rintro r w3 ⟨rfl, hx3⟩
        have hS3 := HS.out.keep hx3
        have hr3 := Hr.out.keep hS3.ext
        clear p0 p1 p2 p3 hltp
        obtain ⟨p0, p1, p2, p3⟩ := box4 hS3.p
        obtain ⟨c0, c1, c2, f0, f1, f2⟩ := tail_reads hS3.q
        simp only at p0 p1 p2 p3
        have hltq := blk_lt hS3.q
        have hltp := blk_lt hS3.p
        have HS3 := Lib.hid hS3
        have hfin := hS3.fin (m' := m) hr3 0 false A
        have Hfin := Lib.hid hfin
        unfold set3 at Hfin
        clear hfin hx3 hS3 hr3 HS Hget Hset
        go_wp2_with fail
        obtain ⟨d0, d1, d2, hfin⟩ := Hfin.out
        exact bodyPost_ret (v := .tuple #[.slice ao N cap, .agg #[.int .i64 0, .bool false, .int .i64 A]]) (by simp [results, Try.results20, go_sem, d0, d1, d2]) rfl (by rw [HM.out]; exact hfin)
  · have k3 : xk = 3 := by omega
    subst k3
    have hfit : (B || decide (N < 1024)) = true := by
      cases B with
      | true => rfl
      | false => simp; by_cases h : N < 1024
                 · exact h
                 · exact absurd ⟨rfl, by omega, .inr rfl⟩ hful
    have HM : Hid (M = (aput m key (wrap64 (A + xv)), ⟨0, true, wrap64 (A + xv)⟩)) := Lib.hid (by rw [He.out, if_neg (by omega), if_neg (by omega), if_neg (by omega), if_pos rfl, if_pos hfit])
    clear hful
    cases B with
    | true =>
      clear hfit
      clear He
      go_enter Try.func20, Try.ntmps20
      go_upto_region 1 with fail
      rw [← hw1]
      clear hw1
      go_wp2_with fail
      refine Hget.out.mono ?_
      rintro r w3 ⟨rfl, hx3⟩
      have hS3 := HS.out.keep hx3
      have hr3 := Hr.out.keep hS3.ext
      clear p0 p1 p2 p3 hltp
      obtain ⟨p0, p1, p2, p3⟩ := box4 hS3.p
      obtain ⟨c0, c1, c2, f0, f1, f2⟩ := tail_reads hS3.q
      simp only at p0 p1 p2 p3
      have hltq := blk_lt hS3.q
      have hltp := blk_lt hS3.p
      have HS3 := Lib.hid hS3
      have hset3 : ∀ z, z = wrap64 (A + xv) → Calls Try.prog 44 #[.slice ao N cap, .string key, .int .i64 z] w3.drew (RowsPost w3.drew (ksort leS (aput m key (wrap64 (A + xv))))) := (by intro z hz; subst hz; exact Hset.out w3.drew (hS3.ext.trans ((Ext.refl (fun _ => False) w3).drew)) (wrap64 (A + xv)))
      have hwr : IntKind.i64.wrap (A + xv) = wrap64 (A + xv) := IntWalk.i64_left _
      have Hset3 := Lib.hid hset3
      clear hset3 hx3 hS3 hr3 HS Hget Hset
      go_upto_region 15 with fail
      go_region_held3 (fun w' => w'.cell? ⟨w.heap.size, 1, none⟩ = some (.string key) ∧ w'.cell? ⟨w.heap.size, 2, none⟩ = some (.int .i64 xv))
        (first | exact ⟨by assumption, by assumption⟩ | go_keep)
        (first
          | (go_at_call 44; (with_reducible refine (Hset3.out _ rfl).mono ?_); rintro r w5 ⟨v5, rfl, hr5, hx5⟩; have hS5 := (HS3.out.keep ((Ext.refl (fun _ => False) w3).drew)).keep hx5; obtain ⟨p0, p1, p2, p3⟩ := box4 hS5.p; obtain ⟨c0, c1, c2, f0, f1, f2⟩ := tail_reads hS5.q; simp only at p0 p1 p2 p3; have hltq := blk_lt hS5.q; have hfin := hS5.fin hr5 0 true (wrap64 (A + xv)); have Hfin := Lib.hid hfin; unfold set3 at Hfin; clear hfin hr5 hx5 hS5))
      all_goals go_wp2_with fail
      all_goals obtain ⟨d0, d1, d2, hfin⟩ := Hfin.out
      all_goals exact bodyPost_ret (v := .tuple #[v5, .agg #[.int .i64 0, .bool true, .int .i64 (wrap64 (A + xv))]]) (by simp [results, Try.results20, go_sem, d0, d1, d2]) rfl (by rw [HM.out]; exact hfin)
    | false =>
      have hN1 : ¬ (1024 : Int) ≤ N := by simp at hfit; omega
      clear hfit
      clear He
      go_enter Try.func20, Try.ntmps20
      go_upto_region 1 with fail
      rw [← hw1]
      clear hw1
      go_wp2_with fail
      refine Hget.out.mono ?_
      rintro r w3 ⟨rfl, hx3⟩
      have hS3 := HS.out.keep hx3
      have hr3 := Hr.out.keep hS3.ext
      clear p0 p1 p2 p3 hltp
      obtain ⟨p0, p1, p2, p3⟩ := box4 hS3.p
      obtain ⟨c0, c1, c2, f0, f1, f2⟩ := tail_reads hS3.q
      simp only at p0 p1 p2 p3
      have hltq := blk_lt hS3.q
      have hltp := blk_lt hS3.p
      have HS3 := Lib.hid hS3
      have hset3 : ∀ z, z = wrap64 (A + xv) → Calls Try.prog 44 #[.slice ao N cap, .string key, .int .i64 z] w3.drew (RowsPost w3.drew (ksort leS (aput m key (wrap64 (A + xv))))) := (by intro z hz; subst hz; exact Hset.out w3.drew (hS3.ext.trans ((Ext.refl (fun _ => False) w3).drew)) (wrap64 (A + xv)))
      have hwr : IntKind.i64.wrap (A + xv) = wrap64 (A + xv) := IntWalk.i64_left _
      have Hset3 := Lib.hid hset3
      clear hset3 hx3 hS3 hr3 HS Hget Hset
      go_upto_region 15 with fail
      go_region_held3 (fun w' => w'.cell? ⟨w.heap.size, 1, none⟩ = some (.string key) ∧ w'.cell? ⟨w.heap.size, 2, none⟩ = some (.int .i64 xv))
        (first | exact ⟨by assumption, by assumption⟩ | go_keep)
        (first
          | (go_at_call 44; (with_reducible refine (Hset3.out _ rfl).mono ?_); rintro r w5 ⟨v5, rfl, hr5, hx5⟩; have hS5 := (HS3.out.keep ((Ext.refl (fun _ => False) w3).drew)).keep hx5; obtain ⟨p0, p1, p2, p3⟩ := box4 hS5.p; obtain ⟨c0, c1, c2, f0, f1, f2⟩ := tail_reads hS5.q; simp only at p0 p1 p2 p3; have hltq := blk_lt hS5.q; have hfin := hS5.fin hr5 0 true (wrap64 (A + xv)); have Hfin := Lib.hid hfin; unfold set3 at Hfin; clear hfin hr5 hx5 hS5))
      all_goals go_wp2_with fail
      all_goals obtain ⟨d0, d1, d2, hfin⟩ := Hfin.out
      all_goals exact bodyPost_ret (v := .tuple #[v5, .agg #[.int .i64 0, .bool true, .int .i64 (wrap64 (A + xv))]]) (by simp [results, Try.results20, go_sem, d0, d1, d2]) rfl (by rw [HM.out]; exact hfin)
theorem rdo_any (w : World) (v : Value) (m : KM) (hr : IsRows w v (ksort leS m)) (hg : Good m) (hm : m.length ≤ 100000) (x : OpV) (hks : x.key.size ≤ 9223372036854775807) :
    Calls Try.prog 20 #[v, x.val] w (RDoPost w (doM m x)) := by
  obtain ⟨xk, key, xv, xo⟩ := x
  show Calls Try.prog 20 #[v, .agg #[.int .i64 xk, .string key, .int .i64 xv, .int .i64 xo]] w _
  simp only at hks
  by_cases hbad : (xk < 0 ∨ 3 < xk) ∨ (key.size : Int) < 1 ∨ (31 : Int) < key.size
  · have e : doM m ⟨xk, key, xv, xo⟩ = (m, ⟨1, false, 0⟩) := by
      unfold doM
      by_cases h : key.size < 1 ∨ 31 < key.size
      · rw [if_pos h]
      · rw [if_neg h, if_neg (by show ¬ xk = 0; omega), if_neg (by show ¬ xk = 1; omega), if_neg (by show ¬ xk = 2; omega), if_neg (by show ¬ xk = 3; omega)]
    rw [e]
    exact rdo_bad w v m hr xk key xv xo hks hbad
  · exact rdo_good w v m hr hg hm xk key xv xo hks (by omega) (by omega) (by omega) (by omega)
end Go.Proofs.Ythipbmppmgkklaa
