/-
  SessionLoads: the walk. Conditions: the arguments' cells are as given.
-/
import Derived.Test.YthligdgkhmgagaaV10
namespace Go.Proofs.Ythligdgkhmgagaa
open Go.RowKit Go.MapKept
open Go.ChangeMaps (setBlock)

theorem sortC {T : Tbl} (h : TOk T) : sC (sortT T) = sC T := by
  have hn := ksort_lt linI h.good.nodup
  have hn2 : ((sC T).map Prod.fst).Nodup := List.pairwise_map.2 (hn.imp (fun {a b} hab e => by unfold ltK at hab; rw [e] at hab; exact linI.lt_irrefl _ hab))
  exact rising_ext linI (ksort_lt linI hn2) hn (fun p => (ksort_perm (sC T)).mem_iff)
theorem sortS {T : Tbl} (h : TOk T) : sS (sortT T) = sS T := by
  have hn := ksort_lt linI h.snod
  have hn2 : ((sS T).map Prod.fst).Nodup := List.pairwise_map.2 (hn.imp (fun {a b} hab e => by unfold ltK at hab; rw [e] at hab; exact linI.lt_irrefl _ hab))
  exact rising_ext linI (ksort_lt linI hn2) hn (fun p => (ksort_perm (sS T)).mem_iff)
theorem IsRef.sort {w : World} {v : Value} {T : Tbl} (h : IsRef w v T) (hT : TOk T) : IsRef w v (sortT T) := by
  obtain ⟨vc, vs, rfl, h1, h2⟩ := h
  exact ⟨vc, vs, rfl, by rw [sortC hT]; exact h1, by rw [sortS hT]; exact h2⟩
theorem Inv.sort {T : Tbl} {j : Nat} (h : Inv T j) : Inv (sortT T) j := by
  have e1 : ∀ p, p ∈ sC T ↔ p ∈ T.cl := fun p => (ksort_perm T.cl).mem_iff
  have e2 : ∀ p, p ∈ sS T ↔ p ∈ T.st := fun p => (ksort_perm T.st).mem_iff
  have l1 : (sC T).length = T.cl.length := ksort_length _
  have l2 : (sS T).length = T.st.length := ksort_length _
  have hn := ksort_lt linI h.ok.good.nodup
  have hn2 := ksort_lt linI h.ok.snod
  refine ⟨⟨⟨fun p hp => h.ok.good.key p ((e1 p).1 hp), List.pairwise_map.2 (hn.imp (fun {a b} hab e => by unfold ltK at hab; rw [e] at hab; exact linI.lt_irrefl _ hab))⟩, List.pairwise_map.2 (hn2.imp (fun {a b} hab e => by unfold ltK at hab; rw [e] at hab; exact linI.lt_irrefl _ hab)), fun p hp => h.ok.skey p ((e2 p).1 hp), h.ok.gen⟩, ?_, ?_, fun p hp => h.body p ((e1 p).1 hp)⟩
  · show (sC T).length ≤ j
    rw [l1]; exact h.cl
  · show (sS T).length ≤ j
    rw [l2]; exact h.st
theorem saveM_size {T : Tbl} {j : Nat} (h : Inv T j) (hj : j ≤ 100) : (⟨(saveM T).toArray⟩ : ByteArray).size ≤ 1000000 := by
  have hs := h.small (by omega)
  show (saveM T).toArray.size ≤ _
  rw [List.size_toArray]
  have h1 : (sC T).length = T.cl.length := ksort_length _
  have h2 : (sS T).length = T.st.length := ksort_length _
  have f1 := flat_length (encC_length hs)
  have f2 := flat_length (encS_length hs)
  have c1 := h.cl
  have c2 := h.st
  have n1 := encNum_length T.cl.length (by omega)
  have n2 := encNum_length T.st.length (by omega)
  have n3 := encNum_length T.gen.toNat (by have := h.ok.gen; omega)
  rw [h1] at f1
  rw [h2] at f2
  have : T.cl.length * 1027 ≤ 100 * 1027 := Nat.mul_le_mul_right _ (by omega)
  have : T.st.length * 18 ≤ 100 * 18 := Nat.mul_le_mul_right _ (by omega)
  unfold saveM
  simp only [List.length_append]
  omega
theorem fewB_both {l : List SOp} {most : Nat} (hf : fewB l most = true) : l.length ≤ most ∧ ∀ x ∈ l, x.s.size ≤ 1000 := by
  refine ⟨by unfold fewB at hf; simp at hf; exact hf.2, fun x hx => ?_⟩
  unfold fewB at hf; simp at hf
  have := hf.1 x hx
  unfold fewX at this; simp at this; omega
set_option maxRecDepth 100000 in
set_option maxHeartbeats 4000000 in
theorem loads_core (w : World) (ao : Option Addr) (n cap : Nat) (l : List SOp) (ao2 : Option Addr) (n2 cap2 : Nat) (l2 : List SOp) (b : ByteArray) (hok : ∀ x ∈ l, InR x.c) (hok2 : ∀ x ∈ l2, InR x.c) (hbs : b.size ≤ 9223372036854775807)
    (hfew : ∀ W, Ext (fun _ => False) w W → Calls Try.prog 9 #[.slice ao n cap, .int .i64 20] W fun r w' => r = .returned (.bool (fewB l 20)) ∧ w' = W)
    (hfew2 : ∀ W, Ext (fun _ => False) w W → Calls Try.prog 9 #[.slice ao2 n2 cap2, .int .i64 20] W fun r w' => r = .returned (.bool (fewB l2 20)) ∧ w' = W)
    (hn : n = l.length) (hcells : 0 < l.length → ∃ b off, ao = some ⟨b, off, none⟩ ∧ Ops w b off l ∧ b < w.heap.size)
    (hn2 : n2 = l2.length) (hcells2 : 0 < l2.length → ∃ b off, ao2 = some ⟨b, off, none⟩ ∧ Ops w b off l2 ∧ b < w.heap.size) :
    Calls Try.prog 7 #[.slice ao n cap, .slice ao2 n2 cap2, .string b] w (AwakePost w) := by
  subst hn
  subst hn2
  have Hfew := Lib.hid hfew
  have Hcells := Lib.hid hcells
  have Hok := Lib.hid hok
  have Hfew2 := Lib.hid hfew2
  have Hcells2 := Lib.hid hcells2
  have Hok2 := Lib.hid hok2
  clear hfew hcells hok hfew2 hcells2 hok2
  go_enter Try.func7, Try.ntmps7
  go_wp2_with fail
  refine (awake_any _).mono ?_
  rintro r w1 ⟨rfl, hx1⟩
  have Hx1 := Lib.hid hx1
  clear hx1
  go_wp2_with fail
  refine (Hfew.out _ Hx1.out).mono ?_
  rintro r w' ⟨rfl, hw⟩; obtain rfl := hw.symm; clear hw
  cases hf : fewB l 20 with
  | false =>
    clear hf
    go_wp2
    go_ret
    exact ⟨rfl, Hx1.out⟩
  | true =>
    obtain ⟨hl, hbd⟩ := fewB_both hf
    have Hbd := Lib.hid hbd
    clear hf hbd
    go_wp2_with fail
    refine (Hfew2.out _ Hx1.out).mono ?_
    rintro r w' ⟨rfl, hw⟩; obtain rfl := hw.symm; clear hw
    cases hf : fewB l2 20 with
    | false =>
      clear hf
      go_wp2
      go_ret
      exact ⟨rfl, Hx1.out⟩
    | true =>
      obtain ⟨hl2, hbd2⟩ := fewB_both hf
      have Hbd2 := Lib.hid hbd2
      clear hf hbd2
      by_cases hbig : (100 : Int) < b.size
      · go_wp2
        go_ret
        exact ⟨rfl, Hx1.out⟩
      have hb100 : b.size ≤ 100 := by omega
      have Hrun := Lib.hid (run2_any w1 ao l.length cap l Hok.out Hbd.out (by omega) rfl (fun h => by
        obtain ⟨b, off, h1, h2, h3⟩ := Hcells.out h
        exact ⟨b, off, h1, h2.ext Hx1.out (fun _ => ⟨h3, id⟩), Nat.lt_of_lt_of_le h3 Hx1.out.size⟩))
      clear Hfew Hfew2
      go_wp2_with fail
      refine Hrun.out.mono ?_
      rintro r w3 ⟨tb, cb, sb, v, T, rfl, hs, hr, hinv, hx3, k1, k2, k3⟩
      obtain ⟨a1, m1, p1, a2, m2, p2, rfl⟩ := hr.shape
      obtain ⟨w4, hw4⟩ : ∃ w4, w4 = w3.alloc (.cells #[.slice a1 m1 p1, .int .i64 T.gen, .slice a2 m2 p2] 39) := ⟨_, rfl⟩
      have hx4 : Ext (fun _ => False) w3 w4 := by rw [hw4]; exact (Ext.refl _ w3).alloc _
      have hb4 : blk w4 w3.heap.size = some (.cells #[.slice a1 m1 p1, .int .i64 T.gen, .slice a2 m2 p2] 39 (0, 0)) := by rw [hw4]; exact blk_alloc_at _ _
      have k4 : w1.heap.size ≤ w3.heap.size := hx3.size
      have Hx4 := Lib.hid (hx3.trans hx4)
      have Hs4 := Lib.hid (hs.keep hx4)
      have Hr4 := Lib.hid (hr.keep hx4)
      have Hb4 := Lib.hid hb4
      have Hinv := Lib.hid hinv
      clear hx3 hx4 hs hr hb4 hinv k1 k2 k3 Hrun
      have Hrun := Lib.hid (run2_any w4 ao2 l2.length cap2 l2 Hok2.out Hbd2.out (by omega) rfl (fun h => by
        obtain ⟨b, off, h1, h2, h3⟩ := Hcells2.out h
        have := Hx1.out.trans Hx4.out
        exact ⟨b, off, h1, h2.ext this (fun _ => ⟨h3, id⟩), Nat.lt_of_lt_of_le h3 this.size⟩))
      go_wp2_with fail
      try rw [← hw4]
      clear hw4
      generalize w3.heap.size = B at *
      refine Hrun.out.mono ?_
      rintro r w5 ⟨ub, cu, su, v2, T2, rfl, hs5, hr5, hinv5, hx5, k1, k2, k3⟩
      obtain ⟨a3, m3, p3, a6, m6, p6, rfl⟩ := hr5.shape
      obtain ⟨w6, hw6⟩ : ∃ w6, w6 = w5.alloc (.cells #[.slice a3 m3 p3, .int .i64 T2.gen, .slice a6 m6 p6] 39) := ⟨_, rfl⟩
      have hx6 : Ext (fun _ => False) w5 w6 := by rw [hw6]; exact (Ext.refl _ w5).alloc _
      have hx46 := hx5.trans hx6
      have Hx6 := Lib.hid (Hx4.out.trans hx46)
      have Hs6 := Lib.hid (Hs4.out.keep hx46)
      have Hr6 := Lib.hid (Hr4.out.keep hx46)
      have Hb6 := Lib.hid ((hx46.blk (blk_lt Hb4.out) id).trans Hb4.out)
      have Hu6 := Lib.hid (hs5.keep hx6)
      have hk := Hx4.out.size
      have k1 : w1.heap.size ≤ ub := by omega
      clear k2 k3 hs5 hr5 hinv5 hx5 hx6 hx46 Hs4 Hr4 Hb4 Hrun
      have hsm := Hinv.out.small (by omega)
      have Hsave := Lib.hid (save_any w6 tb cb sb T Hs6.out hsm)
      have Hload := Lib.hid (fun (W : World) (h : IsTable W ub cu su T2) => load_any W ub _ _ _ h.1 ⟨(saveM T).toArray⟩ (saveM_size Hinv.out.inv (by omega)))
      have hls := loadP_save hsm Hinv.out.gen
      have Hls : Hid (loadP (⟨(saveM T).toArray⟩ : ByteArray).data.toList = some (sortT T)) := Lib.hid (by simpa using hls)
      clear hls
      go_wp2_with fail
      try rw [← hw6]
      clear hw6
      refine Hsave.out.mono ?_
      rintro r w7 ⟨rfl, hx7⟩
      have Hx7 := Lib.hid hx7
      clear hx7 Hsave
      go_wp2_with fail
      refine (Hload.out w7 (Hu6.out.keep Hx7.out)).mono ?_
      rintro r w8 hp8
      unfold LoadPost at hp8
      rw [Hls.out] at hp8
      obtain ⟨rfl, ⟨cu', su', hs8, j1, j2⟩, hx8⟩ := hp8
      have hu7 := Hu6.out.keep Hx7.out
      have hb7 := (Hx7.out.blk (blk_lt Hb6.out) id).trans Hb6.out
      have hr8 := ((Hr6.out.keep Hx7.out).table hu7 hx8 (fun k e => .inl e)).sort hsm.ok
      have hb8 := (hx8.blk (blk_lt hb7) (fun e => box_table hu7 hb7 (.inl e))).trans hb7
      have hx18 := (Hx6.out.trans Hx7.out).own hx8 (fun k e => by subst e; exact k1)
      have hinv8 := Hinv.out.inv.sort
      have hgen8 : (sortT T).gen = T.gen := rfl
      have hsz := (Hx6.out.trans Hx7.out).size
      have k2 : w1.heap.size ≤ cu' := by omega
      have k3 : w1.heap.size ≤ su' := by omega
      rw [← hgen8] at hr8 hb8
      generalize sortT T = K at *
      have Hs8 := Lib.hid hs8
      have Hr8 := Lib.hid hr8
      have Hb8 := Lib.hid hb8
      have HX8 := Lib.hid hx18
      have Hinv8 := Lib.hid hinv8
      have Hsm8 := Lib.hid (hinv8.small (by omega))
      obtain ⟨d0, d1, d2⟩ := box_cells hb8
      clear hs8 j1 j2 hx8 hu7 hb7 hr8 hb8 hx18 hinv8 hgen8 hsz hsm Hload Hls Hs6 Hr6 Hb6 Hu6 Hx4 Hx6 Hx7 Hinv hk
      go_wp2_with fail
      refine (same_any w8 ub cu' su' _ K Hs8.out Hr8.out Hsm8.out).mono ?_
      rintro r w9 ⟨rfl, hx9⟩
      have Hs9 := Lib.hid (Hs8.out.keep hx9)
      have Hr9 := Lib.hid (Hr8.out.keep hx9)
      have Hb9 := Lib.hid ((hx9.blk (blk_lt Hb8.out) id).trans Hb8.out)
      have HX9 := Lib.hid (HX8.out.trans hx9)
      clear hx9 Hs8 Hr8 Hb8 HX8 Hsm8 d0 d1 d2
      go_wp2_with fail
      go_loopg [13] l2.length (fun g v7 wr => ∃ (j : Nat) (T : Tbl) (sb' : Nat) (a1 : Option Addr) (m1 p1 : Nat) (a2 : Option Addr) (m2 p2 : Nat), j ≤ l2.length ∧ g = l2.length - j ∧ v7 = .int .i64 j ∧ IsTable wr ub cu' sb' T ∧ IsRef wr (.agg #[.slice a1 m1 p1, .int .i64 T.gen, .slice a2 m2 p2]) T ∧ blk wr B = some (.cells #[.slice a1 m1 p1, .int .i64 T.gen, .slice a2 m2 p2] 39 (0, 0)) ∧ Inv T (l.length + j) ∧ w1.heap.size ≤ sb' ∧ Ext (fun _ => False) w1 wr)
      case atStart => exact ⟨0, K, su', a1, m1, p1, a2, m2, p2, Nat.zero_le _, rfl, rfl, Hs9.out, Hr9.out, Hb9.out, Hinv8.out, k3, HX9.out⟩
      case round =>
        obtain ⟨j, T, sb', a1, m1, p1, a2, m2, p2, hj, rfl, rfl, hs, hr, hbx, hinv, hsb, hx⟩ := hrel
        clear Hs9 Hr9 Hb9 HX9 Hinv8 k3
        by_cases hjl : j < l2.length
        · obtain ⟨bb, off, rfl, ho0, hb0⟩ := Hcells2.out (by omega)
          have ho := ho0.ext Hx1.out (fun _ => ⟨hb0, id⟩)
          have hb := Nat.lt_of_lt_of_le hb0 Hx1.out.size
          obtain ⟨x, hxe⟩ : ∃ x, l2[j] = x := ⟨_, rfl⟩
          have hxm : x ∈ l2 := by rw [← hxe]; exact List.getElem_mem hjl
          have hlr : ∀ W, Ext (fun _ => False) w1 W → _ := fun W hW => (ho.ext hW (fun _ => ⟨hb, id⟩)).at j hjl
          rw [hxe] at hlr
          obtain ⟨c0, c1, c2, c3, c4⟩ := hlr wr hx
          have hinv' := hinv.step x (Hbd2.out x hxm) (Hok2.out x hxm)
          obtain ⟨d0, d1, d2⟩ := box_cells hbx
          have j0 : (0 : Int) ≤ (j : Int) := by omega
          have j1 : (j : Int) < (l2.length : Int) := by omega
          have Hs := Lib.hid hs
          have Hr := Lib.hid hr
          have Hbx := Lib.hid hbx
          have HT := Lib.hid (hinv.small (by omega))
          have Hinv := Lib.hid hinv'
          have Hlr := Lib.hid hlr
          have Hx := Lib.hid hx
          have hnB := box_table hs hbx
          have hnQ : ¬ tset ub cu' sb' wr.heap.size := fun e => by
            have := hs.lt
            rcases e with e | e | e <;> omega
          have hQB : ¬ wr.heap.size = B := by have := blk_lt hbx; omega
          have hQb : ¬ wr.heap.size = bb := by have := hx.size; omega
          have hTS : ∀ k, tset ub cu' sb' k → w1.heap.size ≤ k := fun k e => by
            rcases e with rfl | rfl | rfl
            · exact k1
            · exact k2
            · exact hsb
          clear hs hr hbx hinv hinv' hlr hx hxe hxm ho ho0 hb0
          go_upto_region 12 with fail
          go_cut [14, 15] (fun v8 v9 wx => Stepped w1 ub cu' B (stepM T x) v8 v9 wx)
          case first =>
            go_region_held3 (fun w' => w'.cell? ⟨B, 0, none⟩ = some (.slice a1 m1 p1) ∧ w'.cell? ⟨B, 1, none⟩ = some (.int .i64 T.gen) ∧ w'.cell? ⟨B, 2, none⟩ = some (.slice a2 m2 p2) ∧ w'.cell? ⟨bb, off + j * 5, none⟩ = some (.int .i64 x.k) ∧ w'.cell? ⟨bb, off + j * 5 + 1, none⟩ = some (.int .i64 x.a) ∧ w'.cell? ⟨bb, off + j * 5 + 2, none⟩ = some (.int .i64 x.b) ∧ w'.cell? ⟨bb, off + j * 5 + 3, none⟩ = some (.string x.s) ∧ w'.cell? ⟨bb, off + j * 5 + 4, none⟩ = some (.int .i64 x.c))
              (first | exact ⟨by assumption, by assumption, by assumption, by assumption, by assumption, by assumption, by assumption, by assumption⟩ | go_keep)
              (first
                | (go_at_call 14; (with_reducible refine (step_any _ ub cu' sb' _ T (Hs.out.keep ((Ext.refl (fun _ => False) wr).drew)) (Hr.out.keep ((Ext.refl (fun _ => False) wr).drew)) HT.out x).mono ?_); rintro r w5 ⟨sb5, v7, rfl, ht5, hr5, hx5, hs5⟩; obtain ⟨a4, m4, p4, a5, m5, p5, rfl⟩ := hr5.shape; have hX5 : Ext (tset ub cu' sb') wr w5 := (ext_any ((Ext.refl (fun _ => False) wr).drew) _).trans hx5; have hb5 := (hX5.blk (blk_lt Hbx.out) hnB).trans Hbx.out; have hxw5 : Ext (fun _ => False) w1 w5 := Hx.out.own hX5 hTS; obtain ⟨d0, d1, d2⟩ := box_cells hb5; obtain ⟨c0, c1, c2, c3, c4⟩ := Hlr.out w5 hxw5; have hlt5 := blk_lt hb5; have hsb5 : w1.heap.size ≤ sb5 := hs5.elim (fun e => e ▸ hsb) (fun h => Nat.le_trans (Nat.le_trans Hx.out.size ((Ext.refl (fun _ => False) wr).drew).size) h); have Ht5 := Lib.hid ht5; have Hr5 := Lib.hid hr5; have Hx5 := Lib.hid hxw5; have Hb5 := Lib.hid hb5; clear ht5 hr5 hx5 hX5 hb5 hxw5 hs5)
                | (go_at_call 14; (with_reducible refine (step_any _ ub cu' sb' _ T (Hs.out.keep (((Ext.refl (fun _ => False) wr).alloc (.cells #[.slice none 0 0, .int .i64 0, .slice none 0 0] 39)).drew)) (Hr.out.keep (((Ext.refl (fun _ => False) wr).alloc (.cells #[.slice none 0 0, .int .i64 0, .slice none 0 0] 39)).drew)) HT.out x).mono ?_); rintro r w5 ⟨sb5, v7, rfl, ht5, hr5, hx5, hs5⟩; obtain ⟨a4, m4, p4, a5, m5, p5, rfl⟩ := hr5.shape; have hX5 : Ext (tset ub cu' sb') wr w5 := (ext_any (((Ext.refl (fun _ => False) wr).alloc (.cells #[.slice none 0 0, .int .i64 0, .slice none 0 0] 39)).drew) _).trans hx5; have hb5 := (hX5.blk (blk_lt Hbx.out) hnB).trans Hbx.out; have hxw5 : Ext (fun _ => False) w1 w5 := Hx.out.own hX5 hTS; obtain ⟨d0, d1, d2⟩ := box_cells hb5; obtain ⟨c0, c1, c2, c3, c4⟩ := Hlr.out w5 hxw5; have hlt5 := blk_lt hb5; have hsb5 : w1.heap.size ≤ sb5 := hs5.elim (fun e => e ▸ hsb) (fun h => Nat.le_trans (Nat.le_trans Hx.out.size (((Ext.refl (fun _ => False) wr).alloc (.cells #[.slice none 0 0, .int .i64 0, .slice none 0 0] 39)).drew).size) h); have hq5 : blk w5 wr.heap.size = some (.cells #[.slice none 0 0, .int .i64 0, .slice none 0 0] 39 (0, 0)) := (hx5.blk (by simp) hnQ).trans (blk_alloc_at wr (.cells #[.slice none 0 0, .int .i64 0, .slice none 0 0] 39)); obtain ⟨e0, e1, e2⟩ := box_cells hq5; have g0 := free_of_cells hq5 0; have g1 := free_of_cells hq5 1; have g2 := free_of_cells hq5 2; have hltq := blk_lt hq5; have Hq5 := Lib.hid hq5; clear hq5; have Ht5 := Lib.hid ht5; have Hr5 := Lib.hid hr5; have Hx5 := Lib.hid hxw5; have Hb5 := Lib.hid hb5; clear ht5 hr5 hx5 hX5 hb5 hxw5 hs5))
            · go_wp2_with fail
              go_meet
              exact ⟨w5.heap.size, sb5, a4, m4, p4, a5, m5, p5, _, _, _, rfl, rfl, by omega, blk_alloc_at _ _, (blk_alloc_past _ _ _ hlt5).trans Hb5.out, Ht5.out.keep ((Ext.refl _ w5).alloc _), Hr5.out.keep ((Ext.refl _ w5).alloc _), hsb5, Hx5.out.alloc _⟩
            · have hx9 := (set3_done Hq5.out (.slice a4 m4 p4) (.int .i64 (stepM T x).gen) (.slice a5 m5 p5)).2.2.2
              have hb9 := set3_blk Hq5.out (.slice a4 m4 p4) (.int .i64 (stepM T x).gen) (.slice a5 m5 p5)
              have Hst : Hid (Stepped w1 ub cu' B (stepM T x) (.pointer (some ⟨wr.heap.size, 0, none⟩)) (.bool true) (set3 w5 wr.heap.size (.slice a4 m4 p4) (.int .i64 (stepM T x).gen) (.slice a5 m5 p5))) :=
                Lib.hid ⟨wr.heap.size, sb5, a4, m4, p4, a5, m5, p5, _, _, _, rfl, rfl, hQB, hb9, (hx9.blk hlt5 (fun e => hQB e.symm)).trans Hb5.out, Ht5.out.ext hx9 (fun k hk e => box_table Ht5.out Hq5.out (e ▸ hk)), Hr5.out.box Hq5.out hx9, hsb5, Hx5.out.own hx9 (fun k e => by subst e; exact Hx.out.size)⟩
              clear hx9 hb9
              go_wp2_with fail
              go_meet
              exact Hst.out
          case rest =>
            obtain ⟨q, sb5, a4, m4, p4, a5, m5, p5, y0, y1, y2, rfl, rfl, hqB, hq, hB, ht, hr, hsb5, hx⟩ := hcut
            obtain ⟨d0, d1, d2⟩ := box_cells hq
            obtain ⟨e0, e1, e2⟩ := box_cells hB
            have g0 := free_of_cells hB 0
            have g1 := free_of_cells hB 1
            have g2 := free_of_cells hB 2
            have hltB := blk_lt hB
            have hx9 := (set3_done hB (.slice a4 m4 p4) (.int .i64 (stepM T x).gen) (.slice a5 m5 p5)).2.2.2
            have Hb9 := Lib.hid (set3_blk hB (.slice a4 m4 p4) (.int .i64 (stepM T x).gen) (.slice a5 m5 p5))
            have Ht9 := Lib.hid (ht.ext hx9 (fun k hk e => box_table ht hB (e ▸ hk)))
            have Hr9 := Lib.hid (hr.box hB hx9)
            have Hx9 := Lib.hid (hx.own hx9 (fun k e => by subst e; exact k4))
            unfold set3 at Hb9 Ht9 Hr9 Hx9
            clear hx9 hq hB ht hr hx
            go_upto_region 14 with fail
            generalize ((wc.setCell ⟨B, 0, none⟩ (.slice a4 m4 p4)).setCell ⟨B, 1, none⟩ (.int .i64 (stepM T x).gen)).setCell ⟨B, 2, none⟩ (.slice a5 m5 p5) = w9 at *
            clear d0 d1 d2 e0 e1 e2 g0 g1 g2
            go_wp2
            go_roundg (l2.length - (j + 1))
            case measure => omega
            case rel => exact ⟨j + 1, stepM T x, sb5, a4, m4, p4, a5, m5, p5, by omega, rfl, by go_num, Ht9.out, Hr9.out, Hb9.out, Hinv.out, hsb5, Hx9.out⟩
        · have e : j = l2.length := by omega
          subst e
          obtain ⟨d0, d1, d2⟩ := box_cells hbx
          have hsm := hinv.small (by omega)
          have hvs := fun (W : World) (hw : Ext (fun _ => False) wr W) => save_any W ub cu' sb' T (hs.keep hw) hsm
          have hld := fun (W : World) (hw : Ext (fun _ => False) wr W) => load_any W ub _ _ _ (hs.keep hw).1 b (by omega)
          have hrl := fun (W : World) => rload_any W b (by omega)
          have hsame := fun (W : World) (hw : Ext (fun _ => False) wr W) => same_any W ub cu' sb' _ T (hs.keep hw) (hr.keep hw) hsm
          have heq := refLoad_eq b.data.toList
          have Hx := Lib.hid (Hx1.out.trans hx)
          have hub : w.heap.size ≤ ub := by have := Hx1.out.size; omega
          have Hvs := Lib.hid hvs
          have Hld := Lib.hid hld
          have Hrl := Lib.hid hrl
          have Hsame := Lib.hid hsame
          have Heq := Lib.hid heq
          have Hbx := Lib.hid hbx
          clear hs hr hbx hinv hx hsm hvs hld hrl hsame heq
          unfold SavePost at Hvs
          generalize (⟨(saveM T).toArray⟩ : ByteArray) = SV at *
          go_wp2_with fail
          refine (Hvs.out wr (Ext.refl _ wr)).mono ?_
          rintro r w7 ⟨rfl, hx7⟩
          have Hx7 := Lib.hid hx7
          clear hx7
          go_wp2_with fail
          refine (Hld.out w7 Hx7.out).mono ?_
          rintro r w8 hp8
          unfold LoadPost at hp8
          cases hlb : loadP b.data.toList with
          | none =>
            rw [hlb] at hp8
            obtain ⟨rfl, hx8⟩ := hp8
            have hfalse : refLoad b.data.toList = false := by rw [Heq.out, hlb]; rfl
            have Hx8 := Lib.hid (Hx7.out.trans hx8)
            clear hx8 hlb Heq Hld Hx7
            go_wp2_with fail
            refine (Hrl.out w8).mono ?_
            rintro r w9 ⟨a7, m7, p7, g7, a8, m8, p8, rfl, hx9⟩
            rw [hfalse]
            have hx9' := hx9.alloc (.cells #[.slice a7 m7 p7, .int .i64 g7, .slice a8 m8 p8] 39)
            have hx99 := Hx8.out.trans hx9'
            have Hv9 := Lib.hid (Hvs.out _ hx99)
            have Hx9 := Lib.hid hx99
            clear hx9 hx9' hx99 hfalse Hrl Hvs Hx8
            go_wp2_with fail
            refine Hv9.out.mono ?_
            rintro r w10 ⟨rfl, hx10⟩
            have hx10' := Hx9.out.trans hx10
            obtain ⟨e0, e1, e2⟩ := box_cells ((hx10'.blk (blk_lt Hbx.out) id).trans Hbx.out)
            have Hs10 := Lib.hid (Hsame.out _ hx10')
            have Hx10 := Lib.hid hx10'
            clear hx10 hx10' Hx9 Hv9 Hsame
            go_wp2_with fail
            refine Hs10.out.mono ?_
            rintro r w11 ⟨rfl, hx11⟩
            have HX := Lib.hid (Hx.out.trans (Hx10.out.trans hx11))
            clear hx11 Hx10 Hs10
            go_wp2
            go_ret
            exact ⟨ret_bool (by simp), HX.out⟩
          | some Q =>
            rw [hlb] at hp8
            obtain ⟨rfl, ⟨cq, sq, hs8, _, _⟩, hx8⟩ := hp8
            have htrue : refLoad b.data.toList = true := by rw [Heq.out, hlb]; rfl
            obtain ⟨hbe, hsq⟩ := loadP_ok hlb (by have : b.data.toList.length = b.size := Array.length_toList; omega)
            have hbe' : (⟨(saveM Q).toArray⟩ : ByteArray) = b := by rw [hbe]
            have hsv := fun (W : World) (hw : Ext (fun _ => False) w8 W) => save_any W ub cq sq Q (hs8.keep hw) hsq
            unfold SavePost at hsv
            rw [hbe'] at hsv
            have Hsv := Lib.hid hsv
            have Hx8 := Lib.hid ((Hx.out.trans Hx7.out).own hx8 (fun k e => by subst e; exact hub))
            clear hs8 hx8 hlb Heq Hld Hx7 hbe hbe' hsq hsv Hsame Hvs Hx
            go_wp2_with fail
            refine (Hrl.out w8).mono ?_
            rintro r w9 ⟨a7, m7, p7, g7, a8, m8, p8, rfl, hx9⟩
            rw [htrue]
            have hx9' := hx9.alloc (.cells #[.slice a7 m7 p7, .int .i64 g7, .slice a8 m8 p8] 39)
            have Hv9 := Lib.hid (Hsv.out _ hx9')
            have Hx9 := Lib.hid (Hx8.out.trans hx9')
            clear hx9 hx9' htrue Hrl Hsv Hx8
            go_wp2_with fail
            refine Hv9.out.mono ?_
            rintro r w10 ⟨rfl, hx10⟩
            have HX := Lib.hid (Hx9.out.trans hx10)
            clear hx10 Hx9 Hv9
            go_wp2
            go_ret
            exact ⟨ret_bool (by simp), HX.out⟩
end Go.Proofs.Ythligdgkhmgagaa
