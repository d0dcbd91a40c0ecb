/-
  NamesLoads returns true. Conditions: the arguments' cells are as given.
-/
import Derived.Test.YtgmopnbejjfbjaaR37
namespace Go.Proofs.Ytgmopnbejjfbjaa
open Go.RowKit Go.MapKept
open Go.ChangeMaps (setBlock)

theorem save_at (w0 w : World) (rb mb : Nat) (M : List (ByteArray × List Ep)) (h : RegAt w0 w rb mb M) (hM : Small M) : Calls Try.prog 29 #[.pointer (some ⟨rb, 0, none⟩)] w (SavePost w M) := by
  obtain ⟨L, h1, rfl, h3, h4⟩ := h
  exact save_any w rb mb L h1 hM
def LoadAtPost (w0 w : World) (rb mb : Nat) (M : List (ByteArray × List Ep)) (b : ByteArray) (r : Ending) (w' : World) : Prop :=
  match loadP b with
  | some K => r = .returned (.int .i64 0) ∧ (∃ mb', RegAt w0 w' rb mb' K) ∧ ∀ v N, IsRef45 w v N → IsRef45 w' v N
  | none => r = .returned (.int .i64 11) ∧ RegAt w0 w' rb mb M
theorem load_at (w0 w : World) (rb mb : Nat) (M : List (ByteArray × List Ep)) (h : RegAt w0 w rb mb M) (b : ByteArray) (hs : b.size ≤ 1000000) : Calls Try.prog 28 #[.pointer (some ⟨rb, 0, none⟩), .string b] w (LoadAtPost w0 w rb mb M b) := by
  obtain ⟨L, h1, h2, h3, h4⟩ := id h
  refine (load_any w rb _ h1.1 b hs).mono fun r w' hp => ?_
  unfold LoadPost at hp
  unfold LoadAtPost
  cases hl : loadP b with
  | none =>
    rw [hl] at hp
    obtain ⟨rfl, hx⟩ := hp
    exact ⟨rfl, h.keep hx⟩
  | some K =>
    rw [hl] at hp
    obtain ⟨rfl, ⟨mb', L', g1, g2, g3⟩, hx⟩ := hp
    have hrb : w0.heap.size ≤ rb := h4 rb (.inl rfl)
    have ha : Aside w mb (fun k => k = rb) := ⟨fun B cs t f hb h1' _ e => (by rw [show B = rb from e, h1.1] at hb; cases hb; exact h1' rfl), fun B es c hb _ e => (by rw [show B = rb from e, h1.1] at hb; cases hb), fun B m c s d hb e => (by rw [show B = rb from e, h1.1] at hb; cases hb)⟩
    refine ⟨rfl, ⟨mb', L', g1, g2, h3.trans' hx (fun k hk (e : k = rb) => absurd hk (by omega)), fun k hk => ?_⟩, fun v N hr => ha.ref hx hr⟩
    rcases g3 k hk with rfl | e
    · exact hrb
    · exact Nat.le_trans h3.size e
theorem step_at (w0 w : World) (rb mb : Nat) (M : List (ByteArray × List Ep)) (v : Value) (h : RegAt w0 w rb mb M) (hr : IsRef45 w v M) (hM : Small M) (x : NOp) (hns : x.n.size ≤ 9223372036854775807) (ha : -9223372036854775808 ≤ x.a) :
    Calls Try.prog 31 #[.pointer (some ⟨rb, 0, none⟩), v, .agg #[.int .i64 x.k, .string x.n, .int .i64 x.a, .int .i64 x.b, .int .i64 x.t]] w fun r w' => ∃ v', r = .returned (.tuple #[v', .bool true]) ∧ RegAt w0 w' rb mb (stepM M x) ∧ IsRef45 w' v' (stepM M x) := by
  obtain ⟨L, h1, rfl, h3, h4⟩ := h
  refine (step_any w rb mb L v h1 hr hM x hns ha).mono fun r w' hp => ?_
  obtain ⟨L', v', rfl, g1, g2, g3, g4, g5⟩ := hp
  exact ⟨v', rfl, by rw [← g2]; exact RegAt.next h3 h4 g1 g4 g5, g3⟩
theorem same_at (w0 w : World) (rb mb : Nat) (M : List (ByteArray × List Ep)) (v : Value) (h : RegAt w0 w rb mb M) (hr : IsRef45 w v M) (hM : Small M) : Calls Try.prog 30 #[.pointer (some ⟨rb, 0, none⟩), v] w (StayPost w (.bool true)) := by
  obtain ⟨L, h1, rfl, h3, h4⟩ := h
  exact same_any w rb mb L v h1 hr hM
theorem Inv.sort {M : List (ByteArray × List Ep)} {j : Nat} (h : Inv M j) : Inv (ksort leS M) j :=
  ⟨ksort_nodup (le := leS) h.nodup, by rw [ksort_length]; exact h.len, fun p hp => h.each p ((ksort_perm M).mem_iff.1 hp)⟩
theorem Inv.good {M : List (ByteArray × List Ep)} {j : Nat} (h : Inv M j) (hj : j ≤ 1024) : ∀ p ∈ M, GoodR p := fun p hp => by
  obtain ⟨a, b, c, d⟩ := h.each p hp
  exact ⟨a, b, by omega, d⟩
theorem save_size {M : List (ByteArray × List Ep)} {j : Nat} (h : Inv M j) (hj : j ≤ 20) : (⟨(saveM M).toArray⟩ : ByteArray).size ≤ 1000000 := by
  have hs := h.small (by omega)
  have h1 : (⟨(saveM M).toArray⟩ : ByteArray).size = (saveM M).length := by simp [ByteArray.size]
  have h2 := encNum_length M.length (by have := h.len; omega)
  have h3 := flat_length (l := ksort leS M) (f := encN) (B := 28018) (fun p hp => encN_length (hs.each p ((ksort_perm M).mem_iff.1 hp)))
  have h4 : (ksort leS M).length = M.length := ksort_length M
  have h5 := h.len
  rw [h1]
  unfold saveM
  rw [List.length_append]
  rw [h4] at h3
  have : M.length * 28018 ≤ 20 * 28018 := Nat.mul_le_mul_right _ (by omega)
  omega
theorem eps_len (l : List Ep) : l.length ≤ (l.flatMap encE).length := by
  induction l with
  | nil => simp
  | cons x r ih =>
    have : 1 ≤ (encE x).length := by unfold encE encNum; simp
    rw [List.flatMap_cons, List.length_append, List.length_cons]
    omega
theorem row_len {K : List (ByteArray × List Ep)} {p : ByteArray × List Ep} (h : p ∈ K) : p.2.length ≤ (K.flatMap encN).length := by
  induction K with
  | nil => cases h
  | cons q r ih =>
    rw [List.flatMap_cons, List.length_append]
    rcases List.mem_cons.1 h with rfl | h
    · have := eps_len p.2
      unfold encN
      simp only [List.length_append]
      omega
    · have := ih h; omega
theorem load_small {b : ByteArray} {K : List (ByteArray × List Ep)} (h : loadP b = some K) (hb : b.size ≤ 100) : Small K ∧ (⟨(saveM K).toArray⟩ : ByteArray) = b := by
  obtain ⟨h1, h2, h3, h4⟩ := loadP_ok h
  have hl : b.data.toList.length = b.size := Array.length_toList
  refine ⟨⟨h2, by omega, fun p hp => ?_⟩, by rw [h1]⟩
  obtain ⟨g1, g2, g3, g4⟩ := h3 p hp
  have hr := row_len ((ksort_perm (le := leS) K).mem_iff.2 hp)
  have hsv := congrArg List.length h1
  unfold saveM at hsv
  rw [List.length_append] at hsv
  unfold isNameB at g1
  simp at g1
  exact ⟨by omega, by omega, g4⟩
set_option maxRecDepth 100000 in
set_option maxHeartbeats 4000000 in
theorem loads_core (w : World) (ao : Option Addr) (n cap : Nat) (l : List NOp) (ao2 : Option Addr) (n2 cap2 : Nat) (l2 : List NOp) (b : ByteArray) (hok : ∀ x ∈ l, InR x.a) (hok2 : ∀ x ∈ l2, InR x.a) (hbs : b.size ≤ 9223372036854775807)
    (hfew : ∀ W, Ext (fun _ => False) w W → Calls Try.prog 23 #[.slice ao n cap, .int .i64 20] W fun r w' => r = .returned (.bool (fewB l 20)) ∧ w' = W)
    (hfew2 : ∀ W, Ext (fun _ => False) w W → Calls Try.prog 23 #[.slice ao2 n2 cap2, .int .i64 20] W fun r w' => r = .returned (.bool (fewB l2 20)) ∧ w' = W)
    (hn : n = l.length) (hcells : 0 < l.length → ∃ b off, ao = some ⟨b, off, none⟩ ∧ Ops w b off l ∧ b < w.heap.size)
    (hn2 : n2 = l2.length) (hcells2 : 0 < l2.length → ∃ b off, ao2 = some ⟨b, off, none⟩ ∧ Ops w b off l2 ∧ b < w.heap.size) :
    Calls Try.prog 8 #[.slice ao n cap, .slice ao2 n2 cap2, .string b] w (AwakePost w) := by
  subst hn
  subst hn2
  have Hfew := Lib.hid hfew
  have Hcells := Lib.hid hcells
  have Hok := Lib.hid hok
  have Hfew2 := Lib.hid hfew2
  have Hcells2 := Lib.hid hcells2
  have Hok2 := Lib.hid hok2
  clear hfew hcells hok hfew2 hcells2 hok2
  go_enter Try.func8, Try.ntmps8
  go_wp2_with fail
  refine (awake_any _).mono ?_
  rintro r w1 ⟨rfl, hx1⟩
  have Hx1 := Lib.hid hx1
  clear hx1
  go_wp2_with fail
  refine (Hfew.out _ Hx1.out).mono ?_
  rintro r w' ⟨rfl, hw⟩; obtain rfl := hw.symm; clear hw
  cases hf : fewB l 20 with
  | false =>
    clear hf
    go_wp2
    go_ret
    exact ⟨rfl, Hx1.out⟩
  | true =>
    obtain ⟨hl, hbd⟩ := fewB_body hf
    have Hbd := Lib.hid hbd
    clear hf hbd
    go_wp2_with fail
    refine (Hfew2.out _ Hx1.out).mono ?_
    rintro r w' ⟨rfl, hw⟩; obtain rfl := hw.symm; clear hw
    cases hf : fewB l2 20 with
    | false =>
      clear hf
      go_wp2
      go_ret
      exact ⟨rfl, Hx1.out⟩
    | true =>
      obtain ⟨hl2, hbd2⟩ := fewB_body hf
      have Hbd2 := Lib.hid hbd2
      clear hf hbd2
      by_cases hbig : (100 : Int) < b.size
      · go_wp2
        go_ret
        exact ⟨rfl, Hx1.out⟩
      have hb100 : b.size ≤ 100 := by omega
      have hrun := run_any w1 ao l.length cap l Hok.out Hbd.out (by omega) rfl (fun h => by
        obtain ⟨b, off, h1, h2, h3⟩ := Hcells.out h
        exact ⟨b, off, h1, h2.ext Hx1.out (fun _ => ⟨h3, id⟩), Nat.lt_of_lt_of_le h3 Hx1.out.size⟩)
      have Hrun := Lib.hid hrun
      clear hrun
      go_wp2_with fail
      refine Hrun.out.mono ?_
      rintro r w2 hr2
      obtain ⟨rb, mb, v, rfl, hR2, hv2, hinv⟩ := runM_inv hr2
      generalize runM l = M at *
      have Hinv := Lib.hid hinv
      have HR2 := Lib.hid hR2
      have Hv2 := Lib.hid hv2
      have Hx2 := Lib.hid (Hx1.out.trans hR2.ext)
      clear hinv hR2 hv2 hr2 Hrun Hx1
      have hrun := run_any w2 ao2 l2.length cap2 l2 Hok2.out Hbd2.out (by omega) rfl (fun h => by
        obtain ⟨b, off, h1, h2, h3⟩ := Hcells2.out h
        exact ⟨b, off, h1, h2.ext Hx2.out (fun _ => ⟨h3, id⟩), Nat.lt_of_lt_of_le h3 Hx2.out.size⟩)
      have Hrun := Lib.hid hrun
      clear hrun
      go_wp2_with fail
      refine Hrun.out.mono ?_
      rintro r w3 hr3
      obtain ⟨rs, ms, v', rfl, hS3, _, hinvs⟩ := runM_inv hr3
      generalize runM l2 = M2 at *
      have HR3 := Lib.hid (HR2.out.keep hS3.ext)
      have Hv3 := Lib.hid (Hv2.out.keep hS3.ext)
      have HS3 := Lib.hid hS3
      clear hr3 hS3 hinvs Hrun HR2 Hv2
      have hsm := Hinv.out.small (by omega)
      have hsave := save_at w1 w3 rb mb M HR3.out hsm
      have hload := fun (W : World) (hx : Ext (fun _ => False) w3 W) => load_at w2 W rs ms M2 (HS3.out.keep hx) ⟨(saveM M).toArray⟩ (save_size Hinv.out hl)
      have hls := loadP_save M Hinv.out.nodup (Hinv.out.good (by omega)) (by have := Hinv.out.len; omega)
      have Hsave := Lib.hid hsave
      have Hload := Lib.hid hload
      have Hls := Lib.hid hls
      clear hsave hload hls hsm
      go_wp2_with fail
      refine Hsave.out.mono ?_
      rintro r w4 ⟨rfl, hx4⟩
      have Hx4 := Lib.hid hx4
      clear hx4
      go_wp2_with fail
      refine (Hload.out w4 Hx4.out).mono ?_
      rintro r w5 hp5
      unfold LoadAtPost at hp5
      rw [Hls.out] at hp5
      obtain ⟨rfl, ⟨ms', hS5⟩, hk5⟩ := hp5
      have hv5 := hk5 v M (Hv3.out.keep Hx4.out)
      have hv6 : IsRef45 w5 v (ksort leS M) := by
        obtain ⟨R, h1, h2⟩ := hv5
        exact ⟨R, h1, by rw [ksort_idem Hinv.out.nodup]; exact h2⟩
      have hinv2 := Hinv.out.sort
      generalize ksort leS M = K at *
      have hsame := same_at w2 w5 rs ms' K v hS5 hv6 (hinv2.small (by omega))
      have Hsame := Lib.hid hsame
      have HS5 := Lib.hid hS5
      have Hv6 := Lib.hid hv6
      have Hinv2 := Lib.hid hinv2
      clear hsame hS5 hv6 hinv2 hk5 hv5 Hload Hls Hsave HR3 Hv3 HS3 Hinv Hx4
      go_wp2_with fail
      refine Hsame.out.mono ?_
      rintro r w6 ⟨rfl, hx6⟩
      have HS6 := Lib.hid (HS5.out.keep hx6)
      have Hv6' := Lib.hid (Hv6.out.keep hx6)
      clear hx6 HS5 Hv6 Hsame
      go_wp2_with fail
      go_loopg [8, 68] l2.length (fun q v8 v68 wr => ∃ (j : Nat) (N : List (ByteArray × List Ep)), j ≤ l2.length ∧ q = l2.length - j ∧ v68 = .int .i64 j ∧ RegAt w2 wr rs ms' N ∧ IsRef45 wr v8 N ∧ Inv N (l.length + j))
      case atStart => exact ⟨0, K, Nat.zero_le _, rfl, rfl, HS6.out, Hv6'.out, Hinv2.out⟩
      case round =>
        obtain ⟨j, N, hj, rfl, rfl, hS, hv, hinv⟩ := hrel
        clear HS6 Hv6' Hinv2
        by_cases hjl : j < l2.length
        · obtain ⟨bb, off, rfl, ho, hb⟩ := Hcells2.out (by omega)
          obtain ⟨x, hxe⟩ : ∃ x, l2[j] = x := ⟨_, rfl⟩
          have hxm : x ∈ l2 := by rw [← hxe]; exact List.getElem_mem hjl
          have hlr := (ho.ext (Hx2.out.trans hS.ext) (fun _ => ⟨hb, id⟩)).at j hjl
          rw [hxe] at hlr
          obtain ⟨c0, c1, c2, c3, c4⟩ := hlr
          have hstep := step_at w2 wr rs ms' N u8 hS hv (hinv.small (by omega)) x (by have := Hbd2.out x hxm; omega) (Hok2.out x hxm).1
          have j0 : (0 : Int) ≤ (j : Int) := by omega
          have j1 : (j : Int) < (l2.length : Int) := by omega
          have Hstep := Lib.hid hstep
          have Hinv := Lib.hid (hinv.step x)
          clear hS hv hinv hstep hxe hxm ho
          go_wp2_with fail
          refine Hstep.out.mono ?_
          rintro r w7 ⟨v7, rfl, hS7, hv7⟩
          have HS7 := Lib.hid hS7
          have Hv7 := Lib.hid hv7
          clear hS7 hv7 c0 c1 c2 c3 c4 Hstep
          go_wp2
          go_roundg (l2.length - (j + 1))
          case measure => omega
          case rel => exact ⟨j + 1, _, by omega, rfl, by go_num, HS7.out, Hv7.out, Hinv.out⟩
        · have hsm := hinv.small (by omega)
          have hsave := fun (W : World) (h : RegAt w2 W rs ms' N) => save_at w2 W rs ms' N h hsm
          have hload := fun (W : World) (h : RegAt w2 W rs ms' N) => load_at w2 W rs ms' N h b (by omega)
          have hrl := fun (W : World) => rload_any W b (by omega)
          have hfin := fun (W : World) (mm : Nat) (Q : List (ByteArray × List Ep)) (h : RegAt w2 W rs mm Q) => Hx2.out.trans h.ext
          have heq := refLoad_eq b
          have HS := Lib.hid hS
          have Hsave := Lib.hid hsave
          have Hload := Lib.hid hload
          have Hrl := Lib.hid hrl
          have Heq := Lib.hid heq
          have Hfin := Lib.hid hfin
          clear hS hv hinv hsm hsave hload hrl heq hfin
          go_wp2_with fail
          refine (Hsave.out wr HS.out).mono ?_
          rintro r w7 ⟨rfl, hx7⟩
          have HS7 := Lib.hid (HS.out.keep hx7)
          clear hx7 HS
          go_wp2_with fail
          refine (Hload.out w7 HS7.out).mono ?_
          rintro r w8 hp8
          unfold LoadAtPost at hp8
          cases hlb : loadP b with
          | none =>
            rw [hlb] at hp8
            obtain ⟨rfl, hS8⟩ := hp8
            have HS8 := Lib.hid hS8
            have hfalse : refLoad b = false := by rw [Heq.out, hlb]; rfl
            clear hS8 hlb HS7 Heq
            go_wp2_with fail
            refine (Hrl.out w8).mono ?_
            rintro r w9 ⟨vr, rfl, hx9⟩
            rw [hfalse]
            have HS9 := Lib.hid (HS8.out.keep hx9)
            clear hx9 HS8 hfalse
            go_wp2_with fail
            refine (Hsave.out w9 HS9.out).mono ?_
            rintro r w10 ⟨rfl, hx10⟩
            have HX := Lib.hid ((Hfin.out w9 _ _ HS9.out).trans hx10)
            clear hx10 HS9
            go_wp2
            go_ret
            exact ⟨ret_bool (by simp), HX.out⟩
          | some Q =>
            rw [hlb] at hp8
            obtain ⟨rfl, ⟨mq, hS8⟩, _⟩ := hp8
            obtain ⟨hsm, hbe⟩ := load_small hlb hb100
            have hsv := fun (W : World) (h : RegAt w2 W rs mq Q) => save_at w2 W rs mq Q h hsm
            unfold SavePost at hsv
            rw [hbe] at hsv
            have Hsv := Lib.hid hsv
            have HS8 := Lib.hid hS8
            have htrue : refLoad b = true := by rw [Heq.out, hlb]; rfl
            clear hS8 hlb HS7 Heq hsm hbe hsv
            go_wp2_with fail
            refine (Hrl.out w8).mono ?_
            rintro r w9 ⟨vr, rfl, hx9⟩
            rw [htrue]
            have HS9 := Lib.hid (HS8.out.keep hx9)
            clear hx9 HS8 htrue
            go_wp2_with fail
            refine (Hsv.out w9 HS9.out).mono ?_
            rintro r w10 ⟨rfl, hx10⟩
            have HX := Lib.hid ((Hfin.out w9 _ _ HS9.out).trans hx10)
            clear hx10 HS9
            go_wp2
            go_ret
            exact ⟨ret_bool (by simp), HX.out⟩
end Go.Proofs.Ytgmopnbejjfbjaa
