/-
  StoreLoads: the walk. Conditions: the arguments' cells are as given.
-/
import Derived.Test.YthipbmppmgkklaaL3
import Derived.Test.YthipbmppmgkklaaD1
import Derived.Test.YthipbmppmgkklaaTM
namespace Go.Proofs.Ythipbmppmgkklaa
open Go.RowKit Go.MapKept
open Go.ChangeMaps (setBlock)

theorem saveM_size {m : KM} (h : Good m) (hm : m.length ≤ 100) : (⟨(saveM m).toArray⟩ : ByteArray).size ≤ 1000000 := by
  show (saveM m).toArray.size ≤ _
  rw [List.size_toArray, saveM_rows h.nodup]
  have h1 := ksort_length (le := leS) m
  have h2 := flat_len (f := encP) (l := ksort leS m) (B := 1018) (fun p hp => by
    have hp' := (ksort_perm m).mem_iff.1 hp
    exact encP_length (h.small' p hp') (h.val p hp'))
  have h3 := encNum_length (ksort leS m).length (by omega)
  unfold rowsM
  rw [List.length_append]
  rw [h1] at h2 h3 ⊢
  have : m.length * 1018 ≤ 100 * 1018 := Nat.mul_le_mul_right _ hm
  omega
/-- Load on a store, by the state it had -/
def LoadIs (w : World) (tb : Nat) (o : Option KM) (r : Ending) (w' : World) : Prop :=
  match o with
  | some K => r = .returned (.int .i64 0) ∧ (∃ mb, IsStore w' tb mb K ∧ w.heap.size ≤ mb) ∧ Ext (fun k => k = tb) w w'
  | none => r = .returned (.int .i64 11) ∧ Ext (fun _ => False) w w'
theorem load_is {w : World} {tb nb : Nat} {m : KM} (h : IsStore w tb nb m) (b : ByteArray) (hb : b.size ≤ 1000000) : Calls Try.prog 25 #[.pointer (some ⟨tb, 0, none⟩), .string b] w (LoadIs w tb (loadL b.data.toList)) :=
  load_any w tb _ h.1 b hb
set_option maxRecDepth 100000 in
set_option maxHeartbeats 4000000 in
theorem loads_core (w : World) (ao : Option Addr) (n cap : Nat) (l : List OpV) (ao2 : Option Addr) (n2 cap2 : Nat) (l2 : List OpV) (b : ByteArray) (hbs : b.size ≤ 9223372036854775807)
    (hfew : ∀ W, Ext (fun _ => False) w W → Calls Try.prog 11 #[.slice ao n cap, .int .i64 30] W fun r w' => r = .returned (.bool (fewB l 30)) ∧ w' = W)
    (hrun : ∀ W, Ext (fun _ => False) w W → l.length ≤ 30 → Calls Try.prog 12 #[.slice ao n cap] W (RunPost W l))
    (hfew2 : ∀ W, Ext (fun _ => False) w W → Calls Try.prog 11 #[.slice ao2 n2 cap2, .int .i64 30] W fun r w' => r = .returned (.bool (fewB l2 30)) ∧ w' = W)
    (hrun2 : ∀ W, Ext (fun _ => False) w W → l2.length ≤ 30 → Calls Try.prog 12 #[.slice ao2 n2 cap2] W (RunPost W l2))
    (hok : ∀ x ∈ l, InR x.v) (hok2 : ∀ x ∈ l2, InR x.v) (hn2 : n2 = l2.length) (hcells2 : 0 < l2.length → ∃ b off, ao2 = some ⟨b, off, none⟩ ∧ Ops w b off l2 ∧ b < w.heap.size) :
    Calls Try.prog 7 #[.slice ao n cap, .slice ao2 n2 cap2, .string b] w (AwakePost w) := by
  subst hn2
  have Hfew := Lib.hid hfew
  have Hrun := Lib.hid hrun
  have Hfew2 := Lib.hid hfew2
  have Hrun2 := Lib.hid hrun2
  have Hok := Lib.hid hok
  have Hok2 := Lib.hid hok2
  have Hcells2 := Lib.hid hcells2
  clear hfew hrun hfew2 hrun2 hok hok2 hcells2
  go_enter Try.func7, Try.ntmps7
  go_wp2_with fail
  refine (awake_any _).mono ?_
  rintro r w1 ⟨rfl, hx1⟩
  have Hx1 := Lib.hid hx1
  clear hx1
  go_wp2_with fail
  refine (Hfew.out _ Hx1.out).mono ?_
  rintro r w' ⟨rfl, hw⟩; obtain rfl := hw.symm; clear hw
  cases hf : fewB l 30 with
  | false =>
    clear hf
    go_wp2
    go_ret
    exact ⟨rfl, Hx1.out⟩
  | true =>
    obtain ⟨hl, hbd⟩ := fewB_true' hf
    clear hf hbd
    go_wp2_with fail
    refine (Hfew2.out _ Hx1.out).mono ?_
    rintro r w' ⟨rfl, hw⟩; obtain rfl := hw.symm; clear hw
    cases hf : fewB l2 30 with
    | false =>
      clear hf
      go_wp2
      go_ret
      exact ⟨rfl, Hx1.out⟩
    | true =>
      obtain ⟨hl2, hbd2⟩ := fewB_true' hf
      have Hbd2 := Lib.hid hbd2
      clear hf hbd2
      by_cases hbig : (200 : Int) < b.size
      · go_wp2
        go_ret
        exact ⟨rfl, Hx1.out⟩
      have hb200 : b.size ≤ 1000000 := by omega
      have hrun1 := Hrun.out w1 Hx1.out hl
      have hg1 := Good.nil.runM (l := l) Hok.out
      have hlen1 := runM_length [] l
      have hg2 := Good.nil.runM (l := l2) Hok2.out
      have hlen2 := runM_length [] l2
      simp only [List.length_nil, Nat.zero_add] at hlen1 hlen2
      unfold RunPost at hrun1 
      have hrun2 := fun (W : World) (hx : Ext (fun _ => False) w W) => Hrun2.out W hx hl2
      unfold RunPost at hrun2
      generalize runM [] l = M at *
      generalize runM [] l2 = M2 at *
      have hM : M.length ≤ 30 := by omega
      have hM2 : M2.length ≤ 30 := by omega
      have Hrun1 := Lib.hid hrun1
      have HrunB := Lib.hid hrun2
      have Hg1 := Lib.hid hg1
      have Hg2 := Lib.hid hg2
      clear hrun1 hrun2 hg1 hg2 hlen1 hlen2 Hrun Hrun2 Hfew Hfew2
      go_wp2_with fail
      refine Hrun1.out.mono ?_
      rintro r w2 ⟨sb, mb, rfl, hs2, hx2, hsb, hmb⟩
      have Hs2 := Lib.hid (And.intro hs2 (And.intro hx2 (And.intro hsb hmb)))
      clear hs2 hx2 hsb hmb Hrun1
      go_wp2_with fail
      refine (HrunB.out w2 (Hx1.out.trans Hs2.out.2.1)).mono ?_
      rintro r w3 ⟨tb, nb, rfl, ht3, hx3, htb, hnb⟩
      have HT3 := Lib.hid (TwoS.mk' Hs2.out.2.1 Hs2.out.1 Hs2.out.2.2.1 Hs2.out.2.2.2 hx3 ht3 htb hnb)
      clear ht3 hx3 htb hnb Hs2 HrunB
      have hsv := saveM_size Hg1.out (by omega)
      have hls := loadL_save Hg1.out (by omega)
      have hload := fun (W : World) (h : IsStore W tb nb M2) => load_is h ⟨(saveM M).toArray⟩ hsv
      have he : (⟨(saveM M).toArray⟩ : ByteArray).data.toList = saveM M := by simp
      rw [he, hls] at hload
      have hsave := fun (W : World) (h : IsStore W sb mb M) => save_is h Hg1.out (by omega)
      have hsame := SameM.sort Hg1.out
      have hsavT := fun (W : World) (nb' : Nat) (h : IsStore W tb nb' (ksort leS M)) => save_is h hsame.b (by rw [ksort_length]; omega)
      rw [← hsame.save] at hsavT
      have hkl : (ksort leS M).length = M.length := ksort_length M
      have hlenT := fun (W : World) (nb' : Nat) (h : IsStore W tb nb' (ksort leS M)) => len_any W tb nb' _ h
      have hlenS := fun (W : World) (h : IsStore W sb mb M) => len_any W sb mb _ h
      rw [hkl] at hlenT
      unfold LoadIs at hload
      simp only at hload
      unfold SaveIs at hsave hsavT
      generalize (⟨(saveM M).toArray⟩ : ByteArray) = SV at *
      obtain ⟨ML, hML⟩ : ∃ ML, M.length = ML := ⟨_, rfl⟩
      rw [hML] at hlenT hlenS hM
      have HML := Lib.hid hML
      have Hload := Lib.hid hload
      have Hsave := Lib.hid hsave
      have HsavT := Lib.hid hsavT
      have HlenT := Lib.hid hlenT
      have HlenS := Lib.hid hlenS
      have Hsame := Lib.hid hsame
      clear hload hsave hsavT hlenT hlenS hsame hkl hsv hls he hML Hg1 Hg2
      generalize ksort leS M = K at *
      go_wp2_with fail
      refine (Hsave.out w3 HT3.out.s).mono ?_
      rintro r w4 ⟨rfl, hx4⟩
      have HT4 := Lib.hid (HT3.out.keep hx4)
      clear hx4 HT3
      go_wp2_with fail
      refine (Hload.out w4 HT4.out.t).mono ?_
      rintro r w5 ⟨rfl, ⟨nb', ht5, hnb'⟩, hx5⟩
      have HT5 := Lib.hid (HT4.out.loadT ht5 hx5 hnb')
      clear ht5 hnb' hx5 HT4 Hload
      go_wp2_with fail
      refine (HsavT.out w5 nb' HT5.out.t).mono ?_
      rintro r w6 ⟨rfl, hx6⟩
      have HT6 := Lib.hid (HT5.out.keep hx6)
      clear hx6 HT5
      go_wp2_with fail
      refine (Hsave.out w6 HT6.out.s).mono ?_
      rintro r w7 ⟨rfl, hx7⟩
      have HT7 := Lib.hid (HT6.out.keep hx7)
      clear hx7 HT6
      go_wp2_with fail
      refine (HlenT.out w7 nb' HT7.out.t).mono ?_
      rintro r w' ⟨rfl, hw⟩; obtain rfl := hw.symm; clear hw
      go_wp2_with fail
      refine (HlenS.out w7 HT7.out.s).mono ?_
      rintro r w' ⟨rfl, hw⟩; obtain rfl := hw.symm; clear hw
      clear Hsave HsavT HlenT HlenS
      go_wp2_with fail
      go_loopg [9] l2.length (fun q v9 wr => ∃ (j : Nat) (P Q : KM), j ≤ l2.length ∧ q = l2.length - j ∧ v9 = .int .i64 j ∧ TwoS w1 wr sb mb P tb nb' Q ∧ SameM P Q ∧ P.length ≤ 30 + j)
      case atStart => exact ⟨0, M, K, Nat.zero_le _, rfl, rfl, HT7.out, Hsame.out, by rw [HML.out]; omega⟩
      case round =>
        obtain ⟨j, P, Q, hj, rfl, rfl, hT, hS, hP⟩ := hrel
        clear HT7 Hsame
        by_cases hjl : j < l2.length
        · obtain ⟨bb, off, rfl, ho, hb⟩ := Hcells2.out (by omega)
          obtain ⟨x, hxe⟩ : ∃ x, l2[j] = x := ⟨_, rfl⟩
          have hxm : x ∈ l2 := by rw [← hxe]; exact List.getElem_mem hjl
          have hlr := (ho.ext (Hx1.out.trans hT.ext) (fun _ => ⟨hb, id⟩))
          have hat := hlr.at j hjl
          rw [hxe] at hat
          have hbb : bb < wr.heap.size := Nat.lt_of_lt_of_le hb (Hx1.out.trans hT.ext).size
          have hne : ¬ bb = mb := fun e => by have := hT.gm; have := Hx1.out.size; omega
          have hne' : ¬ bb = nb' := fun e => by have := hT.gn; have := Hx1.out.size; omega
          have hstep := hS.step (by omega) (x := x) (Hok2.out x hxm)
          have hpl := doM_length P x
          have hks := Hbd2.out x hxm
          have hQ : Q.length ≤ 1000000 := by rw [← hS.length]; omega
          have hdo1 := fun (W : World) (h : IsStore W sb mb P) => do_any W sb mb P h (by omega) x (by omega)
          have hdo2 := fun (W : World) (h : IsStore W tb nb' Q) => do_any W tb nb' Q h hQ x (by omega)
          unfold OpPost at hdo1 hdo2
          obtain ⟨st1, st2⟩ := hstep
          rw [← st2] at hdo2
          generalize doM P x = dp at *
          generalize doM Q x = dq at *
          obtain ⟨dpm, dc, df, dv⟩ := dp
          simp only at st1 hpl hdo1 hdo2
          obtain ⟨xk, key, xv, xo⟩ := x
          obtain ⟨c0, c1, c2, c3⟩ := hat
          simp only at c0 c1 c2 c3
          simp only [OpV.val, Rs.val] at hdo1 hdo2
          have j0 : (0 : Int) ≤ (j : Int) := by omega
          have j1 : (j : Int) < (l2.length : Int) := by omega
          have Hdo1 := Lib.hid hdo1
          have Hdo2 := Lib.hid hdo2
          have HT := Lib.hid hT
          have Hst := Lib.hid st1
          have hpl' : dpm.length ≤ 30 + (j + 1) := by omega
          have Hpl := Lib.hid hpl'
          clear hdo1 hdo2 hT hS st1 st2 hpl hpl' hxe hxm ho hlr hks hQ hP
          go_upto_region 11 with fail
          go_region_held3 (fun w' => w'.cell? ⟨bb, off + j * 4, none⟩ = some (.int .i64 xk) ∧ w'.cell? ⟨bb, off + j * 4 + 1, none⟩ = some (.string key) ∧ w'.cell? ⟨bb, off + j * 4 + 2, none⟩ = some (.int .i64 xv) ∧ w'.cell? ⟨bb, off + j * 4 + 3, none⟩ = some (.int .i64 xo))
            (first | exact ⟨by assumption, by assumption, by assumption, by assumption⟩ | go_keep)
            (first
              | (go_at_call 13; (with_reducible refine (Hdo1.out _ (HT.out.keep ((Ext.refl (fun _ => False) wr).drew)).s).mono ?_); rintro r w8 ⟨rfl, hs8, hx8⟩; have HT8 := Lib.hid ((HT.out.keep ((Ext.refl (fun _ => False) wr).drew)).doS hs8 hx8); have c0 := (hx8.cell (p := ⟨bb, off + j * 4, none⟩) hbb hne).trans c0; have c1 := (hx8.cell (p := ⟨bb, off + j * 4 + 1, none⟩) hbb hne).trans c1; have c2 := (hx8.cell (p := ⟨bb, off + j * 4 + 2, none⟩) hbb hne).trans c2; have c3 := (hx8.cell (p := ⟨bb, off + j * 4 + 3, none⟩) hbb hne).trans c3; have hbb8 := Nat.lt_of_lt_of_le hbb hx8.size; clear hs8 hx8)
              | (go_at_call 13; (with_reducible refine (Hdo2.out _ HT8.out.t).mono ?_); rintro r w9 ⟨rfl, hs9, hx9⟩; have HT9 := Lib.hid (HT8.out.doT hs9 hx9); have c0 := (hx9.cell (p := ⟨bb, off + j * 4, none⟩) hbb8 hne').trans c0; have c1 := (hx9.cell (p := ⟨bb, off + j * 4 + 1, none⟩) hbb8 hne').trans c1; have c2 := (hx9.cell (p := ⟨bb, off + j * 4 + 2, none⟩) hbb8 hne').trans c2; have c3 := (hx9.cell (p := ⟨bb, off + j * 4 + 3, none⟩) hbb8 hne').trans c3; clear hs9 hx9))
          all_goals go_wp2
          all_goals go_roundg (l2.length - (j + 1))
          case measure => omega
          case rel => exact ⟨j + 1, _, _, by omega, rfl, by go_num, HT9.out, Hst.out, Hpl.out⟩
        · have hQl : Q.length ≤ 1000 := by rw [← hS.length]; omega
          have hsavQ := fun (W : World) (h : IsStore W tb nb' Q) => save_is h hS.b hQl
          have hsavP := fun (W : World) (h : IsStore W sb mb P) => save_is h hS.a (by omega)
          rw [hS.save] at hsavP
          unfold SaveIs at hsavQ hsavP
          generalize (⟨(saveM Q).toArray⟩ : ByteArray) = SV2 at *
          have hload := fun (W : World) (h : IsStore W tb nb' Q) => load_is h b hb200
          have hrl := fun (W : World) => rload_any W b hb200
          have heq := refLoad_eq b.data.toList
          have HT := Lib.hid hT
          have HsavQ := Lib.hid hsavQ
          have HsavP := Lib.hid hsavP
          have Hload := Lib.hid hload
          have Hrl := Lib.hid hrl
          have Heq := Lib.hid heq
          clear hT hS hQl hsavQ hsavP hload hrl heq hP
          go_wp2_with fail
          refine (HsavQ.out wr HT.out.t).mono ?_
          rintro r w7 ⟨rfl, hx7⟩
          have HT7 := Lib.hid (HT.out.keep hx7)
          clear hx7 HT
          go_wp2_with fail
          refine (Hload.out w7 HT7.out.t).mono ?_
          rintro r w8 hp8
          unfold LoadIs at hp8
          cases hlb : loadL b.data.toList with
          | none =>
            rw [hlb] at hp8
            obtain ⟨rfl, hx8⟩ := hp8
            have HT8 := Lib.hid (HT7.out.keep hx8)
            have hfalse : refLoad b.data.toList = false := by rw [Heq.out, hlb]; rfl
            clear hx8 hlb HT7 Heq Hload
            go_wp2_with fail
            refine (Hrl.out w8).mono ?_
            rintro r w9 ⟨vr, rfl, hx9⟩
            rw [hfalse]
            have HT9 := Lib.hid (HT8.out.keep hx9)
            clear hx9 HT8 hfalse Hrl
            go_wp2_with fail
            refine (HsavQ.out w9 HT9.out.t).mono ?_
            rintro r w10 ⟨rfl, hx10⟩
            have HT10 := Lib.hid (HT9.out.keep hx10)
            clear hx10 HT9
            go_wp2_with fail
            refine (HsavP.out w10 HT10.out.s).mono ?_
            rintro r w11 ⟨rfl, hx11⟩
            have HX := Lib.hid (Hx1.out.trans (HT10.out.ext.trans hx11))
            clear hx11 HT10
            go_wp2
            go_ret
            exact ⟨ret_bool (by simp), HX.out⟩
          | some K2 =>
            rw [hlb] at hp8
            obtain ⟨rfl, ⟨nb2, ht8, hnb2⟩, hx8⟩ := hp8
            have HT8 := Lib.hid (HT7.out.loadT ht8 hx8 hnb2)
            obtain ⟨k1, k2, k3⟩ := loadL_ok hlb
            have hsv := fun (W : World) (h : IsStore W tb nb2 K2) => save_any W tb nb2 K2 h k2.small' k2.val (by omega)
            unfold SavePost at hsv
            rw [k1, show (⟨b.data.toList.toArray⟩ : ByteArray) = b from bytes_ext (by simp)] at hsv
            have Hsv := Lib.hid hsv
            have htrue : refLoad b.data.toList = true := by rw [Heq.out, hlb]; rfl
            clear ht8 hnb2 hx8 hlb HT7 Heq Hload k1 k2 k3 hsv HsavQ HsavP
            go_wp2_with fail
            refine (Hrl.out w8).mono ?_
            rintro r w9 ⟨vr, rfl, hx9⟩
            rw [htrue]
            have HT9 := Lib.hid (HT8.out.keep hx9)
            clear hx9 HT8 htrue Hrl
            go_wp2_with fail
            refine (Hsv.out w9 HT9.out.t).mono ?_
            rintro r w10 ⟨rfl, hx10⟩
            have HX := Lib.hid (Hx1.out.trans (HT9.out.ext.trans hx10))
            clear hx10 HT9
            go_wp2
            go_ret
            exact ⟨ret_bool (by simp), HX.out⟩
end Go.Proofs.Ythipbmppmgkklaa
