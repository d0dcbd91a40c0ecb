/-
  Package names: Save. Conditions: the registry stands as IsReg says; it is small.
-/
import Derived.Test.YtgmopnbejjfbjaaR15
namespace Go.Proofs.Ytgmopnbejjfbjaa
open Go.RowKit Go.MapKept
open Go.ChangeMaps (setBlock)

theorem appendNumber_of (w : World) (v : Value) (l : List UInt8) (n : Nat) {x : Int} (hx : x = n) (hb : IsBytes w v l) (hn : n ≤ 18446744073709551615) (hl : l.length ≤ 1073741824) :
    Calls Try.prog 51 #[v, .int .u64 x] w (AppPost w v (l ++ encNum n)) := by subst hx; exact appendNumber_any w v l n hb hn hl
theorem strMap_size {es : Array MapEntry} {l : List (ByteArray × Value)} (h : StrMap es l) : es.size = l.length := by
  have := congrArg List.length h
  simpa using this
theorem len_reg {es : Array MapEntry} {clock mb : Nat} {l : List (ByteArray × Value)} (hl : StrMap es l) (ty : TypeId) (W : World) (h : blk W mb = some (.map es clock)) :
    (Builtin.len_ #[94] ty #[.map (some mb)]).run Try.prog W = .ok (.int .i64 l.length) W := by
  simp [Builtin.len_, run_underlying Try.underlying94, MapKept.run_getObj_map h, Result.andThen, goInt, strMap_size hl]
theorem rows_apart {w : World} {e1 e2 : TypeId} {s1 s2 : Nat} {v1 v2 : Value} {n1 n2 : Nat} {x1 x2 : List Value} (h1 : w.ownsRow 0 e1 s1 v1 n1 x1) (h2 : w.ownsRow 0 e2 s2 v2 n2 x2) (hne : e1 ≠ e2) : ∀ g, v1.ownBlock = some g → ¬ v2.ownBlock = some g := fun g e1' e2' => by
  obtain ⟨c1, h3⟩ := row_type h1 e1'
  obtain ⟨c2, h4⟩ := row_type h2 e2'
  rw [h3] at h4
  cases h4
  exact hne rfl
/-- while it is written: the bytes so far, in memory of the call's own; the list of names; nothing else has turned -/
structure SaveInv (w wr : World) (vn : Value) (S : List ByteArray) (v : Value) (B : List UInt8) : Prop where
  bytes : IsBytes wr v B
  own : ∀ g, v.ownBlock = some g → w.heap.size ≤ g
  names : wr.ownsRow 0 9 1 vn S.length (S.map Value.string)
  ext : Ext (fun _ => False) w wr
theorem SaveInv.keep {w wr w5 : World} {vn : Value} {S : List ByteArray} {v : Value} {B : List UInt8} (h : SaveInv w wr vn S v B) (hx : Ext (fun _ => False) wr w5) : SaveInv w w5 vn S v B :=
  ⟨h.bytes.keep hx, h.own, ownsRow_keep h.names hx, h.ext.trans hx⟩
theorem SaveInv.app {w wr w5 : World} {vn : Value} {S : List ByteArray} {v v5 : Value} {B B' : List UInt8} (h : SaveInv w wr vn S v B) (hb : IsBytes w5 v5 B') (hx : Ext (fun b => v.ownBlock = some b) wr w5) (ha : ∀ g, v5.ownBlock = some g → v.ownBlock = some g ∨ wr.heap.size ≤ g) : SaveInv w w5 vn S v5 B' :=
  ⟨hb, fun g e => (ha g e).elim (h.own g) (fun h' => Nat.le_trans h.ext.size h'), ownsRow_ext h.names hx (fun g hg e => rows_apart h.names h.bytes (by decide) g hg e), h.ext.own hx (fun k e => h.own k e)⟩
theorem SaveInv.cell {w wr : World} {vn : Value} {S : List ByteArray} {v : Value} {B : List UInt8} (h : SaveInv w wr vn S v B) {g i : Nat} {u : Value} (hg : g < w.heap.size) (hc : w.cell? ⟨g, i, none⟩ = some u) : wr.cell? ⟨g, i, none⟩ = some u := (h.ext.cell (p := ⟨g, i, none⟩) hg id).trans hc
theorem SaveInv.blk {w wr : World} {vn : Value} {S : List ByteArray} {v : Value} {B : List UInt8} (h : SaveInv w wr vn S v B) {g : Nat} {o : Obj} (hc : blk w g = some o) : blk wr g = some o := (h.ext.blk (blk_lt hc) id).trans hc
set_option maxRecDepth 100000 in
set_option maxHeartbeats 4000000 in
theorem save_any (w : World) (rb mb : Nat) (L : List (ByteArray × Slot)) (hR : IsReg w rb mb L) (hM : Small (regM L)) : Calls Try.prog 29 #[.pointer (some ⟨rb, 0, none⟩)] w (SavePost w (regM L)) := by
  have ⟨hc, ⟨es, clock, hm, hl, hst⟩, hrows, _⟩ := hR
  have hLl : (regM L).length = L.length := by simp [regM]
  have hl1000 : L.length ≤ 1000 := by rw [← hLl]; exact hM.len
  have hlk : ∀ n (W : World), blk W mb = some (.map es clock) → (Instr.lookup 94 (.map (some mb)) (.string n) false).run Try.prog W = .ok (slotV L n) W := fun n W hW => reg_lookup hl n W hW
  have hlen : ∀ (ty : TypeId) (W : World), blk W mb = some (.map es clock) → (Builtin.len_ #[94] ty #[.map (some mb)]).run Try.prog W = .ok (.int .i64 L.length) W := fun ty W hW => by
    have := len_reg hl ty W hW
    simpa using this
  have hnames := fun (W : World) (hx : Ext (fun _ => False) w W) => names_any W rb mb L (hR.ext hx (fun _ _ h => h)) (by omega)
  obtain ⟨K, hK⟩ : ∃ K, ksort leS (regM L) = K := ⟨_, rfl⟩
  have hKl : K.length = L.length := by rw [← hK, ksort_length, hLl]
  have hrow : ∀ (j : Nat) (p : ByteArray × List Ep), K[j]? = some p → p.1.size ≤ 1000 ∧ p.2.length ≤ 1000 ∧ (∀ x ∈ p.2, okEp x) ∧ slotL L p.1 = p.2 := fun j p hp => by
    have h1 : p ∈ regM L := (ksort_perm (regM L)).mem_iff.1 (by rw [hK]; exact List.mem_of_getElem? hp)
    obtain ⟨a, b, c⟩ := hM.each p h1
    refine ⟨a, b, c, ?_⟩
    rw [slotL_eq, assoc_k, kget_of_mem hM.nodup h1]; rfl
  have hflat := flat_take_le (f := encN) (l := K) (B := 28018) (N := 1000) (fun p hp => by
    obtain ⟨i, hi, rfl⟩ := List.getElem_of_mem hp
    obtain ⟨a, b, c, _⟩ := hrow i _ (List.getElem?_eq_getElem hi)
    exact encN_length ⟨a, b, c⟩) (by omega)
  have hown := fun n => hR.owns n
  unfold SavePost
  have hsv : saveM (regM L) = encNum L.length ++ K.flatMap encN := by unfold saveM; rw [hK, hLl]
  rw [hsv]
  unfold namesM at hnames
  rw [hK] at hnames
  obtain ⟨N, hN⟩ : ∃ N, L.length = N := ⟨_, rfl⟩
  rw [hN] at hl1000 hlen hKl ⊢
  have hlN := encNum_length N (by omega)
  have hrb := blk_lt hc
  have hmb := blk_lt hm
  have hc0 := cell_of_cells hc 0
  simp at hc0
  have Hlk := Lib.hid hlk
  have Hc0 := Lib.hid hc0
  have Hm := Lib.hid hm
  have Hnames := Lib.hid hnames
  have Hrow := Lib.hid hrow
  have Hflat := Lib.hid hflat
  have Hown := Lib.hid hown
  have HKl := Lib.hid hKl
  clear hR hM hl hst hrows hLl hlk hnames hK hKl hrow hflat hown hsv hN hc
  go_enter Try.func29, Try.ntmps29
  go_wp2_with fail
  refine (appendNumber_any w _ [] N (World.ownsRow_nil w 0 _ 1) (by omega) (by simp)).mono ?_
  rintro r w2 ⟨v2, rfl, hb2, hx2, ha2⟩
  rw [List.nil_append] at hb2
  have hX2 : Ext (fun _ => False) w w2 := hx2.mono (fun k _ e => by cases e)
  have hA2 : ∀ g, v2.ownBlock = some g → w.heap.size ≤ g := fun g e => (ha2 g e).elim (fun e => by cases e) id
  have Hb2 := Lib.hid hb2
  have HX2 := Lib.hid hX2
  have HA2 := Lib.hid hA2
  clear hb2 hx2 ha2 hX2 hA2 hc0 hm hlen
  go_wp2_with fail
  refine (Hnames.out w2 HX2.out).mono ?_
  rintro r w3 ⟨vn, rfl, hvn, hx3, _⟩
  obtain ⟨an, cn, rfl⟩ := ownsRow_shape hvn
  have hI : SaveInv w w3 (.slice an (K.map Prod.fst).length cn) (K.map Prod.fst) v2 (encNum N) := ⟨Hb2.out.keep hx3, HA2.out, hvn, HX2.out.trans hx3⟩
  have HI := Lib.hid hI
  have hSl : (K.map Prod.fst).length = N := by rw [List.length_map]; exact HKl.out
  rw [hSl] at HI ⊢
  clear hI hvn hx3 hSl Hb2 HX2 HA2
  go_wp2_with fail
  go_loopg [3, 20] N (fun q v3 v20 wr => ∃ j : Nat, j ≤ N ∧ q = N - j ∧ v20 = .int .i64 j ∧ SaveInv w wr (.slice an N cn) (K.map Prod.fst) v3 (encNum N ++ (K.take j).flatMap encN))
  case atStart => exact ⟨0, Nat.zero_le _, rfl, rfl, by simpa using HI.out⟩
  case round =>
    obtain ⟨j, hj, rfl, rfl, hI⟩ := hrel
    clear HI
    by_cases hjN : j < N
    · have hnm := hI.names
      rw [List.length_map, HKl.out] at hnm
      obtain ⟨gn, rfl, _⟩ := row_form hnm (by omega)
      obtain ⟨p, hp⟩ : ∃ p, K[j]? = some p := ⟨_, List.getElem?_eq_getElem (by rw [HKl.out]; exact hjN)⟩
      obtain ⟨q1, q2, q3, q4⟩ := Hrow.out j p hp
      have hst := flat_step (f := encN) hp (encNum N)
      have hse := Hown.out p.1
      have hlk1 := Hlk.out p.1
      rw [q4] at hse
      obtain ⟨nm, l⟩ := p
      simp only at q1 q2 q3 hse hlk1
      have hsl : ∃ ae ce, slotV L nm = .slice ae l.length ce := ownsRow_shape hse
      obtain ⟨ae, ce, hsl⟩ := hsl
      rw [hsl] at hse hlk1
      obtain ⟨n, hn⟩ : ∃ n, l.length = n := ⟨_, rfl⟩
      rw [hn] at q2 hse hlk1
      have hlen : (encNum N ++ (K.take j).flatMap encN).length ≤ 28018009 := by
        have := Hflat.out j
        rw [List.length_append]; omega
      generalize encNum N ++ (K.take j).flatMap encN = LB at *
      have d0 : wr.cell? ⟨gn, j, none⟩ = some (.string nm) := by
        have := World.ownsRow.cells hnm (g := gn) rfl j (.string nm) (by rw [List.getElem?_map, List.getElem?_map, hp]; rfl)
        rwa [Addr.add_lit, Nat.zero_add] at this
      have d1 := hI.cell hrb Hc0.out
      have d2 := hI.blk Hm.out
      have HI := Lib.hid hI
      have Hst := Lib.hid hst
      have Hse := Lib.hid hse
      have H3 := Lib.hid q3
      have Hn := Lib.hid hn
      have j0 : (0 : Int) ≤ (j : Int) := by omega
      have j1 : (j : Int) < (N : Int) := by omega
      clear hI hst hse q3 hn hp q4 hsl hnm
      go_upto_region 5 with fail
      have hI1 : SaveInv w wr.drew (.slice (some ⟨gn, 0, none⟩) N cn) (K.map Prod.fst) u3 LB := HI.out.keep ((Ext.refl _ wr).drew)
      have HI1 := Lib.hid hI1
      clear hI1 HI d0
      go_cut [3] (fun v3 wx => SaveInv w wx (.slice (some ⟨gn, 0, none⟩) N cn) (K.map Prod.fst) v3 (LB ++ (encNum nm.size ++ nm.data.toList) ++ encNum n))
      case first =>
        go_region_held3 (fun w' => w'.cell? ⟨rb, 0, none⟩ = some (.map (some mb)) ∧ blk w' mb = some (.map es clock))
          (first | exact ⟨by assumption, by assumption⟩ | go_keep)
          (first
            | (go_at_call 52; (with_reducible refine (appendText_any _ u3 LB nm HI1.out.bytes (by omega) (by omega)).mono ?_); rintro r w5 ⟨v5, rfl, hb5, hx5, ha5⟩; have hI5 := HI1.out.app hb5 hx5 ha5; have y0 := hI5.cell hrb Hc0.out; have y1 := hI5.blk Hm.out; have HI5 := Lib.hid hI5; clear hb5 hx5 ha5 hI5)
            | (go_at_call 51; (with_reducible refine (appendNumber_of _ v5 _ n (u64_nat n (by omega)) HI5.out.bytes (by omega) (by have := encNum_length nm.size (by omega); have := size_len nm; rw [List.length_append, List.length_append]; omega)).mono ?_); rintro r w6 ⟨v6, rfl, hb6, hx6, ha6⟩; have hI6 := HI5.out.app hb6 hx6 ha6; have z0 := hI6.cell hrb Hc0.out; have z1 := hI6.blk Hm.out; have HI6 := Lib.hid hI6; clear hb6 hx6 ha6 hI6))
        all_goals (go_wp2_with fail)
        all_goals go_meet
        all_goals exact HI6.out
      case rest =>
        have hl2 : (LB ++ (encNum nm.size ++ nm.data.toList) ++ encNum n).length ≤ 28019027 := by
          have := encNum_length nm.size (by omega)
          have := encNum_length n (by omega)
          have := size_len nm
          rw [List.length_append, List.length_append, List.length_append]; omega
        obtain ⟨L2, hL2⟩ : ∃ L2, LB ++ (encNum nm.size ++ nm.data.toList) ++ encNum n = L2 := ⟨_, rfl⟩
        have HI6 := Lib.hid hcut
        have z0 := hcut.cell hrb Hc0.out
        have z1 := hcut.blk Hm.out
        clear hcut
        rw [hL2] at HI6 hl2
        have HL2 := Lib.hid hL2
        clear hL2 d1 d2 HI1
        go_wp2_with fail
        go_loopg [3, 43] n (fun q v3 v43 wr => ∃ k : Nat, k ≤ n ∧ q = n - k ∧ v43 = .int .i64 k ∧ SaveInv w wr (.slice (some ⟨gn, 0, none⟩) N cn) (K.map Prod.fst) v3 (L2 ++ (l.take k).flatMap encE))
        case atStart => exact ⟨0, Nat.zero_le _, rfl, rfl, by simpa using HI6.out⟩
        case round =>
          obtain ⟨k, hk, rfl, rfl, hI⟩ := hrel
          clear HI6 z0 z1 hlk1
          by_cases hkN : k < n
          · obtain ⟨ge, rfl, hge⟩ := row_form Hse.out (by omega)
            obtain ⟨x, hx0⟩ : ∃ x, l[k]? = some x := ⟨_, List.getElem?_eq_getElem (by rw [Hn.out]; exact hkN)⟩
            have hrw := row_at (f := Ep.cs) cs_len Hse.out k hx0
            have c0 := hI.cell hge (hrw 0 (by omega) rfl)
            have c1 := hI.cell hge (hrw 1 (by omega) rfl)
            have c2 := hI.cell hge (hrw 2 (by omega) rfl)
            have okx := H3.out x (List.mem_of_getElem? hx0)
            have hst2 := flat_step (f := encE) hx0 L2
            obtain ⟨xa, xt, xg⟩ := x
            simp only [okEp] at okx
            obtain ⟨b1, b2, b3, b4, b5, b6⟩ := okx
            obtain ⟨an, rfl⟩ := Int.eq_ofNat_of_zero_le (show 0 ≤ xa by omega)
            obtain ⟨tn, rfl⟩ := Int.eq_ofNat_of_zero_le (show 0 ≤ xt by omega)
            obtain ⟨gg, rfl⟩ := Int.eq_ofNat_of_zero_le b5
            have hl3 : (L2 ++ (l.take k).flatMap encE).length ≤ 28046027 := by
              have := flat_take_le (f := encE) (l := l) (B := 27) (N := 1000) (fun x hx => encE_length (H3.out x hx)) (by rw [Hn.out]; exact q2) k
              rw [List.length_append]; omega
            simp only [Nat.add_zero] at c0
            simp only [encE, Int.toNat_natCast] at hst2
            generalize L2 ++ (l.take k).flatMap encE = L3 at *
            have Hst2 := Lib.hid hst2
            have HI := Lib.hid hI
            have i0 : (0 : Int) ≤ (k : Int) := by omega
            have i1 : (k : Int) < (n : Int) := by omega
            clear hst2 hI hx0 hrw
            go_upto_region 10 with fail
            have hbx : blk ((wr.alloc (.cells #[.int .i64 an, .int .i64 tn, .int .i64 gg] 100)).alloc (.cells #[.int .i64 an, .int .i64 tn, .int .i64 gg] 3)) (wr.heap.size + 1) = some (.cells #[.int .i64 an, .int .i64 tn, .int .i64 gg] 3 (0, 0)) := by simpa using blk_alloc_at (wr.alloc (.cells #[.int .i64 an, .int .i64 tn, .int .i64 gg] 100)) (.cells #[.int .i64 an, .int .i64 tn, .int .i64 gg] 3)
            have hI := HI.out.keep (((Ext.refl _ wr).alloc (.cells #[.int .i64 an, .int .i64 tn, .int .i64 gg] 100)).alloc (.cells #[.int .i64 an, .int .i64 tn, .int .i64 gg] 3))
            have HbX := Lib.hid hbx
            have HI2 := Lib.hid hI
            clear hbx hI HI c0 c1 c2
            generalize wr.heap.size + 1 = X at *
            generalize (wr.alloc (.cells #[.int .i64 an, .int .i64 tn, .int .i64 gg] 100)).alloc (.cells #[.int .i64 an, .int .i64 tn, .int .i64 gg] 3) = wb at *
            go_loopg [3, 55] 3 (fun q v3 v55 wx => ∃ i : Nat, i ≤ 3 ∧ q = 3 - i ∧ v55 = .int .i64 i ∧ SaveInv w wx (.slice (some ⟨gn, 0, none⟩) N cn) (K.map Prod.fst) v3 (L3 ++ ([an, tn, gg].take i).flatMap encNum) ∧ blk wx X = some (.cells #[.int .i64 an, .int .i64 tn, .int .i64 gg] 3 (0, 0)))
            case atStart => exact ⟨0, by omega, rfl, rfl, by simpa using HI2.out, HbX.out⟩
            case round =>
              obtain ⟨i, hi, rfl, rfl, hI, hbx⟩ := hrel
              clear HI2 HbX
              by_cases hi3 : i < 3
              · obtain ⟨x, hx0⟩ : ∃ x, [an, tn, gg][i]? = some x := ⟨_, List.getElem?_eq_getElem (by simpa using hi3)⟩
                have hxb : x ≤ 1099511627777 ∧ wr.cell? ⟨X, i, none⟩ = some (.int .i64 x) := by
                  rw [cell_of_cells hbx i]
                  have h3 : i = 0 ∨ i = 1 ∨ i = 2 := by omega
                  rcases h3 with rfl | rfl | rfl
                  · simp at hx0; subst hx0; exact ⟨by omega, rfl⟩
                  · simp at hx0; subst hx0; exact ⟨by omega, rfl⟩
                  · simp at hx0; subst hx0; exact ⟨by omega, rfl⟩
                obtain ⟨hxb, hxc⟩ := hxb
                have hst3 := flat_step (f := encNum) hx0 L3
                have hl4 : (L3 ++ ([an, tn, gg].take i).flatMap encNum).length ≤ 28046054 := by
                  have := flat_take_le (f := encNum) (l := [an, tn, gg]) (B := 9) (N := 3) (fun y hy => encNum_length y (by
                    simp at hy
                    rcases hy with rfl | rfl | rfl <;> omega)) (by simp) i
                  rw [List.length_append]; omega
                generalize L3 ++ ([an, tn, gg].take i).flatMap encNum = L4 at *
                have Hst3 := Lib.hid hst3
                have HI := Lib.hid hI
                have HbX := Lib.hid hbx
                have i0' : (0 : Int) ≤ (i : Int) := by omega
                have i1' : (i : Int) < 3 := by omega
                clear hst3 hI hbx hx0
                go_wp2_with fail
                (with_reducible refine (appendNumber_any _ u3 L4 x HI.out.bytes (by omega) (by omega)).mono ?_)
                rintro r w5 ⟨v5, rfl, hb5, hx5, ha5⟩
                have hI5 := HI.out.app hb5 hx5 ha5
                rw [← Hst3.out] at hI5
                have hX5 := (hx5.blk (blk_lt HbX.out) (fun e => (by
                  obtain ⟨cur, hcur⟩ := row_type HI.out.bytes e
                  rw [HbX.out] at hcur
                  cases hcur))).trans HbX.out
                have HI5 := Lib.hid hI5
                have HX5 := Lib.hid hX5
                clear hb5 hx5 ha5 hI5 hX5
                go_wp2
                go_roundg (3 - (i + 1))
                case measure => omega
                case rel => exact ⟨i + 1, by omega, rfl, by go_num, HI5.out, HX5.out⟩
              · have hi3' : i = 3 := by omega
                subst hi3'
                have HIn : Hid (SaveInv w wr (.slice (some ⟨gn, 0, none⟩) N cn) (K.map Prod.fst) u3 (L2 ++ (l.take (k + 1)).flatMap encE)) := Lib.hid (by
                  rw [Hst2.out]
                  have e : L3 ++ ([an, tn, gg].take 3).flatMap encNum = L3 ++ (encNum an ++ encNum tn ++ encNum gg) := by simp
                  rw [e] at hI
                  exact hI)
                clear hI hbx
                go_wp2
                go_roundg (n - (k + 1))
                case measure => omega
                case rel => exact ⟨k + 1, by omega, rfl, by go_num, HIn.out⟩
          · rw [List.take_of_length_le (by rw [Hn.out]; omega)] at hI
            have HIn : Hid (SaveInv w wr (.slice (some ⟨gn, 0, none⟩) N cn) (K.map Prod.fst) u3 (encNum N ++ (K.take (j + 1)).flatMap encN)) := Lib.hid (by
              rw [Hst.out]
              have e : LB ++ encN (nm, l) = L2 ++ l.flatMap encE := by
                rw [← HL2.out, ← Hn.out]; simp only [encN, List.append_assoc]
              rw [e]
              exact hI)
            clear hI
            go_wp2
            go_roundg (N - (j + 1))
            case measure => omega
            case rel => exact ⟨j + 1, by omega, rfl, by go_num, HIn.out⟩
    · rw [List.take_of_length_le (by rw [HKl.out]; omega)] at hI
      obtain ⟨LT, hLT⟩ : ∃ LT, encNum N ++ K.flatMap encN = LT := ⟨_, rfl⟩
      rw [hLT] at hI
      obtain ⟨ab, cb, rfl⟩ := hI.bytes.shape
      have HB := Lib.hid hI.bytes
      have Hx := Lib.hid hI.ext
      have HLT := Lib.hid hLT
      clear hI hLT
      go_wp2_with fail
      rw [run_bytes_string HB.out]
      go_wp2
      go_ret
      exact ⟨by rw [HLT.out]; rfl, Hx.out⟩
end Go.Proofs.Ytgmopnbejjfbjaa
