/-
  Package session: rows writes a map's rows in the order of its keys (clients). Conditions: the slice is the caller's own; the map's numbers in their bounds.
-/
import Derived.Test.YthligdgkhmgagaaSV
namespace Go.Proofs.Ythligdgkhmgagaa
open Go.RowKit Go.MapKept

def VOKc (p : Int × Ans) : Prop := 1 ≤ p.1 ∧ p.1 ≤ 4611686018427387904 ∧ 1 ≤ p.2.n ∧ p.2.n ≤ 4611686018427387904 ∧ p.2.s.size ≤ 1000
theorem encC_len1 {p : Int × Ans} (h : VOKc p) : (encC p).length ≤ 1027 := by
  unfold VOKc at h
  have h1 := encNum_length p.1.toNat (by omega)
  have h2 := encNum_length p.2.n.toNat (by omega)
  have h3 := encNum_length p.2.s.size (by omega)
  have h4 : p.2.s.data.toList.length = p.2.s.size := by simp
  simp only [encC, List.length_append]
  omega

theorem Try.keys_clients (mb : Option Nat) (W : World) : Calls Try.prog 26 #[.map mb] W fun e w' => e = .returned (.func (.func 58) #[] #[.pointer (some ⟨W.heap.size, 0, none⟩)]) ∧ w' = W.alloc (.cells #[.map mb] 57) :=
  (callsIn_wide (n := 5)).1 (AnyZI.keys_in Try.keys26 Fence.wide 5 trivial rfl mb W)
set_option maxHeartbeats 1000000 in
theorem Try.sorted_clients {H : Type} (b nn : Nat) (D0 : DataW H) (R : Value → Option (DataW H × List MemPlace)) (w : World) (hown : w.ownsMap Try.prog 3 R b nn D0) (hmax : Maps.size D0 ≤ maxLen) (hbytes : Maps.size D0 * 8 ≤ 140737488355328) :
    CallsIn Fence.wide 5 Try.prog 25 #[.func (.func 58) #[] #[.pointer (some ⟨w.heap.size, 0, none⟩)]] (w.alloc (.cells #[.map (some b)] 57)) fun e w' => ∃ (v : Value) (ss : List Int), e = .returned v ∧ ss.Perm (intKeys D0) ∧
      w'.ownsRow (w.alloc (.cells #[.map (some b)] 57)).heap.size 3 1 v ss.length ((ss.mergeSort (fun x y => decide (x ≤ y))).map encZ) ∧ (v = .slice none 0 0 ↔ ss = []) ∧ Below (w.alloc (.cells #[.map (some b)] 57)).heap.size (w.alloc (.cells #[.map (some b)] 57)) w' := by
  have hbl := hown.lt
  have hseq : SeqGives Fence.wide 2 Try.prog 58 #[.pointer (some ⟨w.heap.size, 0, none⟩)] encZ (fun ss => ss.Perm (intKeys D0)) (Maps.size D0) (w.alloc (.cells #[.map (some b)] 57)) :=
    AnyZI.keys_gives (ρ := Try.keys26_ren) { Try.keys26 with } Fence.wide _ trivial rfl (by omega) w.heap.size b nn D0 _ (by simp) (by simp) (by
      obtain ⟨es, clock, hb, Ft, hs, hD⟩ := hown
      exact ⟨es, clock, (Below.heap_alloc _ _ b hbl).trans hb, Ft, hs, hD⟩)
  exact AnyZI.sorted_in Try.sorted25 Fence.wide 5 trivial trivial trivial trivial rfl (by omega) (Try.sorts25 _) (enters_of Try.func57 (by kernel_rfl) rfl) 58 #[.pointer (some ⟨w.heap.size, 0, none⟩)] trivial (enters_of Try.func58 (by kernel_rfl) rfl) _ _ hmax hbytes _ hseq
theorem keysof_clients (w : World) (cb : Nat) (m : List (Int × Value)) (hm : IsIMap w cb m) (hk : ∀ p ∈ m, InR p.1) (hl : m.length ≤ 1000000) :
    Calls Try.prog 25 #[.func (.func 58) #[] #[.pointer (some ⟨w.heap.size, 0, none⟩)]] (w.alloc (.cells #[.map (some cb)] 57)) fun r w' => ∃ v, r = .returned v ∧ w'.ownsRow w.heap.size 3 1 v m.length ((ikeys m).map (Value.int .i64)) ∧ Ext (fun _ => False) w w' := by
  obtain ⟨D, hown, hsz, hperm⟩ := hm.owns (H := Unit) hk (by simp only [maxLen]; omega)
  refine ((callsIn_wide (n := 5)).1 (Try.sorted_clients cb m.length D asNil w hown (by rw [hsz]; simp only [maxLen]; omega) (by rw [hsz]; omega))).mono ?_
  rintro e w' ⟨v, ss, rfl, hS, hrow, hnil, hb⟩
  have hP : ss.Perm (m.map Prod.fst) := hS.trans hperm
  have hl : ss.length = m.length := by rw [hP.length_eq]; simp
  have hi : ss.mergeSort (fun x y => decide (x ≤ y)) = ikeys m := mergeSort_of_perm_i hP
  refine ⟨v, rfl, ?_, Ext.of_below (((Below.refl _ w).alloc (Nat.le_refl _) _).trans (hb.mono (by simp)))⟩
  have := ownsRow_mono hrow (show w.heap.size ≤ _ by simp)
  rw [hl, hi] at this
  exact this
theorem len_clients {es : Array MapEntry} {clock mb : Nat} {l : List (Int × Value)} (hl : IntMap es l) (ty : TypeId) (W : World) (h : blk W mb = some (.map es clock)) :
    (Builtin.len_ #[57] ty #[.map (some mb)]).run Try.prog W = .ok (.int .i64 l.length) W := by
  simp [Builtin.len_, run_underlying Try.underlying57, MapKept.run_getObj_map h, Result.andThen, goInt, hl.size]
set_option maxRecDepth 100000 in
set_option maxHeartbeats 2000000 in
theorem rows_clients (w : World) (v : Value) (l : List UInt8) (cb : Nat) (cl : List (Int × Ans)) (hb : IsBytes w v l) (hl : l.length ≤ 2000000) (hm : IsIMap w cb (imap Ans.v cl)) (hn : (cl.map Prod.fst).Nodup) (hsz : cl.length ≤ 1000)
    (hbd : ∀ p ∈ cl, VOKc p) (hne : v.ownBlock ≠ some cb) :
    Calls Try.prog 42 #[v, .map (some cb), .func (.func 43) #[] #[]] w (AppPost w v (l ++ encNum cl.length ++ (ksort leI cl).flatMap encC)) := by
  have hkeys : ∀ p ∈ imap Ans.v cl, InR p.1 := fun p hp => by
    obtain ⟨q, hq, rfl⟩ := List.mem_map.1 hp
    have := hbd q hq
    unfold VOKc at this
    unfold InR; simp only; omega
  have hil : (imap Ans.v cl).length = cl.length := imap_length _ _
  have hkof := fun (W : World) (hx : Ext (fun b => v.ownBlock = some b) w W) => keysof_clients W cb (imap Ans.v cl) (hm.ext hx hne) hkeys (by rw [hil]; omega)
  rw [hil, ikeys_imap, ikeys_k hn] at hkof
  have hS : ∀ i p, (ksort leI cl)[i]? = some p → VOKc p ∧ iget cl p.1 = some p.2 := fun i p hp => by
    have hmem : p ∈ cl := (ksort_perm cl).mem_iff.1 (List.mem_of_getElem? hp)
    exact ⟨hbd p hmem, by rw [iget_k]; exact kget_of_mem hn hmem⟩
  have hSl : (ksort leI cl).length = cl.length := ksort_length _
  obtain ⟨es, clock, hbm, hml, hst⟩ := hm
  have hlen := len_clients (mb := cb) (clock := clock) hml
  rw [hil] at hlen
  have hlk := fun k => lookup_clients1 (cb := cb) (clock := clock) hml k
  have hcb := blk_lt hbm
  generalize ksort leI cl = S at *
  have Hb := Lib.hid hb
  have Hkof := Lib.hid hkof
  have HS := Lib.hid hS
  have HSl := Lib.hid hSl
  have Hbm := Lib.hid hbm
  have Hlk := Lib.hid hlk
  have Hne := Lib.hid hne
  obtain ⟨ab, cab, rfl⟩ := hb.shape
  obtain ⟨N, hN⟩ : ∃ N, cl.length = N := ⟨_, rfl⟩
  rw [hN] at hlen Hkof HSl hsz ⊢
  clear hb hkof hS hSl hlk hne hkeys hil hml hst hn hbd hN
  go_enter Try.func42, Try.ntmps42
  go_wp2_with fail
  clear hlen hbm
  refine (put1_any _ _ l _ _ N (Hb.out.ext (S := fun _ => False) ((Ext.refl _ w).alloc _) (fun _ _ h => h)) (by omega) (by simp) (by omega)).mono ?_
  rintro r w1 ⟨v1, rfl, hb1, hx1, ha1⟩
  have hx1' : Ext (fun b => (Value.slice ab l.length cab).ownBlock = some b) w w1 := ((Ext.refl _ w).alloc _).trans hx1
  have ha1' : ∀ g, v1.ownBlock = some g → (Value.slice ab l.length cab).ownBlock = some g ∨ w.heap.size ≤ g := fun g e => (ha1 g e).imp id (fun h => by simp at h; omega)
  have hn1 := encNum_length N (by omega)
  have hL : (l ++ encNum N).length ≤ 2000009 := by rw [List.length_append]; omega
  generalize l ++ encNum N = L at *
  have Hb1 := Lib.hid hb1
  have Hx1 := Lib.hid hx1'
  have Ha1 := Lib.hid ha1'
  clear hb1 hx1 ha1 hx1' ha1' hn1
  go_wp2_with fail
  refine (Try.keys_clients _ _).mono ?_
  rintro r w' ⟨rfl, hw⟩
  subst hw
  go_wp2_with fail
  refine (Hkof.out w1 Hx1.out).mono ?_
  rintro r w2 ⟨v2, rfl, hr2, hx2⟩
  obtain ⟨ak, ck, rfl⟩ := ownsRow_shape hr2
  have hB2 := Hb1.out.keep hx2
  have hX2 := Hx1.out.trans (ext_any hx2 _)
  have hD2 : ∀ g, (Value.slice ak N ck).ownBlock = some g → v1.ownBlock ≠ some g := fun g hg e => by
    have h1 := (World.ownsRow.lt hr2 g hg).1
    have h2 := (World.ownsRow.lt Hb1.out g e).2
    omega
  have HB2 := Lib.hid hB2
  have HX2 := Lib.hid hX2
  have HD2 := Lib.hid hD2
  have Hr2 := Lib.hid (ownsRow_mono hr2 (Nat.zero_le _))
  clear hr2 hx2 hB2 hX2 hD2 Hb1 Hx1 Hkof
  go_wp2_with fail
  go_loopg [0, 18] N (fun q v0 v18 wr => ∃ j : Nat, j ≤ N ∧ q = N - j ∧ v18 = .int .i64 j ∧ IsBytes wr v0 (L ++ (S.take j).flatMap encC) ∧ Ext (fun b => (Value.slice ab l.length cab).ownBlock = some b) w wr ∧
    (∀ g, v0.ownBlock = some g → (Value.slice ab l.length cab).ownBlock = some g ∨ w.heap.size ≤ g) ∧ wr.ownsRow 0 3 1 (.slice ak N ck) N ((S.map Prod.fst).map (Value.int .i64)) ∧ (∀ g, (Value.slice ak N ck).ownBlock = some g → v0.ownBlock ≠ some g))
  case atStart => exact ⟨0, Nat.zero_le _, rfl, rfl, by simpa using HB2.out, HX2.out, Ha1.out, Hr2.out, HD2.out⟩
  case round =>
    obtain ⟨j, hj, rfl, rfl, hB, hX, hA, hR, hD⟩ := hrel
    clear HB2 HX2 Ha1 Hr2 HD2
    by_cases hjN : j < N
    · obtain ⟨g, rfl, hgl⟩ := row_form hR (by omega)
      obtain ⟨p, hp⟩ : ∃ p, S[j]? = some p := ⟨_, List.getElem?_eq_getElem (by rw [HSl.out]; exact hjN)⟩
      have hcell : wr.cell? ⟨g, j, none⟩ = some (.int .i64 p.1) := by
        have := World.ownsRow.cells hR (g := g) rfl j (.int .i64 p.1) (by rw [List.getElem?_map, List.getElem?_map, hp]; rfl)
        rwa [Addr.add_lit, Nat.zero_add] at this
      obtain ⟨hok, hget⟩ := HS.out j p hp
      have hst := flat_step (f := encC) hp L
      have hmb : blk wr cb = some (.map es clock) := (hX.blk hcb Hne.out).trans Hbm.out
      have hlk := Hlk.out p.1 wr hmb
      rw [hget] at hlk
      have hj0 : (0 : Int) ≤ (j : Int) := by omega
      have hj1 : (j : Int) < (N : Int) := by omega
      have hlen3 : (L ++ (S.take j).flatMap encC).length ≤ 4000000 := by
        have h2 := flat_take_le (f := encC) (l := S) (B := 1027) (N := 1000) (fun k hk => by
          obtain ⟨i, hi⟩ := List.getElem?_of_mem hk
          exact encC_len1 (HS.out i k hi).1) (by rw [HSl.out]; exact hsz) j
        rw [List.length_append]; omega
      obtain ⟨k, n, s⟩ := p
      unfold VOKc at hok
      simp only [Option.getD_some, Ans.v] at hlk hok hcell
      obtain ⟨kn, rfl⟩ := Int.eq_ofNat_of_zero_le (show 0 ≤ k by omega)
      obtain ⟨nn, rfl⟩ := Int.eq_ofNat_of_zero_le (show 0 ≤ n by omega)
      generalize L ++ (S.take j).flatMap encC = M at *
      have Hst := Lib.hid hst
      have HB := Lib.hid hB
      have HX := Lib.hid hX
      have HA := Lib.hid hA
      have HR := Lib.hid hR
      have HD := Lib.hid hD
      have Hok := Lib.hid hok
      clear hst hB hX hA hR hD hp hget hok hmb
      go_wp2_with fail
      refine (clo1_any wr _ M kn nn s HB.out (by omega) (by have := Hok.out; omega) (by have := Hok.out; omega) (by have := Hok.out; omega)).mono ?_
      rintro r w5 ⟨v5, rfl, hb5, hx5, ha5⟩
      have hB5 : IsBytes w5 v5 (L ++ (S.take (j + 1)).flatMap encC) := by rw [Hst.out]; exact hb5
      have hX5 : Ext (fun b => (Value.slice ab l.length cab).ownBlock = some b) w w5 := HX.out.trans' hx5 (fun k hk e => (HA.out k e).elim id (fun h => absurd hk (Nat.not_lt.2 h)))
      have hR5 := ownsRow_ext HR.out hx5 HD.out
      have hA5 : ∀ gg, v5.ownBlock = some gg → (Value.slice ab l.length cab).ownBlock = some gg ∨ w.heap.size ≤ gg := fun gg hg => (ha5 gg hg).elim (HA.out gg) (fun h => .inr (Nat.le_trans HX.out.size h))
      have hD5 : ∀ gg, (Value.slice (some ⟨g, 0, none⟩) N ck).ownBlock = some gg → v5.ownBlock ≠ some gg := fun gg hg e => by
        have h1 := (World.ownsRow.lt HR.out gg hg).2
        exact (ha5 gg e).elim (HD.out gg hg) (fun h => by omega)
      have H1 := Lib.hid hB5
      have H2 := Lib.hid hX5
      have H3 := Lib.hid hR5
      have H4 := Lib.hid hA5
      have H5 := Lib.hid hD5
      clear hb5 hx5 ha5 hB5 hX5 hR5 hA5 hD5 hlk hcell
      go_wp2
      go_roundg (N - (j + 1))
      case measure => omega
      case rel => exact ⟨j + 1, by omega, rfl, by go_num, H1.out, H2.out, H4.out, H3.out, H5.out⟩
    · rw [List.take_of_length_le (by rw [HSl.out]; omega)] at hB
      have H := Lib.hid (And.intro hB (And.intro hX hA))
      clear hB hX hA hR hD
      go_wp2
      go_ret
      exact ⟨_, rfl, H.out⟩
end Go.Proofs.Ythligdgkhmgagaa
