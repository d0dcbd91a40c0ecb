/-
  SessionLists: the plain law (what a table keeps) and the walk. Conditions: the arguments' cells are as given.
-/
import Derived.Test.YthligdgkhmgagaaSG
namespace Go.Proofs.Ythligdgkhmgagaa
open Go.RowKit Go.MapKept
open Go.ChangeMaps (setBlock)

/-! ### the plain law -/
theorem ownsRow_shape {w : World} {base : Nat} {e : TypeId} {size : Nat} {v : Value} {n : Nat} {xs : List Value} (h : w.ownsRow base e size v n xs) : ∃ ao cap, v = .slice ao n cap := by
  rcases h.2 with ⟨h1, h2⟩ | ⟨g, c, cur, h1, _⟩
  · exact ⟨none, 0, by rw [h1, h2]⟩
  · exact ⟨_, _, h1⟩
structure TGood (T : Tbl) : Prop where
  key : ∀ p ∈ T.cl, 1 ≤ p.1 ∧ p.1 ≤ 4611686018427387904 ∧ 1 ≤ p.2.n ∧ p.2.n ≤ 4611686018427387904
  nodup : (T.cl.map Prod.fst).Nodup
theorem TGood.nil : TGood T0 := ⟨by simp [T0], by simp [T0]⟩
theorem answer_cases (T : Tbl) (a b : Int) (s : ByteArray) :
    (∃ c, ¬ c = 0 ∧ answerM T a b s = (T, c)) ∨ (1 ≤ a ∧ a ≤ 4611686018427387904 ∧ 1 ≤ b ∧ b ≤ 4611686018427387904 ∧ lastM T a < b ∧ answerM T a b s = (⟨iput T.cl a ⟨b, s⟩, T.gen, T.st⟩, 0)) := by
  unfold answerM
  by_cases h : inB a b = false
  · rw [if_pos h]; exact .inl ⟨1, by omega, rfl⟩
  · rw [if_neg h]
    by_cases h1 : b ≤ lastM T a
    · rw [if_pos h1]; exact .inl ⟨9, by omega, rfl⟩
    · rw [if_neg h1]
      have : inB a b = true := by simpa using h
      unfold inB inI at this
      simp at this
      exact .inr ⟨by omega, by omega, by omega, by omega, by omega, rfl⟩
theorem TGood.put {T : Tbl} (h : TGood T) {a b : Int} {s : ByteArray} (ha : 1 ≤ a ∧ a ≤ 4611686018427387904 ∧ 1 ≤ b ∧ b ≤ 4611686018427387904) (g : Int) (st : List (Int × Int)) : TGood ⟨iput T.cl a ⟨b, s⟩, g, st⟩ :=
  ⟨fun p hp => (mem_iput hp).elim (fun e => by subst e; exact ha) (h.key p), iput_nodup h.nodup⟩
theorem le_trans_b : ∀ a b c : Int, decide (a ≤ b) = true → decide (b ≤ c) = true → decide (a ≤ c) = true := fun a b c h1 h2 => by simp at *; omega
theorem le_total_b : ∀ a b : Int, (decide (a ≤ b) || decide (b ≤ a)) = true := fun a b => by simp; omega
theorem ikeys_perm {α : Type} (m : List (Int × α)) : (ikeys m).Perm (m.map Prod.fst) := List.mergeSort_perm _ _
theorem ikeys_lt {α : Type} {m : List (Int × α)} (h : (m.map Prod.fst).Nodup) : (ikeys m).Pairwise (fun x y => x < y) := by
  have h1 : (ikeys m).Pairwise (fun x y => decide (x ≤ y) = true) := List.pairwise_mergeSort le_trans_b le_total_b _
  have h2 : (ikeys m).Nodup := (ikeys_perm m).nodup_iff.2 h
  refine (h1.and h2).imp ?_
  intro a b hab
  have := hab.1; simp at this
  have := hab.2
  omega
theorem ikeys_mem {α : Type} {m : List (Int × α)} {k : Int} (h : k ∈ ikeys m) : ∃ v, iget m k = some v ∧ (k, v) ∈ m := by
  have : k ∈ m.map Prod.fst := (ikeys_perm m).mem_iff.1 h
  obtain ⟨v, hv⟩ := Option.isSome_iff_exists.1 (iget_isSome.2 this)
  exact ⟨v, hv, iget_mem hv⟩
theorem lookup_answered {es : Array MapEntry} {clock mb : Nat} {l : List (Int × Int)} (hl : IntMap es (imap codeV l)) (k : Int) (W : World) (hW : blk W mb = some (.map es clock)) :
    (Instr.lookup 27 (.map (some mb)) (.int .i64 k) false).run Try.prog W = .ok (.int .i64 ((iget l k).getD 0)) W := by
  have := run_lookup_int (P := Try.prog) Try.underlying27 Try.underlying3 hW hl (show (zeroValue 3).run Try.prog W = .ok (.int .i64 0) W by kernel_rfl) k false
  rw [iget_imap] at this
  cases h : iget l k <;> simpa [h, codeV] using this
theorem run_len_imap {es : Array MapEntry} {clock mb : Nat} {l : List (Int × Value)} (hl : IntMap es l) (ty : TypeId) (W : World) (h : blk W mb = some (.map es clock)) :
    (Builtin.len_ #[27] ty #[.map (some mb)]).run Try.prog W = .ok (.int .i64 l.length) W := by
  simp [Builtin.len_, run_underlying Try.underlying27, MapKept.run_getObj_map h, Result.andThen, goInt, hl.size]
theorem imap_length {α β : Type} (f : α → β) (l : List (Int × α)) : (imap f l).length = l.length := by simp [imap]

set_option maxRecDepth 100000 in
set_option maxHeartbeats 4000000 in
theorem lists_core (w : World) (ao : Option Addr) (n cap : Nat) (l : List SOp)
    (hfew : ∀ W, Ext (fun _ => False) w W → Calls Try.prog 9 #[.slice ao n cap, .int .i64 30] W fun r w' => r = .returned (.bool (fewB l 30)) ∧ w' = W)
    (hn : n = l.length) (hcells : 0 < l.length → ∃ b off, ao = some ⟨b, off, none⟩ ∧ Ops w b off l ∧ b < w.heap.size) :
    Calls Try.prog 3 #[.slice ao n cap] w (AwakePost w) := by
  subst hn
  have hmm := @run_makeMap Try.prog
  have Hfew := Lib.hid hfew
  have Hcells := Lib.hid hcells
  clear hfew hcells
  go_enter Try.func3, Try.ntmps3
  go_wp2_with fail
  refine (awake_any _).mono ?_
  rintro r w1 ⟨rfl, hx1⟩
  go_wp2_with fail
  refine (Hfew.out _ hx1).mono ?_
  rintro r w' ⟨rfl, hw⟩; obtain rfl := hw.symm
  cases hf : fewB l 30 with
  | false =>
    have Hx1 := Lib.hid hx1
    clear hf hx1
    go_wp2
    go_ret
    exact ⟨rfl, Hx1.out⟩
  | true =>
    have hl30 : l.length ≤ 30 := by unfold fewB at hf; simp at hf; exact hf.2
    go_wp2_with fail
    refine (new_any w1).mono ?_
    rintro r w2 ⟨tb, cb, sb, rfl, hs2, hx2, h1, h2, h3⟩
    have hz1 := hx1.size
    have hxw := hx1.trans hx2
    have Hs2 := Lib.hid hs2
    have Hxw := Lib.hid hxw
    clear hf hs2 hx1 hx2 hxw
    go_wp2_with fail
    have hs3 := Hs2.out.keep ((Ext.refl (fun _ => False) w2).alloc (.map #[] 0))
    have ha3 : IsIMap (w2.alloc (.map #[] 0)) w2.heap.size (imap codeV (imap Ans.n T0.cl)) := IsIMap.new w2
    have hx3 := Hxw.out.alloc (.map #[] 0)
    have hlt2 := Hs2.out.lt
    have hd : w2.heap.size ≠ tb ∧ w2.heap.size ≠ cb ∧ w2.heap.size ≠ sb := by omega
    have hz2 := Hxw.out.size
    have k2 : w.heap.size ≤ cb := Nat.le_trans hz1 h2
    generalize w2.heap.size = am at *
    generalize w2.alloc (.map #[] 0) = w3 at *
    have Hs3 := Lib.hid hs3
    have Ha3 := Lib.hid ha3
    have Hx3 := Lib.hid hx3
    have Hd := Lib.hid hd
    clear hs3 ha3 hx3 Hs2 Hxw hlt2 hd h1 h2 h3 hmm hz1
    go_loopg [5] l.length (fun g v5 wr => ∃ (j : Nat) (T : Tbl), j ≤ l.length ∧ g = l.length - j ∧ v5 = .int .i64 j ∧ IsTable wr tb cb sb T ∧ IsIMap wr am (imap codeV (imap Ans.n T.cl)) ∧ TGood T ∧ T.cl.length ≤ j ∧ Ext (fun _ => False) w wr)
    case atStart => exact ⟨0, T0, Nat.zero_le _, rfl, rfl, Hs3.out, Ha3.out, TGood.nil, Nat.le_refl _, Hx3.out⟩
    case round =>
      obtain ⟨j, T, hj, rfl, rfl, hs, ha, hg, hlT, hx⟩ := hrel
      clear Hs3 Ha3 Hx3
      by_cases hjl : j < l.length
      · obtain ⟨b, off, rfl, ho, hb⟩ := Hcells.out (by omega)
        have hlr := ho.ext hx (fun _ => ⟨hb, id⟩)
        obtain ⟨c0, c1, c2, c3, c4⟩ := hlr.at j hjl
        obtain ⟨x, hxe⟩ : ∃ x, l[j] = x := ⟨_, rfl⟩
        rw [hxe] at c0 c1 c2 c3 c4
        obtain ⟨xk, xa, xb, xs, xc⟩ := x
        simp only at c0 c1 c2 c3 c4
        have j0 : (0 : Int) ≤ (j : Int) := by omega
        have j1 : (j : Int) < (l.length : Int) := by omega
        have hbl : b < wr.heap.size := Nat.lt_of_lt_of_le hb hx.size
        have Hs := Lib.hid hs
        have Ha := Lib.hid ha
        have Hx := Lib.hid hx
        have Hlr := Lib.hid hlr
        have Hxe := Lib.hid hxe
        clear hs ha hx hxe ho hlr c4
        by_cases h1 : xk = 1
        · subst h1
          rcases answer_cases T xa xb xs with ⟨code, hcode, hans⟩ | ⟨q1, q2, q3, q4, q5, hans⟩
          · have Hans := Lib.hid hans
            clear hans
            go_wp2_with fail
            refine wp_region_tail 23 (by kernel_rfl) (by kernel_rfl) ?_
            simp only [List.take_succ_cons, List.take_zero, List.drop_succ_cons, List.drop_zero]
            repeat still_step
            refine wpStill_nil ?_
            go_wp2_with fail
            have hcall := answer_any wr.drew tb cb sb T (Hs.out.keep ((Ext.refl _ _).drew)) xa xb xs
            rw [Hans.out] at hcall
            refine hcall.mono ?_
            rintro r w5 ⟨rfl, hs5, hx5⟩
            have hx5' := (Hx.out.drew).own hx5 (fun k e => by omega)
            have ha5 := (Ha.out.ext (S := fun _ => False) ((Ext.refl _ wr).drew) id).ext hx5 Hd.out.2.1
            have Hs5 := Lib.hid hs5
            have Hx5 := Lib.hid hx5'
            have Ha5 := Lib.hid ha5
            clear hs5 hx5 hx5' ha5 hcall c0 c1 c2 c3 Hs Ha Hx Hans
            go_wp2
            go_roundg (l.length - (j + 1))
            case measure => omega
            case rel => exact ⟨j + 1, T, by omega, rfl, by go_num, Hs5.out, Ha5.out, hg, by omega, Hx5.out⟩
          · have Hans := Lib.hid hans
            clear hans
            go_wp2_with fail
            refine wp_region_tail 23 (by kernel_rfl) (by kernel_rfl) ?_
            simp only [List.take_succ_cons, List.take_zero, List.drop_succ_cons, List.drop_zero]
            repeat still_step
            refine wpStill_nil ?_
            go_wp2_with fail
            have hcall := answer_any wr.drew tb cb sb T (Hs.out.keep ((Ext.refl _ _).drew)) xa xb xs
            rw [Hans.out] at hcall
            refine hcall.mono ?_
            rintro r w5 ⟨rfl, hs5, hx5⟩
            have hx5' := (Hx.out.drew).own hx5 (fun k e => by omega)
            have ha5 := (Ha.out.ext (S := fun _ => False) ((Ext.refl _ wr).drew) id).ext hx5 Hd.out.2.1
            have hlt := Hs.out.lt
            have hbc : b ≠ cb := by omega
            have hlr5 := (Hlr.out.ext (S := fun _ => False) ((Ext.refl _ wr).drew) (fun _ => ⟨hbl, id⟩)).ext hx5 (fun _ => ⟨hbl, hbc⟩)
            obtain ⟨d0, d1, d2, d3, d4⟩ := hlr5.at j hjl
            rw [Hxe.out] at d1 d2
            simp only at d1 d2
            obtain ⟨es, clock, hab, hal, hast⟩ := ha5
            obtain ⟨es', clock', hup, hl', hst'⟩ := run_update_int (P := Try.prog) (b := am) (clock := clock) Try.underlying27 Try.underlying3 hal hast xa (codeV xb)
            rw [show codeV xb = codeV (Ans.n ⟨xb, xs⟩) from rfl, iput_imap, iput_imap] at hl'
            have hbl5 : b < w5.heap.size := Nat.lt_of_lt_of_le hbl hx5.size
            have Hs5 := Lib.hid hs5
            have Hx5 := Lib.hid hx5'
            have Hl' := Lib.hid (And.intro hl' hst')
            have Hab := Lib.hid hab
            simp only [codeV] at hup
            clear hs5 hx5' hcall c0 c1 c2 c3 Hs Hx Hans d0 d3 d4 hx5 hal hast hl' hst' hlt hlr5 Ha Hlr Hxe
            go_wp2_with fail
            refine wp_region_tail 11 (by kernel_rfl) (by kernel_rfl) ?_
            simp only [List.take_succ_cons, List.take_zero, List.drop_succ_cons, List.drop_zero]
            repeat still_step
            refine wpStill_nil ?_
            go_wp2
            have hx6 : Ext (fun k => k = am) w5 (setBlock w5.drew am (.map es' clock')) := ((Ext.refl _ w5).drew).setBlock _ _ (fun _ => rfl)
            have hs6 := Hs5.out.ext hx6 (fun k hk e => by rw [show k = am from e] at hk; exact hk.elim Hd.out.1 (fun h => h.elim Hd.out.2.1 Hd.out.2.2))
            have ha6 : IsIMap (setBlock w5.drew am (.map es' clock')) am (imap codeV (imap Ans.n (iput T.cl xa ⟨xb, xs⟩))) := ⟨es', clock', blk_setBlock_same (w := w5.drew) hab _, Hl'.out⟩
            have hx7 := Hx5.out.own hx6 (fun k e => by omega)
            have hln := iput_length T.cl xa ⟨xb, xs⟩
            have Hs6 := Lib.hid hs6
            have Ha6 := Lib.hid ha6
            have Hx7 := Lib.hid hx7
            clear hs6 ha6 hx7 hx6 hab hup d1 d2 Hs5 Hx5
            go_roundg (l.length - (j + 1))
            case measure => omega
            case rel => exact ⟨j + 1, _, by omega, rfl, by go_num, Hs6.out, Ha6.out, hg.put ⟨q1, q2, q3, q4⟩ _ _, Nat.le_trans hln (by omega), Hx7.out⟩
        · go_wp2_with fail
          go_quiet (fail)
          go_wp2
          go_roundg (l.length - (j + 1))
          case measure => omega
          case rel => exact ⟨j + 1, T, by omega, rfl, by go_num, Hs.out.keep ((Ext.refl _ _).drewN _), Ha.out.ext (S := fun _ => False) ((Ext.refl _ _).drewN _) id, hg, by omega, Hx.out.drewN _⟩
      · have hkeys : ∀ p ∈ T.cl, InR p.1 := fun p hp => by have := hg.key p hp; unfold InR; omega
        have Hs := Lib.hid hs
        have Ha := Lib.hid ha
        have Hx := Lib.hid hx
        have Hkeys := Lib.hid hkeys
        clear hs ha hx hkeys
        go_wp2_with fail
        refine (clients_any wr tb cb sb T Hs.out Hkeys.out (by omega)).mono ?_
        rintro r w5 ⟨v, rfl, hr5, hn5, hx5⟩
        rw [ikeys_length] at hr5
        obtain ⟨ao5, cap5, rfl⟩ := ownsRow_shape hr5
        have hs5 := Hs.out.keep hx5
        have ha5 := Ha.out.ext hx5 id
        have hx6 := Hx.out.trans hx5
        obtain ⟨es, clock, hab, hal, hast⟩ := ha5
        have hln := run_len_imap (mb := am) (clock := clock) hal
        rw [imap_length, imap_length] at hln
        have hlk := fun k => lookup_answered (mb := am) (clock := clock) hal k
        have Hr5 := Lib.hid (ownsRow_mono hr5 (Nat.zero_le _))
        have Hs5 := Lib.hid hs5
        have Hx6 := Lib.hid hx6
        have Hlk := Lib.hid hlk
        have hnl : T.cl.length ≤ 30 := by omega
        clear hr5 hn5 hx5 hs5 hx6 hal hast hlk Hs Ha Hx Hkeys
        go_wp2_with fail
        clear hln
        obtain ⟨N, hN⟩ : ∃ N, T.cl.length = N := ⟨_, rfl⟩
        have hNl : (ikeys T.cl).length = N := by rw [ikeys_length, hN]
        rw [hN] at Hr5 hnl ⊢
        have HNl := Lib.hid hNl
        clear hN hNl hlT
        go_loopg [67] N (fun g v67 wq => ∃ i : Nat, i ≤ N ∧ g = N - i ∧ v67 = .int .i64 i ∧ IsTable wq tb cb sb T ∧ blk wq am = some (.map es clock) ∧ wq.ownsRow 0 3 1 (.slice ao5 N cap5) N ((ikeys T.cl).map (Value.int .i64)) ∧ Ext (fun _ => False) w wq)
        case atStart => exact ⟨0, Nat.zero_le _, rfl, rfl, Hs5.out, hab, Hr5.out, Hx6.out⟩
        case round =>
          obtain ⟨i, hi, rfl, rfl, hs, hab', hr, hx⟩ := hrel
          clear Hs5 hab Hr5 Hx6
          by_cases hil : i < N
          · obtain ⟨g5, hg5⟩ : ∃ g, ao5 = some ⟨g, 0, none⟩ := by
              rcases hr.2 with ⟨_, h⟩ | ⟨g, c, cur, h, _⟩
              · omega
              · cases h; exact ⟨g, rfl⟩
            subst hg5
            have hcell : ∀ q (hq : q < (ikeys T.cl).length), wr.cell? ⟨g5, q, none⟩ = some (.int .i64 (ikeys T.cl)[q]) := fun q hq => by
              have := World.ownsRow.cells hr (g := g5) rfl q (.int .i64 (ikeys T.cl)[q]) (by rw [List.getElem?_map, List.getElem?_eq_getElem hq]; rfl)
              rwa [Addr.add_lit, Nat.zero_add] at this
            have hil' : i < (ikeys T.cl).length := by rw [HNl.out]; exact hil
            obtain ⟨v, hv, hvm⟩ := ikeys_mem (List.getElem_mem hil')
            have hv1 := (hg.key _ hvm).2.2.1
            simp only at hv1
            have hpw := List.pairwise_iff_getElem.1 (ikeys_lt hg.nodup)
            have hci := hcell i hil'
            have hprev : ∀ i', i = i' + 1 → ∃ p : Int, wr.cell? ⟨g5, i', none⟩ = some (.int .i64 p) ∧ p < (ikeys T.cl)[i] := fun i' e => ⟨_, hcell i' (by omega), hpw i' i (by omega) hil' (by omega)⟩
            have hlkv : ∀ W : World, blk W am = some (.map es clock) → (Instr.lookup 27 (.map (some am)) (.int .i64 (ikeys T.cl)[i]) false).run Try.prog W = .ok (.int .i64 v.n) W := fun W hW => by
              have := Hlk.out (ikeys T.cl)[i] W hW
              rw [iget_imap, hv] at this
              exact this
            have hlast : ∀ n, Calls Try.prog 13 #[.pointer (some ⟨tb, 0, none⟩), .int .i64 (ikeys T.cl)[i]] (wr.drewN n) fun e w'' => e = .returned (.int .i64 v.n) ∧ ∃ m, w'' = wr.drewN m := fun n => by
              have := last_any (wr.drewN n) tb cb sb T (hs.keep ((Ext.refl _ _).drewN _)) (ikeys T.cl)[i]
              rw [show lastM T (ikeys T.cl)[i] = v.n by unfold lastM; rw [hv]; rfl] at this
              exact Calls.quiet_of_same this
            obtain ⟨k, hk⟩ : ∃ k, (ikeys T.cl)[i] = k := ⟨_, rfl⟩
            rw [hk] at hci hprev hlkv hlast
            have Hprev := Lib.hid hprev
            have Hlast := Lib.hid hlast
            have Hs := Lib.hid hs
            have Hr := Lib.hid hr
            have Hx := Lib.hid hx
            have hne0 : (v.n == 0) = false := by simp; omega
            clear hk hv hvm hcell hpw hprev hlast hs hr hx hil'
            have i0 : (0 : Int) ≤ (i : Int) := by omega
            have i1 : (i : Int) < (N : Int) := by omega
            obtain rfl | ⟨i', rfl⟩ : i = 0 ∨ ∃ i', i = i' + 1 := by cases i; exact .inl rfl; exact .inr ⟨_, rfl⟩
            · clear Hprev
              go_wp2_with fail
              go_quiet ((go_at_call 13; exact Hlast.out _))
              go_wp2
              go_roundg (N - 1)
              case measure => omega
              case rel => exact ⟨1, by omega, rfl, by go_num, Hs.out.keep ((Ext.refl _ _).drewN _), hab', ownsRow_ext (S := fun _ => False) Hr.out ((Ext.refl _ _).drewN _) (fun _ _ h => h), Hx.out.drewN _⟩
            · obtain ⟨p, hp, hpk⟩ := Hprev.out i' rfl
              clear Hprev
              have e1 : IntKind.i64.wrap ((i' : Int) + 1 - 1) = i' := by rw [IntWalk.i64_in _ (by omega)]; omega
              have e2 : IntKind.i64.wrap (((i' + 1 : Nat) : Int) - 1) = i' := by rw [IntWalk.i64_in _ (by omega)]; omega
              have e3 : (0 : Int) ≤ (i' : Int) := by omega
              have e4 : (i' : Int) < (N : Int) := by omega
              have e5 : decide (k ≤ p) = false := by simp; omega
              have e6 : ((i' : Int)).toNat = i' := by omega
              go_wp2_with fail
              go_quiet ((go_at_call 13; exact Hlast.out _))
              clear e1 e2 e5 e6
              go_wp2
              go_roundg (N - (i' + 1 + 1))
              case measure => omega
              case rel => exact ⟨i' + 1 + 1, by omega, rfl, by go_num, Hs.out.keep ((Ext.refl _ _).drewN _), hab', ownsRow_ext (S := fun _ => False) Hr.out ((Ext.refl _ _).drewN _) (fun _ _ h => h), Hx.out.drewN _⟩
          · have h0 : lastM T 0 = 0 := by
              unfold lastM
              cases h : iget T.cl 0 with
              | none => rfl
              | some v => have := (hg.key _ (iget_mem h)).1; simp at this
            have hlast := last_any wr tb cb sb T hs 0
            rw [h0] at hlast
            have Hlast := Lib.hid hlast
            have Hx := Lib.hid hx
            clear hlast hx hs hr h0
            go_wp2_with fail
            refine Hlast.out.mono ?_
            rintro r w' ⟨rfl, hw⟩; obtain rfl := hw.symm
            go_wp2
            go_ret
            exact ⟨rfl, Hx.out⟩
end Go.Proofs.Ythligdgkhmgagaa
