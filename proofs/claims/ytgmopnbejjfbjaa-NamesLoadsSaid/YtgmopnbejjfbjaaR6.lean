/-
  The reference of package names: by value (IsRef45); epochs, reading, MayCut. Conditions: IsRef45.
-/
import Derived.Test.YtgmopnbejjfbjaaR5
namespace Go.Proofs.Ytgmopnbejjfbjaa
open Go.RowKit Go.MapKept
open Go.ChangeMaps (setBlock)

def valN (p : ByteArray × Slot) : ByteArray × List Ep := (p.1, p.2.l)
/-- the reference's registry, by value -/
def IsRef45 (w : World) (v : Value) (M : List (ByteArray × List Ep)) : Prop := ∃ R, IsRows45 w v R ∧ R.map valN = ksort leS M
theorem IsRef45.keep {w w' : World} {v : Value} {M} (h : IsRef45 w v M) (hx : Ext (fun _ => False) w w') : IsRef45 w' v M := by
  obtain ⟨R, h1, h2⟩ := h
  exact ⟨R, h1.keep hx, h2⟩
theorem kget_valN (R : List (ByteArray × Slot)) (n : ByteArray) : kget (R.map valN) n = (kget R n).map Slot.l := by
  induction R with
  | nil => rfl
  | cons p r ih =>
    obtain ⟨k, s⟩ := p
    simp only [List.map_cons, valN, kget]
    split
    · rfl
    · exact ih
theorem rising_valN {R : List (ByteArray × Slot)} {M : List (ByteArray × List Ep)} (hn : (M.map Prod.fst).Nodup) (h : R.map valN = ksort leS M) : Rising R := by
  have h1 := ksort_lt linS hn
  rw [← h] at h1
  have h2 := List.pairwise_map.1 h1
  exact h2.imp (fun h => h)
theorem kget_ref {R : List (ByteArray × Slot)} {M : List (ByteArray × List Ep)} (hn : (M.map Prod.fst).Nodup) (h : R.map valN = ksort leS M) (n : ByteArray) : (kget R n).map Slot.l = assoc M n := by
  rw [← kget_valN, h, kget_ksort hn, assoc_k]
theorem setN_val {R : List (ByteArray × Slot)} {M : List (ByteArray × List Ep)} (hn : (M.map Prod.fst).Nodup) (h : R.map valN = ksort leS M) (n : ByteArray) (s : Slot) : (setN R n s).map valN = ksort leS (aput M n s.l) := by
  rw [aput_k, ksort_kput linS hn, ← h]
  unfold setN krest kpost kpre
  rw [List.map_append, List.map_cons, List.takeWhile_map, List.dropWhile_map, List.filter_map]
  rfl
theorem ref_length {R : List (ByteArray × Slot)} {M : List (ByteArray × List Ep)} (h : R.map valN = ksort leS M) : R.length = M.length := by
  have := congrArg List.length h
  rw [List.length_map, ksort_length] at this
  exact this
def rslot (R : List (ByteArray × Slot)) (n : ByteArray) : Slot := (kget R n).getD ⟨.slice none 0 0, []⟩
theorem rslot_l {R : List (ByteArray × Slot)} {M : List (ByteArray × List Ep)} (hn : (M.map Prod.fst).Nodup) (h : R.map valN = ksort leS M) (n : ByteArray) : (rslot R n).l = (assoc M n).getD [] := by
  rw [← kget_ref hn h]
  unfold rslot
  cases kget R n <;> rfl
theorem rslot_owns {w : World} {v : Value} {R : List (ByteArray × Slot)} (h : IsRows45 w v R) (n : ByteArray) : w.ownsRow 0 110 3 (rslot R n).v (rslot R n).l.length (eps (rslot R n).l) := by
  unfold rslot
  cases hk : kget R n with
  | none => exact World.ownsRow_nil _ _ _ _
  | some s => exact h.2 (n, s) (kget_mem hk)
set_option maxRecDepth 100000 in
set_option maxHeartbeats 2000000 in
theorem epochs_any (w : World) (v : Value) (R : List (ByteArray × Slot)) (hr : IsRows45 w v R) (hg : Rising R) (hl : R.length ≤ 1000000) (n : ByteArray) :
    Calls Try.prog 42 #[v, .string n] w (StayPost w (rslot R n).v) := by
  have hfind := fun (W : World) (hx : Ext (fun _ => False) w W) => find_any W v R (hr.keep hx) hg hl n
  obtain ⟨ao, cap, rfl⟩ := ownsRow_shape hr.1
  have hPN : posN R n ≤ R.length := kpre_le _ _
  have hc := hr.1
  have hyes : ∀ s, kget R n = some s → R[posN R n]? = some (n, s) := fun s hs => posN_some hg hs
  have hb : ∀ s, (kget R n) = some s → (rslot R n).v = s.v := fun s hs => by unfold rslot; rw [hs]; rfl
  have hb0 : (kget R n) = none → (rslot R n).v = .slice none 0 0 := fun hs => by unfold rslot; rw [hs]; rfl
  obtain ⟨N, hN⟩ : ∃ N, R.length = N := ⟨_, rfl⟩
  rw [hN] at hfind hPN hl hc ⊢
  generalize posN R n = P at *
  have Hfind := Lib.hid hfind
  have HN := Lib.hid hN
  have Hc := Lib.hid hc
  cases hk : kget R n with
  | none =>
    rw [hk] at Hfind
    rw [hb0 hk]
    clear hfind hyes hb hb0 hN hg hr hc hk
    go_enter Try.func42, Try.ntmps42
    go_wp2_with fail
    refine (Hfind.out _ (Ext.refl _ w)).mono ?_
    rintro r w3 ⟨rfl, hx3⟩
    have Hx3 := Lib.hid hx3
    clear hx3
    go_wp2
    go_ret
    exact ⟨rfl, Hx3.out⟩
  | some s =>
    rw [hk] at Hfind
    rw [hb s hk]
    have hp := hyes s hk
    obtain ⟨hP, _⟩ := List.getElem?_eq_some_iff.1 hp
    rw [hN] at hP
    obtain ⟨g, rfl, hlt⟩ := row_form hc (by omega)
    have e1 : w.cell? ⟨g, P * 2 + 1, none⟩ = some s.v := row_at cellsN_len hc P hp 1 (by omega) rfl
    have hs := row_shape' (hr.2 _ (List.mem_of_getElem? hp))
    obtain ⟨sl, hsl⟩ : ∃ sl, s.v = sl := ⟨_, rfl⟩
    rw [hsl] at e1 hs ⊢
    have He := Lib.hid e1
    obtain ⟨a1, m1, c1, rfl, _⟩ := hs
    clear hfind hyes hb hb0 hN hg hr hc hk hp e1
    go_enter Try.func42, Try.ntmps42
    go_wp2_with fail
    refine (Hfind.out _ (Ext.refl _ w)).mono ?_
    rintro r w3 ⟨rfl, hx3⟩
    have e2 := (hx3.cell (p := ⟨g, P * 2 + 1, none⟩) hlt id).trans He.out
    have Hx3 := Lib.hid hx3
    have j0 : (0 : Int) ≤ (P : Int) := by omega
    have j1 : (P : Int) < (N : Int) := by omega
    clear hx3
    go_wp2
    go_ret
    exact ⟨rfl, Hx3.out⟩
theorem rreading_any (n : Int) (w : World) : Calls Try.prog 41 #[.int .i64 n] w fun e w' => e = .returned (.bool (readB n)) ∧ w' = w := by
  by_cases h1 : 0 ≤ n
  · by_cases h2 : n ≤ 1099511627776
    · have hr : readB n = true := by simp [readB, h1, h2]
      rw [hr]; clear hr
      go_enter Try.func41, Try.ntmps41
      go_wp2
      go_ret
      exact ⟨rfl, rfl⟩
    · have hr : readB n = false := by simp [readB, h2]
      rw [hr]; clear hr
      go_enter Try.func41, Try.ntmps41
      go_wp2
      go_ret
      exact ⟨rfl, rfl⟩
  · have hr : readB n = false := by simp [readB, h1]
    rw [hr]; clear hr
    go_enter Try.func41, Try.ntmps41
    go_wp2
    go_ret
    exact ⟨rfl, rfl⟩
theorem rmargin_any (t : Int) (w : World) (h : t ≤ 4611686018427387904) (h0 : 1 ≤ t) : Calls Try.prog 75 #[.int .i64 t] w fun e w' => e = .returned (.int .i64 (marginI t)) ∧ w' = w := by
  have hr : marginI t = t + t / 16 + 2 := by unfold marginI; omega
  have hb : t / 16 ≤ t := by omega
  have hb0 : 0 ≤ t / 16 := by omega
  rw [hr]; clear hr
  go_enter Try.func75, Try.ntmps75
  go_wp2
  go_ret
  exact ⟨rfl, rfl⟩
end Go.Proofs.Ytgmopnbejjfbjaa
