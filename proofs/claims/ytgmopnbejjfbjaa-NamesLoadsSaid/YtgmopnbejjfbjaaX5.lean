/-
  (*Resolver).Resolve and the reference's Resolve return what resolveM and resolveR say. Conditions: as IsRes and IsRows say.
-/
import Derived.Test.YtgmopnbejjfbjaaX4
namespace Go.Proofs.Ytgmopnbejjfbjaa
open Go.RowKit Go.MapKept
open Go.ChangeMaps (setBlock)

def live (y : KV) (now : Int) : Bool := decide (y.k ≤ now) && decide (1 ≤ y.x.t) && decide (IntKind.u64.wrap (IntKind.u64.wrap now - IntKind.u64.wrap y.k) < IntKind.u64.wrap y.x.t)
def Ent.zero : Ent := ⟨.empty, 0, 0, 0⟩
def resolveM (l : List (ByteArray × KV)) (n : ByteArray) (now : Int) : Ent × Bool :=
  match assoc l n with
  | some y => if live y now then (y.x, true) else (.zero, false)
  | none => (.zero, false)
def ResPost (w : World) (p : Ent × Bool) (r : Ending) (w' : World) : Prop :=
  r = .returned (.tuple #[p.1.v, .bool p.2]) ∧ Ext (fun _ => False) w w'

set_option maxRecDepth 100000 in
set_option maxHeartbeats 1000000 in
theorem resolve_some (rb mb : Nat) (w : World) (l : List (ByteArray × KV)) (hR : IsRes w rb mb (kvs l))
   (n : ByteArray) (now : Int) (n0 : ByteArray) (e0 a0 t0 k0 : Int) (hn : assoc l n = some ⟨⟨n0, e0, a0, t0⟩, k0⟩) :
    Calls Try.prog 13 #[.pointer (some ⟨rb, 0, none⟩), .string n, .int .i64 now] w (ResPost w (resolveM l n now)) := by
  have ⟨hc, es, clock, hm, hl⟩ := hR
  have hlk : ∀ W : World, blk W mb = some (.map es clock) → (Instr.lookup 85 (.map (some mb)) (.string n) true).run Try.prog W = .ok (.tuple #[.agg #[.string n0, .int .i64 e0, .int .i64 a0, .int .i64 t0, .int .i64 k0], .bool true]) W := fun W hW => by
    have := run_lookup_str (P := Try.prog) Try.underlying85 Try.underlying9 hW hl (zero89' W) n true
    simpa [assoc_kvs, hn, KV.v] using this
  have hrb := blk_lt hc
  have hmb := blk_lt hm
  obtain ⟨f0, f1, f2, f3, f4, f5⟩ := ne_sizes hmb
  obtain ⟨g1, g2, g3, _⟩ := lt_sizes hrb
  have hc0 := cell_of_cells hc 0
  simp at hc0
  have hs : resolveM l n now = if live ⟨⟨n0, e0, a0, t0⟩, k0⟩ now then (⟨n0, e0, a0, t0⟩, true) else (.zero, false) := by simp [resolveM, hn]
  have Hs := Lib.hid hs
  clear hn hc hl hR hs
  by_cases h1 : now < k0
  · have hL : ¬ live ⟨⟨n0, e0, a0, t0⟩, k0⟩ now = true := by simp [live]; omega
    have HL := Lib.hid hL
    clear hL
    go_enter Try.func13, Try.ntmps13
    go_wp2
    exact bodyPost_ret (v := .tuple #[.agg #[.string .empty, .int .i64 0, .int .i64 0, .int .i64 0], .bool false]) (by simp [results, Try.results13, go_sem] <;> rfl) rfl
      ⟨by rw [Hs.out, if_neg HL.out]; rfl, by repeat (first | exact Ext.refl _ _ | apply Ext.drew | apply Ext.alloc)⟩
  by_cases h2 : t0 < 1
  · have hL : ¬ live ⟨⟨n0, e0, a0, t0⟩, k0⟩ now = true := by simp [live]; omega
    have HL := Lib.hid hL
    clear hL
    go_enter Try.func13, Try.ntmps13
    go_wp2
    exact bodyPost_ret (v := .tuple #[.agg #[.string .empty, .int .i64 0, .int .i64 0, .int .i64 0], .bool false]) (by simp [results, Try.results13, go_sem] <;> rfl) rfl
      ⟨by rw [Hs.out, if_neg HL.out]; rfl, by repeat (first | exact Ext.refl _ _ | apply Ext.drew | apply Ext.alloc)⟩
  by_cases h3 : IntKind.u64.wrap (IntKind.u64.wrap now - IntKind.u64.wrap k0) < IntKind.u64.wrap t0
  · have hL : live ⟨⟨n0, e0, a0, t0⟩, k0⟩ now = true := by simp [live, h3]; omega
    have HL := Lib.hid hL
    have h3' : ¬ IntKind.u64.wrap t0 ≤ IntKind.u64.wrap (IntKind.u64.wrap now - IntKind.u64.wrap k0) := by omega
    clear hL
    go_enter Try.func13, Try.ntmps13
    go_wp2
    exact bodyPost_ret (v := .tuple #[.agg #[.string n0, .int .i64 e0, .int .i64 a0, .int .i64 t0], .bool true]) (by simp [results, Try.results13, go_sem] <;> rfl) rfl
      ⟨by rw [Hs.out, if_pos HL.out]; rfl, by repeat (first | exact Ext.refl _ _ | apply Ext.drew | apply Ext.alloc)⟩
  · have hL : ¬ live ⟨⟨n0, e0, a0, t0⟩, k0⟩ now = true := by simp [live, h3]
    have HL := Lib.hid hL
    have h3' : IntKind.u64.wrap t0 ≤ IntKind.u64.wrap (IntKind.u64.wrap now - IntKind.u64.wrap k0) := by omega
    clear hL h3
    go_enter Try.func13, Try.ntmps13
    go_wp2
    exact bodyPost_ret (v := .tuple #[.agg #[.string .empty, .int .i64 0, .int .i64 0, .int .i64 0], .bool false]) (by simp [results, Try.results13, go_sem] <;> rfl) rfl
      ⟨by rw [Hs.out, if_neg HL.out]; rfl, by repeat (first | exact Ext.refl _ _ | apply Ext.drew | apply Ext.alloc)⟩

set_option maxRecDepth 100000 in
set_option maxHeartbeats 1000000 in
theorem resolve_none (rb mb : Nat) (w : World) (l : List (ByteArray × KV)) (hR : IsRes w rb mb (kvs l))
   (n : ByteArray) (now : Int) (hn : assoc l n = none) :
    Calls Try.prog 13 #[.pointer (some ⟨rb, 0, none⟩), .string n, .int .i64 now] w (ResPost w (resolveM l n now)) := by
  have ⟨hc, es, clock, hm, hl⟩ := hR
  have hlk : ∀ W : World, blk W mb = some (.map es clock) → (Instr.lookup 85 (.map (some mb)) (.string n) true).run Try.prog W = .ok (.tuple #[.agg #[.string .empty, .int .i64 0, .int .i64 0, .int .i64 0, .int .i64 0], .bool false]) W := fun W hW => by
    have := run_lookup_str (P := Try.prog) Try.underlying85 Try.underlying9 hW hl (zero89' W) n true
    simpa [assoc_kvs, hn] using this
  have hrb := blk_lt hc
  have hmb := blk_lt hm
  obtain ⟨f0, f1, f2, f3, f4, f5⟩ := ne_sizes hmb
  obtain ⟨g1, g2, g3, _⟩ := lt_sizes hrb
  have hc0 := cell_of_cells hc 0
  simp at hc0
  have hs : resolveM l n now = (.zero, false) := by simp [resolveM, hn]
  have Hs := Lib.hid hs
  clear hn hc hl hR hs
  go_enter Try.func13, Try.ntmps13
  go_wp2
  exact bodyPost_ret (v := .tuple #[.agg #[.string .empty, .int .i64 0, .int .i64 0, .int .i64 0], .bool false]) (by simp [results, Try.results13, go_sem] <;> rfl) rfl
    ⟨by rw [Hs.out]; rfl, by repeat (first | exact Ext.refl _ _ | apply Ext.drew | apply Ext.alloc)⟩

theorem resolve_any (rb mb : Nat) (w : World) (l : List (ByteArray × KV)) (hR : IsRes w rb mb (kvs l)) (n : ByteArray) (now : Int) :
    Calls Try.prog 13 #[.pointer (some ⟨rb, 0, none⟩), .string n, .int .i64 now] w (ResPost w (resolveM l n now)) := by
  cases hn : assoc l n with
  | none => exact resolve_none rb mb w l hR n now hn
  | some y =>
    obtain ⟨⟨n0, e0, a0, t0⟩, k0⟩ := y
    exact resolve_some rb mb w l hR n now n0 e0 a0 t0 k0 hn

/-! ### the reference's Resolve -/
def resolveR (l : List KV) (n : ByteArray) (now : Int) : Ent × Bool :=
  match l.find? (fun y => decide (y.x.n = n) && live y now) with
  | some y => (y.x, true)
  | none => (.zero, false)
theorem resolveR_hit {l : List KV} {n : ByteArray} {now : Int} {q : Nat} (hq : q < l.length) (hno : ∀ j (h : j < q), (decide ((l[j]'(by omega)).x.n = n) && live (l[j]'(by omega)) now) = false)
    (hyes : (decide (l[q].x.n = n) && live l[q] now) = true) : resolveR l n now = (l[q].x, true) := by
  unfold resolveR
  have : l.find? (fun y => decide (y.x.n = n) && live y now) = some l[q] := by
    rw [List.find?_eq_some_iff_getElem]
    exact ⟨hyes, q, hq, rfl, fun j hj => by rw [hno j hj]; rfl⟩
  rw [this]
theorem resolveR_miss {l : List KV} {n : ByteArray} {now : Int} (hno : ∀ j (h : j < l.length), (decide (l[j].x.n = n) && live l[j] now) = false) : resolveR l n now = (.zero, false) := by
  unfold resolveR
  have : l.find? (fun y => decide (y.x.n = n) && live y now) = none := by
    rw [List.find?_eq_none]
    intro y hy
    obtain ⟨j, hj, rfl⟩ := List.getElem_of_mem hy
    rw [hno j hj]; simp
  rw [this]

set_option maxRecDepth 100000 in
set_option maxHeartbeats 2000000 in
theorem rresolve_any (g cap : Nat) (w : World) (l : List KV) (hR : IsRows w 0 (.slice (some ⟨g, 0, none⟩) l.length cap) l) (hlen : l.length ≤ 1000)
   (n : ByteArray) (now : Int) :
    Calls Try.prog 14 #[.slice (some ⟨g, 0, none⟩) l.length cap, .string n, .int .i64 now] w (ResPost w (resolveR l n now)) := by
  have hcell : ∀ i j u, (rows l)[i * 5 + j]? = some u → w.cell? ⟨g, i * 5 + j, none⟩ = some u := fun i j u h => by
    have := hR.cells (g := g) rfl (i * 5 + j) u h
    rwa [Addr.add_lit, Nat.zero_add] at this
  have hg : g < w.heap.size := (hR.lt g rfl).2
  go_enter Try.func14, Try.ntmps14
  go_wp2
  go_loopw [8] (fun i wr => ∃ q : Nat, q ≤ l.length ∧ i = .int .i64 q ∧ (∀ j (h : j < q) (h' : j < l.length), (decide (l[j].x.n = n) && live l[j] now) = false) ∧
      Ext (fun _ => False) (w.alloc (.cells #[.string .empty, .int .i64 0, .int .i64 0, .int .i64 0] 28)) wr) (fun i _ => l.length - (intOf i).toNat)
  case atStart => exact ⟨0, Nat.zero_le _, rfl, fun j h => absurd h (by omega), Ext.refl _ _⟩
  case round =>
    obtain ⟨q, hq, rfl, hno, hx⟩ := hrel
    have hsz := hx.size
    simp only [World.size_alloc] at hsz
    have hsz1 : w.heap.size < wr.heap.size := hsz
    have hsz2 : g < wr.heap.size := by omega
    have hb0 : wr.cell? ⟨w.heap.size, 0, none⟩ = some (.string .empty) := (hx.cell (p := ⟨w.heap.size, 0, none⟩) (by simp) id).trans (by simp)
    have hb1 : wr.cell? ⟨w.heap.size, 1, none⟩ = some (.int .i64 0) := (hx.cell (p := ⟨w.heap.size, 1, none⟩) (by simp) id).trans (by simp)
    have hb2 : wr.cell? ⟨w.heap.size, 2, none⟩ = some (.int .i64 0) := (hx.cell (p := ⟨w.heap.size, 2, none⟩) (by simp) id).trans (by simp)
    have hb3 : wr.cell? ⟨w.heap.size, 3, none⟩ = some (.int .i64 0) := (hx.cell (p := ⟨w.heap.size, 3, none⟩) (by simp) id).trans (by simp)
    have hf : ∀ i, wr.frozen? ⟨w.heap.size, i, none⟩ = false := fun i => (hx.frozen (p := ⟨w.heap.size, i, none⟩) (by simp) id).trans (by simp)
    have hx' : Ext (fun _ => False) w wr := ((Ext.refl _ w).alloc _).trans' (T := fun _ => False) hx (fun _ _ h => h)
    by_cases hlt : q < l.length
    · have hcs : ∀ j u, (l[q]).cs[j]? = some u → wr.cell? ⟨g, q * 5 + j, none⟩ = some u := fun j u h => by
        have hj : j < 5 := (List.getElem?_eq_some_iff.1 h).1
        exact (hx'.cell (p := ⟨g, q * 5 + j, none⟩) hg id).trans (hcell q j u (by rw [rows_get l q hlt j hj]; exact h))
      obtain ⟨⟨⟨yn, ye, ya, yt⟩, yk⟩, hy⟩ : ∃ y, l[q] = y := ⟨_, rfl⟩
      rw [hy] at hcs
      have c0 := hcs 0 _ rfl
      have c1 := hcs 1 _ rfl
      have c2 := hcs 2 _ rfl
      have c3 := hcs 3 _ rfl
      have c4 := hcs 4 _ rfl
      simp only [Nat.add_zero] at c0
      have Hx := Lib.hid hx
      have Hx' := Lib.hid hx'
      have Hno := Lib.hid hno
      have Hy := Lib.hid hy
      have goon : (decide (yn = n) && live ⟨⟨yn, ye, ya, yt⟩, yk⟩ now) = false → ∀ j (h : j < q + 1) (h' : j < l.length), (decide (l[j].x.n = n) && live l[j] now) = false := fun hd j h h' => by
        by_cases hjq : j = q
        · subst hjq; rw [hy]; exact hd
        · exact hno j (by omega) h'
      have stop : (decide (yn = n) && live ⟨⟨yn, ye, ya, yt⟩, yk⟩ now) = true → resolveR l n now = (⟨yn, ye, ya, yt⟩, true) := fun hd => by
        have := resolveR_hit (l := l) (n := n) (now := now) hlt (fun j h => hno j h (by omega)) (by rw [hy]; exact hd)
        rw [hy] at this; exact this
      have Goon := Lib.hid goon
      have Stop := Lib.hid stop
      clear hcs hcell hR hno hx hx' hy goon stop
      by_cases hn : yn = n
      · have hnn := bytes_eq hn
        by_cases h1 : now < yk
        · have hd : (decide (yn = n) && live ⟨⟨yn, ye, ya, yt⟩, yk⟩ now) = false := by simp [live, hn]; omega
          clear hn
          have Hd := Lib.hid (hd)
          clear hd
          go_wp2
          go_roundw
          case rel => exact ⟨q + 1, by omega, by go_num, Goon.out Hd.out, by repeat (first | exact Hx.out | apply Ext.drew | apply Ext.alloc)⟩
          case measure => simp [intOf]; omega
        by_cases h2 : yt < 1
        · have hd : (decide (yn = n) && live ⟨⟨yn, ye, ya, yt⟩, yk⟩ now) = false := by simp [live, hn]; omega
          clear hn
          have Hd := Lib.hid (hd)
          clear hd
          go_wp2
          go_roundw
          case rel => exact ⟨q + 1, by omega, by go_num, Goon.out Hd.out, by repeat (first | exact Hx.out | apply Ext.drew | apply Ext.alloc)⟩
          case measure => simp [intOf]; omega
        by_cases h3 : IntKind.u64.wrap (IntKind.u64.wrap now - IntKind.u64.wrap yk) < IntKind.u64.wrap yt
        · have hd : (decide (yn = n) && live ⟨⟨yn, ye, ya, yt⟩, yk⟩ now) = true := by simp [live, hn, h3]; omega
          clear hn
          have Hd := Lib.hid hd
          clear hd
          go_wp2
          refine bodyPost_ret (v := .tuple #[.agg #[.string yn, .int .i64 ye, .int .i64 ya, .int .i64 yt], .bool true]) ?_ rfl ⟨by rw [Stop.out Hd.out]; rfl, ?_⟩
          · simp [results, Try.results14, go_sem, cell?_setCell_if, hsz1, hb0, hb1, hb2, hb3]
          · exact (((((Hx'.out.setCell _ (fun h => absurd h (by simp))).setCell _ (fun h => absurd h (by simp))).setCell _ (fun h => absurd h (by simp))).setCell _ (fun h => absurd h (by simp))).alloc _)
        · have hd : (decide (yn = n) && live ⟨⟨yn, ye, ya, yt⟩, yk⟩ now) = false := by simp [live, hn, h3]
          clear hn
          have Hd := Lib.hid (hd)
          clear hd
          go_wp2
          go_roundw
          case rel => exact ⟨q + 1, by omega, by go_num, Goon.out Hd.out, by repeat (first | exact Hx.out | apply Ext.drew | apply Ext.alloc)⟩
          case measure => simp [intOf]; omega
      · have hnn := bytes_ne hn
        have hd : (decide (yn = n) && live ⟨⟨yn, ye, ya, yt⟩, yk⟩ now) = false := by simp [hn]
        clear hn
        have Hd := Lib.hid (hd)
        clear hd
        go_wp2
        go_roundw
        case rel => exact ⟨q + 1, by omega, by go_num, Goon.out Hd.out, by repeat (first | exact Hx.out | apply Ext.drew | apply Ext.alloc)⟩
        case measure => simp [intOf]; omega
    · have hs : resolveR l n now = (.zero, false) := resolveR_miss (fun j h => hno j (by omega) h)
      have Hs := Lib.hid hs
      have Hx' := Lib.hid hx'
      clear hs hcell hR hno hx hx'
      go_wp2
      refine bodyPost_ret (v := .tuple #[.agg #[.string .empty, .int .i64 0, .int .i64 0, .int .i64 0], .bool false]) ?_ rfl ⟨by rw [Hs.out]; rfl, ?_⟩
      · simp [results, Try.results14, go_sem, cell?_setCell_if, hsz1, hb0, hb1, hb2, hb3] <;> rfl
      · exact ((((Hx'.out.setCell _ (fun h => absurd h (by simp))).setCell _ (fun h => absurd h (by simp))).setCell _ (fun h => absurd h (by simp))).setCell _ (fun h => absurd h (by simp)))
end Go.Proofs.Ytgmopnbejjfbjaa
