/-
  Package wire: a reader in memory; take. Conditions: the reader stands as IsRd says.
-/
import Derived.Test.YthligdgkhmgagaaWC
import Derived.Test.YthligdgkhmgagaaWR
namespace Go.Proofs.Ythligdgkhmgagaa
open Go.RowKit Go.MapKept
open Go.ChangeMaps (setBlock)

/-- a block of bytes, frozen or not -/
def U8 (w : World) (g : Nat) (cur : Array Value) : Prop := ∃ f, blk w g = some (.cells cur 5 f)
theorem U8.lt {w : World} {g : Nat} {cur : Array Value} (h : U8 w g cur) : g < w.heap.size := by
  obtain ⟨f, h⟩ := h
  exact blk_lt h
theorem U8.ne {w : World} {g : Nat} {cur cs : Array Value} {t : TypeId} {f : Nat × Nat} (h : U8 w g cur) (h2 : blk w g = some (.cells cs t f)) (hne : t ≠ 5) : False := by
  obtain ⟨f', h⟩ := h
  rw [h2] at h
  simp only [Option.some.injEq, Obj.cells.injEq] at h
  exact hne h.2.1
/-- a slice that holds these bytes, wherever it begins -/
def BytesAt (w : World) (v : Value) (l : List UInt8) : Prop :=
  ∃ ao c, v = .slice ao l.length c ∧ l.length ≤ c ∧ c ≤ maxLen ∧ ((ao = none ∧ c = 0) ∨ ∃ g off cur, ao = some ⟨g, off, none⟩ ∧ U8 w g cur ∧ ∀ i b, l[i]? = some b → w.cell? ⟨g, off + i, none⟩ = some (bv b))
theorem BytesAt.nil (w : World) : BytesAt w (.slice none 0 0) [] := ⟨none, 0, rfl, Nat.le_refl _, Nat.zero_le _, .inl ⟨rfl, rfl⟩⟩
/-- u8 rows alone are not touched by a store elsewhere -/
theorem BytesAt.ext {S : Nat → Prop} {w w' : World} {v : Value} {l : List UInt8} (h : BytesAt w v l) (hx : Ext S w w') (hn : ∀ g cur, U8 w g cur → ¬ S g) : BytesAt w' v l := by
  obtain ⟨ao, c, rfl, h1, h2, h3⟩ := h
  refine ⟨ao, c, rfl, h1, h2, ?_⟩
  rcases h3 with h3 | ⟨g, off, cur, rfl, hb, h3⟩
  · exact .inl h3
  · have hg := hb.lt
    exact .inr ⟨g, off, cur, rfl, (by obtain ⟨f, hf⟩ := hb; exact ⟨f, (hx.blk hg (hn g cur ⟨f, hf⟩)).trans hf⟩), fun i b hi => (hx.cell (p := ⟨g, off + i, none⟩) hg (hn g cur hb)).trans (h3 i b hi)⟩
theorem BytesAt.keep {w w' : World} {v : Value} {l : List UInt8} (h : BytesAt w v l) (hx : Ext (fun _ => False) w w') : BytesAt w' v l := h.ext hx (fun _ _ _ h => h)
theorem IsBytes.at' {w : World} {v : Value} {l : List UInt8} (h : IsBytes w v l) : BytesAt w v l := by
  rcases h.2 with ⟨h1, h2⟩ | ⟨g, c, cur, h1, _, h3, h4, h5, _, _⟩
  · refine ⟨none, 0, by rw [h1, h2], by omega, Nat.zero_le _, .inl ⟨rfl, rfl⟩⟩
  · subst h1
    refine ⟨_, c, rfl, h4, h5, .inr ⟨g, 0, cur, rfl, ⟨_, h3⟩, fun i b hi => ?_⟩⟩
    have := World.ownsRow.cells h (g := g) rfl i (bv b) (by rw [List.getElem?_map, hi]; rfl)
    rwa [Addr.add_lit] at this
/-- the first n bytes; the others -/
theorem BytesAt.take {w : World} {ao : Option Addr} {c m : Nat} {l : List UInt8} (h : BytesAt w (.slice ao m c) l) (n : Nat) (hn : n ≤ m) : BytesAt w (.slice ao n c) (l.take n) := by
  obtain ⟨ao, c, e, h1, h2, h3⟩ := h
  cases e
  refine ⟨ao, c, by rw [List.length_take]; congr 1; omega, by rw [List.length_take]; omega, h2, ?_⟩
  rcases h3 with h3 | ⟨g, off, cur, rfl, hb, h3⟩
  · exact .inl h3
  · refine .inr ⟨g, off, cur, rfl, hb, fun i b hi => h3 i b ?_⟩
    have hlt := (List.getElem?_eq_some_iff.1 hi).1
    rw [List.length_take] at hlt
    rwa [List.getElem?_take_of_lt (by omega)] at hi
theorem BytesAt.drop {w : World} {ao : Option Addr} {c m : Nat} {l : List UInt8} (h : BytesAt w (.slice ao m c) l) (n : Nat) (hn : n ≤ m) (hc : ¬ n = c) : BytesAt w (.slice (Option.map (fun x => x.add n) ao) (m - n) (c - n)) (l.drop n) := by
  obtain ⟨ao, c, e, h1, h2, h3⟩ := h
  cases e
  refine ⟨_, _, by rw [List.length_drop], by rw [List.length_drop]; omega, by omega, ?_⟩
  rcases h3 with ⟨_, h3⟩ | ⟨g, off, cur, rfl, hb, h3⟩
  · omega
  · refine .inr ⟨g, off + n, cur, by rw [Option.map_some, Addr.add_lit], hb, fun i b hi => ?_⟩
    rw [List.getElem?_drop] at hi
    have := h3 (n + i) b hi
    rwa [← Nat.add_assoc] at this
theorem BytesAt.dropAll {w : World} {ao : Option Addr} {c m : Nat} {l : List UInt8} (h : BytesAt w (.slice ao m c) l) (hm : m = c) : BytesAt w (.slice ao 0 0) (l.drop m) := by
  obtain ⟨ao, c, e, h1, h2, h3⟩ := h
  cases e
  refine ⟨ao, 0, by rw [List.length_drop]; simp, by rw [List.length_drop]; omega, Nat.zero_le _, ?_⟩
  rcases h3 with ⟨h3, _⟩ | ⟨g, off, cur, rfl, hb, h3⟩
  · exact .inl ⟨h3, rfl⟩
  · refine .inr ⟨g, off, cur, rfl, hb, fun i b hi => ?_⟩
    rw [List.drop_eq_nil_of_le (Nat.le_refl _)] at hi
    cases hi
/-- the reader at p: what is left, and its error -/
structure RS where
  l : List UInt8
  c : Int
def IsRd (w : World) (p : Nat) (s : RS) : Prop := ∃ v, blk w p = some (.cells #[v, .int .i64 s.c] 117 (0, 0)) ∧ BytesAt w v s.l
theorem IsRd.keep {w w' : World} {p : Nat} {s : RS} (h : IsRd w p s) (hx : Ext (fun _ => False) w w') : IsRd w' p s := by
  obtain ⟨v, h1, h2⟩ := h
  exact ⟨v, (hx.blk (blk_lt h1) id).trans h1, h2.keep hx⟩
theorem IsRd.lt {w : World} {p : Nat} {s : RS} (h : IsRd w p s) : p < w.heap.size := by
  obtain ⟨v, h1, h2⟩ := h
  exact blk_lt h1
theorem box2 {w : World} {b : Nat} {v0 v1 : Value} {t : TypeId} {f : Nat × Nat} (h : blk w b = some (.cells #[v0, v1] t f)) : w.cell? ⟨b, 0, none⟩ = some v0 ∧ w.cell? ⟨b, 1, none⟩ = some v1 :=
  ⟨by simpa using cell_of_cells h 0, by simpa using cell_of_cells h 1⟩
/-- bytes stay where the reader's own block is written -/
theorem BytesAt.rd {w w' : World} {v v0 v1 : Value} {l : List UInt8} {p : Nat} (h : BytesAt w v l) (hp : blk w p = some (.cells #[v0, v1] 117 (0, 0))) (hx : Ext (fun b => b = p) w w') : BytesAt w' v l :=
  h.ext hx (fun g cur hb e => by subst e; exact hb.ne hp (by decide))
def TakePost (w : World) (p : Nat) (s : RS) (n : Nat) (r : Ending) (w' : World) : Prop :=
  (n ≤ s.l.length ∧ ∃ v, r = .returned (.tuple #[v, .bool true]) ∧ BytesAt w' v (s.l.take n) ∧ IsRd w' p ⟨s.l.drop n, s.c⟩ ∧ Ext (fun b => b = p) w w') ∨
  (s.l.length < n ∧ r = .returned (.tuple #[.slice none 0 0, .bool false]) ∧ w' = w)
set_option maxRecDepth 100000 in
set_option maxHeartbeats 2000000 in
theorem take_any (w : World) (p : Nat) (s : RS) (n : Nat) (h : IsRd w p s) (hn : n ≤ 18446744073709551615) :
    Calls Try.prog 72 #[.pointer (some ⟨p, 0, none⟩), .int .u64 n] w (TakePost w p s n) := by
  obtain ⟨l, c⟩ := s
  obtain ⟨v, hp, hb⟩ := h
  have hb' := hb
  obtain ⟨ao, k, rfl, h1, h2, _⟩ := hb'
  simp only at hb h1 hp
  obtain ⟨m, hm⟩ : ∃ m, l.length = m := ⟨_, rfl⟩
  rw [hm] at hp hb h1
  obtain ⟨y0, y1⟩ := box2 hp
  have f0 := free_of_cells hp 0
  have hlt := blk_lt hp
  have Hb := Lib.hid hb
  have Hp := Lib.hid hp
  have Hm := Lib.hid hm
  have hmx : m ≤ 9223372036854775807 := by unfold maxLen at h2; omega
  clear hb hp hm
  by_cases hlen : n ≤ m
  · have hnl : ¬ m < n := by omega
    by_cases hc : n = k
    · subst hc
      have hmn : m = n := by omega
      subst hmn
      go_enter Try.func72, Try.ntmps72
      go_wp2
      go_ret2
      have hx : Ext (fun b => b = p) w (w.setCell ⟨p, 0, none⟩ (.slice ao 0 0)) := (Ext.refl _ w).setCell _ (fun _ => rfl)
      refine .inl ⟨by simp only; rw [Hm.out]; omega, _, rfl, ((Hb.out.take m (Nat.le_refl _)).rd Hp.out hx), ⟨_, by simpa using blk_setCell_same Hp.out 0 (.slice ao 0 0), ?_⟩, hx⟩
      exact (Hb.out.dropAll rfl).rd Hp.out hx
    · go_enter Try.func72, Try.ntmps72
      go_wp2
      go_ret2
      have hx : Ext (fun b => b = p) w (w.setCell ⟨p, 0, none⟩ (.slice (Option.map (fun x => x.add n) ao) (m - n) (k - n))) := (Ext.refl _ w).setCell _ (fun _ => rfl)
      refine .inl ⟨by simp only; rw [Hm.out]; omega, _, rfl, ((Hb.out.take n hlen).rd Hp.out hx), ⟨_, by simpa using blk_setCell_same Hp.out 0 _, ?_⟩, hx⟩
      exact (Hb.out.drop n hlen hc).rd Hp.out hx
  · have hgt : m < n := by omega
    clear hlen
    go_enter Try.func72, Try.ntmps72
    go_wp2
    go_ret2
    exact .inr ⟨by simp only; rw [Hm.out]; exact hgt, rfl, rfl⟩
end Go.Proofs.Ythligdgkhmgagaa
/-
  Package wire: a reader's number. Conditions: the reader stands as IsRd says.
-/
namespace Go.Proofs.Ythligdgkhmgagaa
open Go.RowKit Go.MapKept
open Go.ChangeMaps (setBlock)

def beVal (d : List UInt8) : Nat := d.foldl (fun n b => n * 256 + b.toNat) 0
/-- a number's encoding at the head, and what is left -/
def getNum : List UInt8 → Option (Nat × List UInt8)
  | [] => none
  | k :: t => if 8 < k.toNat ∨ t.length < k.toNat ∨ (0 < k.toNat ∧ t.head? = some 0) then none else some (beVal (t.take k.toNat), t.drop k.toNat)
theorem getNum_cons (k : UInt8) (t : List UInt8) : getNum (k :: t) = if 8 < k.toNat ∨ t.length < k.toNat ∨ (0 < k.toNat ∧ t.head? = some 0) then none else some (beVal (t.take k.toNat), t.drop k.toNat) := rfl
theorem beVal_append (a : List UInt8) (b : UInt8) : beVal (a ++ [b]) = beVal a * 256 + b.toNat := by simp [beVal]
theorem beVal_take {d : List UInt8} {j : Nat} {b : UInt8} (h : d[j]? = some b) : beVal (d.take (j + 1)) = beVal (d.take j) * 256 + b.toNat := by
  rw [List.take_add_one, h]; exact beVal_append _ _
theorem beVal_lt (d : List UInt8) (j : Nat) : j ≤ d.length → beVal (d.take j) < 256 ^ j := by
  induction j with
  | zero => intro _; simp [beVal]
  | succ j ih =>
    intro h
    rw [beVal_take (List.getElem?_eq_getElem (show j < d.length by omega)), Nat.pow_succ]
    have := ih (by omega)
    have := (d[j]'(by omega)).toNat_lt
    omega
theorem or_step (X b : Nat) (hX : X < 72057594037927936) (hb : b < 256) : bits .or .u64 ((X : Int) * 256) (b : Int) = ((X * 256 + b : Nat) : Int) := by
  have e : X * 256 ||| b = X * 256 + b := by
    have := Nat.two_pow_add_eq_or_of_lt (i := 8) (b := b) hb X
    rw [Nat.mul_comm] at this
    exact this.symm
  have h1 : (BitVec.ofInt 64 ((X : Int) * 256)).toNat = X * 256 := by
    rw [show ((X : Int) * 256) = ((X * 256 : Nat) : Int) from (Int.natCast_mul X 256).symm, BitVec.ofInt_natCast, BitVec.toNat_ofNat]; exact Nat.mod_eq_of_lt (by omega)
  have h2 : (BitVec.ofInt 64 (b : Int)).toNat = b := by
    rw [BitVec.ofInt_natCast, BitVec.toNat_ofNat]; exact Nat.mod_eq_of_lt (by omega)
  show IntKind.u64.wrap ((BitVec.ofInt 64 ((X : Int) * 256) ||| BitVec.ofInt 64 (b : Int)).toNat : Int) = _
  rw [BitVec.toNat_or, h1, h2, e]
  exact IntWalk.u64_in _ (by omega)
/-- number: the reader goes on, whatever its error was -/
def NumPost (w : World) (p : Nat) (s : RS) (r : Ending) (w' : World) : Prop :=
  Ext (fun b => b = p) w w' ∧
  match getNum s.l with
  | some (n, t) => r = .returned (.tuple #[.int .u64 n, .int .i64 0]) ∧ IsRd w' p ⟨t, s.c⟩
  | none => r = .returned (.tuple #[.int .u64 0, .int .i64 11]) ∧ ∃ l', IsRd w' p ⟨l', s.c⟩
set_option maxRecDepth 100000 in
set_option maxHeartbeats 2000000 in
theorem num_any (w : World) (p : Nat) (s : RS) (h : IsRd w p s) : Calls Try.prog 71 #[.pointer (some ⟨p, 0, none⟩)] w (NumPost w p s) := by
  have H := Lib.hid h
  have htake := take_any w p s 1 h (by omega)
  obtain ⟨l, c⟩ := s
  cases l with
  | nil =>
    have hfin : NumPost w p ⟨[], c⟩ (.returned (.tuple #[.int .u64 0, .int .i64 11])) w := ⟨Ext.refl _ _, rfl, _, h⟩
    have Hfin := Lib.hid hfin
    have Htake := Lib.hid htake
    clear hfin htake h
    go_enter Try.func71, Try.ntmps71
    go_wp2_with fail
    refine Htake.out.mono ?_
    rintro r w1 (⟨h1, _⟩ | ⟨_, rfl, rfl⟩)
    · simp at h1
    · go_wp2
      go_ret2
      exact Hfin.out
  | cons k t =>
    have Htake := Lib.hid htake
    clear htake h
    have hk := k.toNat_lt
    go_enter Try.func71, Try.ntmps71
    go_wp2_with fail
    refine Htake.out.mono ?_
    rintro r w1 (⟨_, v, rfl, hv, hrd, hx⟩ | ⟨h1, _⟩)
    · have hv' := hv
      obtain ⟨ao, cp, rfl, _, _, hat⟩ := hv'
      rcases hat with ⟨_, h0⟩ | ⟨g, off, cur, rfl, _, hat⟩
      · simp at hv; obtain ⟨_, _, e, h2, _⟩ := hv; cases e; simp at h2; omega
      have c0 : w1.cell? ⟨g, off, none⟩ = some (.int .u8 k.toNat) := by simpa [bv] using hat 0 k rfl
      simp only [List.drop_succ_cons, List.drop_zero] at hrd
      have hrd' := hrd
      have htake2 := take_any w1 p ⟨t, c⟩ k.toNat hrd (by omega)
      have Htake2 := Lib.hid htake2
      have Hrd := Lib.hid hrd
      have Hx := Lib.hid hx
      have hl1 : ([k] : List UInt8).length = 1 := rfl
      clear hat hv hrd hrd' hx htake2
      simp only [List.take_succ_cons, List.take_zero, hl1]
      obtain ⟨kn, hkn⟩ : ∃ kn, k.toNat = kn := ⟨_, rfl⟩
      rw [hkn] at c0 hk Htake2
      have Hkn := Lib.hid hkn
      clear hkn
      by_cases h8 : (8 : Int) < kn
      · have hg : getNum (k :: t) = none := by rw [getNum_cons, if_pos (.inl (by rw [Hkn.out]; omega))]
        have hfin : NumPost w p ⟨k :: t, c⟩ (.returned (.tuple #[.int .u64 0, .int .i64 11])) w1 := ⟨Hx.out, by rw [show getNum (⟨k :: t, c⟩ : RS).l = none from hg]; exact ⟨rfl, t, Hrd.out⟩⟩
        have Hfin := Lib.hid hfin
        clear hfin hg
        go_wp2
        go_ret2
        exact Hfin.out
      · have h8' : kn ≤ 8 := by omega
        go_wp2_with fail
        refine Htake2.out.mono ?_
        rintro r w2 (⟨hlen, v2, rfl, hv2, hrd2, hx2⟩ | ⟨hlen, rfl, hw⟩)
        · have hx02 := Hx.out.trans hx2
          simp only at hlen hv2 hrd2
          have Hrd2 := Lib.hid hrd2
          have Hx02 := Lib.hid hx02
          obtain ⟨d, hd⟩ : ∃ d, t.take kn = d := ⟨_, rfl⟩
          rw [hd] at hv2
          have hdl : d.length = kn := by rw [← hd, List.length_take]; omega
          have hv2' := hv2
          obtain ⟨ao2, cp2, rfl, hc2, hm2, hat2⟩ := hv2'
          rw [hdl] at hc2 ⊢
          have Hd := Lib.hid hd
          have Hdl := Lib.hid hdl
          have Hat2 := Lib.hid hat2
          clear hv2 hrd2 hx2 hx02 hd hdl hat2 c0
          by_cases hk0 : kn = 0
          · subst hk0
            have hg : getNum (k :: t) = some (beVal d, t.drop 0) := by
              rw [getNum_cons, Hkn.out, if_neg (by omega), Hd.out]
            have hd0 : d = [] := List.eq_nil_of_length_eq_zero Hdl.out
            have hfin : NumPost w p ⟨k :: t, c⟩ (.returned (.tuple #[.int .u64 0, .int .i64 0])) w2 := ⟨Hx02.out, by rw [show getNum (⟨k :: t, c⟩ : RS).l = some (beVal d, t.drop 0) from hg, hd0]; exact ⟨rfl, Hrd2.out⟩⟩
            have Hfin := Lib.hid hfin
            clear hfin hg hd0
            go_wp2_with fail
            refine wp_loop_rounds 1 ?_
            rw [rounds_succ]
            go_wp2
            go_ret2
            exact Hfin.out
          · obtain ⟨g2, off2, cur2, rfl, _, hcell⟩ : ∃ g off cur, ao2 = some ⟨g, off, none⟩ ∧ U8 w2 g cur ∧ ∀ i b, d[i]? = some b → w2.cell? ⟨g, off + i, none⟩ = some (bv b) := by
              rcases Hat2.out with ⟨_, h0⟩ | h
              · omega
              · exact h
            obtain ⟨d0, hd0⟩ : ∃ d0, d[0]? = some d0 := ⟨_, List.getElem?_eq_getElem (by rw [Hdl.out]; omega)⟩
            have e0 : w2.cell? ⟨g2, off2, none⟩ = some (.int .u8 d0.toNat) := by simpa [bv] using hcell 0 d0 hd0
            have ht0 : t.head? = some d0 := by
              have := hd0
              rw [← Hd.out, List.getElem?_take_of_lt (by omega)] at this
              rw [List.head?_eq_getElem?]; exact this
            have hk0' : (0 : Int) < kn := by omega
            have Hcell := Lib.hid hcell
            have Ht0 := Lib.hid ht0
            clear hcell ht0 hd0
            by_cases hz : d0.toNat = 0
            · have hz' : d0 = 0 := UInt8.toNat_inj.1 hz
              have hg : getNum (k :: t) = none := by rw [getNum_cons, if_pos (.inr (.inr ⟨by rw [Hkn.out]; omega, by rw [Ht0.out, hz']⟩))]
              have hfin : NumPost w p ⟨k :: t, c⟩ (.returned (.tuple #[.int .u64 0, .int .i64 11])) w2 := ⟨Hx02.out, by rw [show getNum (⟨k :: t, c⟩ : RS).l = none from hg]; exact ⟨rfl, _, Hrd2.out⟩⟩
              have Hfin := Lib.hid hfin
              rw [hz] at e0
              clear hfin hg hz hz'
              go_wp2
              go_ret2
              exact Hfin.out
            · have hz' : ¬ d0 = 0 := fun e => hz (by rw [e]; rfl)
              have hz2 : ((d0.toNat : Int) == 0) = false := by simp; omega
              have hg : getNum (k :: t) = some (beVal d, t.drop kn) := by
                rw [getNum_cons, Hkn.out, Hd.out, if_neg]
                rintro (h | h | ⟨_, h⟩)
                · omega
                · omega
                · rw [Ht0.out] at h; cases h; exact hz' rfl
              have hfin : NumPost w p ⟨k :: t, c⟩ (.returned (.tuple #[.int .u64 (beVal d), .int .i64 0])) w2 := ⟨Hx02.out, by rw [show getNum (⟨k :: t, c⟩ : RS).l = some (beVal d, t.drop kn) from hg]; exact ⟨rfl, Hrd2.out⟩⟩
              have Hfin := Lib.hid hfin
              clear hfin hg hz hz'
              go_wp2_with fail
              go_loopg [7, 47] kn (fun q v7 v47 wr => ∃ j : Nat, j ≤ kn ∧ q = kn - j ∧ v47 = .int .i64 j ∧ v7 = .int .u64 (beVal (d.take j)) ∧ wr = w2)
              case atStart => exact ⟨0, Nat.zero_le _, rfl, rfl, rfl, rfl⟩
              case round =>
                obtain ⟨j, hj, rfl, rfl, rfl, hwr⟩ := hrel
                obtain rfl := hwr.symm
                by_cases hjk : j < kn
                · obtain ⟨b, hb⟩ : ∃ b, d[j]? = some b := ⟨_, List.getElem?_eq_getElem (by rw [Hdl.out]; exact hjk)⟩
                  have e1 : w2.cell? ⟨g2, off2 + j, none⟩ = some (.int .u8 b.toNat) := Hcell.out j b hb
                  have hstep := beVal_take hb
                  have hlt := beVal_lt d j (by rw [Hdl.out]; omega)
                  have hlt2 : (256 : Nat) ^ j ≤ 256 ^ 7 := Nat.pow_le_pow_right (by omega) (by omega)
                  have hbl := b.toNat_lt
                  have Hstep := Lib.hid hstep
                  generalize beVal (d.take j) = X at *
                  generalize b.toNat = bn at *
                  have hX : X < 72057594037927936 := by omega
                  clear hlt hlt2 hb hstep
                  have j0 : (0 : Int) ≤ (j : Int) := by omega
                  have j1 : (j : Int) < (kn : Int) := by omega
                  have hor := or_step X bn hX hbl
                  rw [← Hstep.out] at hor
                  go_wp2_with fail
                  go_roundg (kn - (j + 1))
                  case measure => omega
                  case rel => exact ⟨j + 1, by omega, rfl, by go_num, rfl, rfl⟩
                · have hje : d.take j = d := List.take_of_length_le (by rw [Hdl.out]; omega)
                  rw [hje]
                  go_wp2
                  go_ret2
                  exact Hfin.out
        · have hw' := hw
          simp only at hlen
          have hg : getNum (k :: t) = none := by rw [getNum_cons, if_pos (.inr (.inl (by rw [Hkn.out]; exact hlen)))]
          have hfin : NumPost w p ⟨k :: t, c⟩ (.returned (.tuple #[.int .u64 0, .int .i64 11])) w2 := ⟨by rw [hw]; exact Hx.out, by rw [show getNum (⟨k :: t, c⟩ : RS).l = none from hg, hw]; exact ⟨rfl, t, Hrd.out⟩⟩
          have Hfin := Lib.hid hfin
          clear hfin hg hw hw'
          go_wp2
          go_ret2
          exact Hfin.out
    · simp at h1
end Go.Proofs.Ythligdgkhmgagaa
/-
  Package wire: what a reader reads: Number, Left, End. Conditions: the reader stands as IsRd says.
-/
namespace Go.Proofs.Ythligdgkhmgagaa
open Go.RowKit Go.MapKept
open Go.ChangeMaps (setBlock)

def numberM (s : RS) : Nat × RS := if s.c = 0 then (match getNum s.l with | some (n, t) => (n, ⟨t, 0⟩) | none => (0, ⟨[], 11⟩)) else (0, s)
def RdPost (w : World) (p : Nat) (m : Nat × RS) (r : Ending) (w' : World) : Prop := r = .returned (.int .u64 m.1) ∧ IsRd w' p m.2 ∧ Ext (fun b => b = p) w w'
/-- the error is noted, nothing is left -/
theorem rd_fail {w w' : World} {p : Nat} {v0 v1 : Value} (h : blk w p = some (.cells #[v0, v1] 117 (0, 0))) (e : Int) (hw : w' = (w.setCell ⟨p, 1, none⟩ (.int .i64 e)).setCell ⟨p, 0, none⟩ (.slice none 0 0)) :
    IsRd w' p ⟨[], e⟩ ∧ Ext (fun b => b = p) w w' := by
  subst hw
  refine ⟨⟨.slice none 0 0, by simpa using blk_setCell_same (blk_setCell_same h 1 (.int .i64 e)) 0 (.slice none 0 0), BytesAt.nil _⟩, ?_⟩
  exact ((Ext.refl (fun b => b = p) w).setCell (p := ⟨p, 1, none⟩) _ (fun _ => rfl)).setCell (p := ⟨p, 0, none⟩) _ (fun _ => rfl)
set_option maxRecDepth 100000 in
set_option maxHeartbeats 2000000 in
theorem read_num (w : World) (p : Nat) (s : RS) (h : IsRd w p s) : Calls Try.prog 69 #[.pointer (some ⟨p, 0, none⟩), .func (.func 71) #[.pointer (some ⟨p, 0, none⟩)] #[]] w (RdPost w p (numberM s)) := by
  have hnum := num_any w p s h
  obtain ⟨l, c⟩ := s
  have h' := h
  obtain ⟨v, hp, hb⟩ := h'
  obtain ⟨y0, y1⟩ := box2 hp
  simp only at y1 hp
  by_cases hc : c = 0
  · subst hc
    have hm : ∀ n t, getNum l = some (n, t) → numberM ⟨l, 0⟩ = (n, ⟨t, 0⟩) := fun n t e => by unfold numberM; simp only [if_true, e]
    have hm0 : getNum l = none → numberM ⟨l, 0⟩ = (0, ⟨[], 11⟩) := fun e => by unfold numberM; simp only [if_true, e]
    have Hnum := Lib.hid hnum
    have Hm := Lib.hid hm
    have Hm0 := Lib.hid hm0
    clear hnum hm hm0 h hp hb
    go_enter Try.func69, Try.ntmps69
    go_wp2_with fail
    refine Hnum.out.mono ?_
    rintro r w1 ⟨hx, hr⟩
    simp only at hr
    cases hg : getNum l with
    | some nt =>
      obtain ⟨n, t⟩ := nt
      rw [hg] at hr
      obtain ⟨rfl, hrd⟩ := hr
      have hfin : RdPost w p (numberM ⟨l, 0⟩) (.returned (.int .u64 n)) w1 := by rw [Hm.out n t hg]; exact ⟨rfl, hrd, hx⟩
      have Hfin := Lib.hid hfin
      clear hfin hrd hx hg
      go_wp2
      go_ret
      exact Hfin.out
    | none =>
      rw [hg] at hr
      obtain ⟨rfl, l', hrd⟩ := hr
      obtain ⟨v1, hp1, _⟩ := hrd
      obtain ⟨z0, z1⟩ := box2 hp1
      have g0 := free_of_cells hp1 0
      have g1 := free_of_cells hp1 1
      have hlt := blk_lt hp1
      have hf := rd_fail hp1 11 rfl
      have hfin : RdPost w p (numberM ⟨l, 0⟩) (.returned (.int .u64 0)) ((w1.setCell ⟨p, 1, none⟩ (.int .i64 11)).setCell ⟨p, 0, none⟩ (.slice none 0 0)) := by rw [Hm0.out hg]; exact ⟨rfl, hf.1, hx.trans hf.2⟩
      have Hfin := Lib.hid hfin
      clear hfin hf hp1 hx hg
      go_wp2
      go_ret
      exact Hfin.out
  · have hc' : (c == 0) = false := by simpa using hc
    have hm : numberM ⟨l, c⟩ = (0, ⟨l, c⟩) := by unfold numberM; rw [if_neg hc]
    have hfin : RdPost w p (numberM ⟨l, c⟩) (.returned (.int .u64 0)) w := by rw [hm]; exact ⟨rfl, h, Ext.refl _ _⟩
    have Hfin := Lib.hid hfin
    clear hfin hm h hp hb hnum hc
    go_enter Try.func69, Try.ntmps69
    go_wp2
    go_ret
    exact Hfin.out
set_option maxRecDepth 100000 in
theorem number_any (w : World) (p : Nat) (s : RS) (h : IsRd w p s) : Calls Try.prog 68 #[.pointer (some ⟨p, 0, none⟩)] w (RdPost w p (numberM s)) := by
  have H := Lib.hid (read_num w p s h)
  have hlt := h.lt
  clear h
  go_enter Try.func68, Try.ntmps68
  go_wp2_with fail
  refine H.out.mono ?_
  rintro r w1 ⟨rfl, h⟩
  have Hfin := Lib.hid h
  clear h
  go_wp2
  go_ret
  exact ⟨rfl, Hfin.out⟩
theorem left_any (w : World) (p : Nat) (s : RS) (h : IsRd w p s) : Calls Try.prog 67 #[.pointer (some ⟨p, 0, none⟩)] w fun r w' => r = .returned (.int .i64 s.l.length) ∧ w' = w := by
  obtain ⟨l, c⟩ := s
  obtain ⟨v, hp, hb⟩ := h
  obtain ⟨ao, k, rfl, _⟩ := hb
  obtain ⟨y0, y1⟩ := box2 hp
  have hlt := blk_lt hp
  clear hp
  go_enter Try.func67, Try.ntmps67
  go_wp2
  go_ret
  exact ⟨rfl, rfl⟩
def endM (s : RS) : Int := if s.c = 0 ∧ 0 < s.l.length then 11 else s.c
theorem end_any (w : World) (p : Nat) (s : RS) (h : IsRd w p s) : Calls Try.prog 41 #[.pointer (some ⟨p, 0, none⟩)] w fun r w' => r = .returned (.int .i64 (endM s)) ∧ w' = w := by
  obtain ⟨l, c⟩ := s
  obtain ⟨v, hp, hb⟩ := h
  obtain ⟨ao, k, rfl, _⟩ := hb
  obtain ⟨y0, y1⟩ := box2 hp
  simp only at y0 y1
  have hlt := blk_lt hp
  clear hp
  by_cases hc : c = 0
  · subst hc
    by_cases hl : 0 < l.length
    · have hm : endM ⟨l, 0⟩ = 11 := by unfold endM; rw [if_pos ⟨rfl, hl⟩]
      rw [hm]
      have hl' : (0 : Int) < l.length := by omega
      clear hm
      go_enter Try.func41, Try.ntmps41
      go_wp2
      go_ret
      exact ⟨rfl, rfl⟩
    · have hm : endM ⟨l, 0⟩ = 0 := by unfold endM; rw [if_neg (fun h => hl h.2)]
      have h0 : l.length = 0 := by omega
      rw [hm]
      rw [h0] at y0
      clear hm h0 hl
      go_enter Try.func41, Try.ntmps41
      go_wp2
      go_ret
      exact ⟨rfl, rfl⟩
  · have hm : endM ⟨l, c⟩ = c := by unfold endM; rw [if_neg (fun h => hc h.1)]
    have hc' : (c == 0) = false := by simpa using hc
    rw [hm]
    clear hm hc
    go_enter Try.func41, Try.ntmps41
    go_wp2
    go_ret
    exact ⟨rfl, rfl⟩
end Go.Proofs.Ythligdgkhmgagaa
/-
  Package wire: what a reader reads: Count, Text. Conditions: the reader stands as IsRd says.
-/
namespace Go.Proofs.Ythligdgkhmgagaa
open Go.RowKit Go.MapKept
open Go.ChangeMaps (setBlock)

theorem run_bytesAt_string {w : World} {v : Value} {l : List UInt8} (h : BytesAt w v l) : (convert 80 9 v).run Try.prog w = .ok (.string ⟨l.toArray⟩) w := by
  obtain ⟨ao, c, rfl, h1, h2, h3⟩ := h
  rcases h3 with ⟨rfl, rfl⟩ | ⟨g, off, cur, rfl, _, hc⟩
  · have : l = [] := List.eq_nil_of_length_eq_zero (by omega)
    subst this
    exact run_convert_bytes_nil w 80 5 Try.underlying80 Try.underlying5 0 0 9 Try.underlying9
  · exact run_convert_bytes_back w 80 9 5 ⟨g, off, none⟩ c l Try.underlying80 Try.underlying5 Try.underlying9 (fun j hj => by
      rw [Addr.add_lit]
      exact hc j _ (List.getElem?_eq_getElem hj))
def countM (most : Int) (s : RS) : Nat × RS :=
  if s.c = 0 then (match getNum s.l with
    | some (n, t) => if most < 0 ∨ most < n then (0, ⟨[], 8⟩) else (n, ⟨t, 0⟩)
    | none => (0, ⟨[], 11⟩))
  else (0, s)
/-- the closure's post: number, and what it refuses -/
def CntPost (w : World) (p : Nat) (most : Int) (l : List UInt8) (r : Ending) (w' : World) : Prop :=
  Ext (fun b => b = p) w w' ∧
  match getNum l with
  | some (n, t) => if most < 0 ∨ most < n then r = .returned (.tuple #[.int .u64 0, .int .i64 8]) ∧ ∃ l', IsRd w' p ⟨l', 0⟩ else r = .returned (.tuple #[.int .u64 n, .int .i64 0]) ∧ IsRd w' p ⟨t, 0⟩
  | none => r = .returned (.tuple #[.int .u64 0, .int .i64 11]) ∧ ∃ l', IsRd w' p ⟨l', 0⟩
theorem getNum_lt {l : List UInt8} {n : Nat} {t : List UInt8} (h : getNum l = some (n, t)) : n < 18446744073709551616 := by
  cases l with
  | nil => cases h
  | cons k r =>
    rw [getNum_cons] at h
    split at h
    · cases h
    · rename_i hc
      cases h
      have h1 := beVal_lt (r.take k.toNat) (r.take k.toNat).length (Nat.le_refl _)
      rw [List.take_length] at h1
      have h2 : (r.take k.toNat).length ≤ 8 := by rw [List.length_take]; omega
      have h3 : (256 : Nat) ^ (r.take k.toNat).length ≤ 256 ^ 8 := Nat.pow_le_pow_right (by omega) h2
      omega
set_option maxRecDepth 100000 in
set_option maxHeartbeats 2000000 in
theorem count1_any (w : World) (p X Y : Nat) (most : Int) (l : List UInt8) (h : IsRd w p ⟨l, 0⟩) (hX : blk w X = some (.cells #[.pointer (some ⟨p, 0, none⟩)] 78 (0, 0))) (hY : blk w Y = some (.cells #[.int .i64 most] 3 (0, 0))) (hm : most ≤ 9223372036854775807) :
    Calls Try.prog 80 #[.pointer (some ⟨X, 0, none⟩), .pointer (some ⟨Y, 0, none⟩)] w (CntPost w p most l) := by
  have hnum := num_any w p _ h
  have c0 : w.cell? ⟨X, 0, none⟩ = some (.pointer (some ⟨p, 0, none⟩)) := by simpa using cell_of_cells hX 0
  have hYp : ¬ Y = p := fun e => by
    obtain ⟨v, hp, _⟩ := h
    subst e; rw [hY] at hp; cases hp
  have HY := Lib.hid hY
  have Hnum := Lib.hid hnum
  have hltX := blk_lt hX
  have hltY := blk_lt hY
  clear hnum hX hY h
  go_enter Try.func80, Try.ntmps80
  go_wp2_with fail
  refine Hnum.out.mono ?_
  rintro r w1 ⟨hx, hr⟩
  have hY1 := (hx.blk hltY hYp).trans HY.out
  have d0 : w1.cell? ⟨Y, 0, none⟩ = some (.int .i64 most) := by simpa using cell_of_cells hY1 0
  have hlt1 := blk_lt hY1
  simp only at hr
  cases hg : getNum l with
  | none =>
    rw [hg] at hr
    obtain ⟨rfl, hrd⟩ := hr
    have hfin : CntPost w p most l (.returned (.tuple #[.int .u64 0, .int .i64 11])) w1 := ⟨hx, by rw [hg]; exact ⟨rfl, hrd⟩⟩
    have Hfin := Lib.hid hfin
    clear hfin hrd hx hg hY1
    go_wp2
    go_ret2
    exact Hfin.out
  | some nt =>
    obtain ⟨n, t⟩ := nt
    have hn := getNum_lt hg
    rw [hg] at hr
    obtain ⟨rfl, hrd⟩ := hr
    by_cases h1 : most < 0
    · have hfin : CntPost w p most l (.returned (.tuple #[.int .u64 0, .int .i64 8])) w1 := ⟨hx, by rw [hg]; simp only; rw [if_pos (.inl h1)]; exact ⟨trivial, _, hrd⟩⟩
      have Hfin := Lib.hid hfin
      clear hfin hrd hx hg hY1
      go_wp2
      go_ret2
      exact Hfin.out
    · have hw : IntKind.u64.wrap most = most := IntWalk.u64_in _ (by omega)
      by_cases h2 : most < n
      · have hfin : CntPost w p most l (.returned (.tuple #[.int .u64 0, .int .i64 8])) w1 := ⟨hx, by rw [hg]; simp only; rw [if_pos (.inr h2)]; exact ⟨trivial, _, hrd⟩⟩
        have Hfin := Lib.hid hfin
        clear hfin hrd hx hg hY1
        go_wp2
        go_ret2
        exact Hfin.out
      · have hfin : CntPost w p most l (.returned (.tuple #[.int .u64 n, .int .i64 0])) w1 := ⟨hx, by rw [hg]; simp only; rw [if_neg (by omega)]; exact ⟨trivial, hrd⟩⟩
        have Hfin := Lib.hid hfin
        clear hfin hrd hx hg hY1
        go_wp2
        go_ret2
        exact Hfin.out
set_option maxRecDepth 100000 in
set_option maxHeartbeats 2000000 in
theorem read_cnt (w : World) (p X Y : Nat) (most : Int) (s : RS) (h : IsRd w p s) (hX : blk w X = some (.cells #[.pointer (some ⟨p, 0, none⟩)] 78 (0, 0))) (hY : blk w Y = some (.cells #[.int .i64 most] 3 (0, 0))) (hm : most ≤ 9223372036854775807) :
    Calls Try.prog 69 #[.pointer (some ⟨p, 0, none⟩), .func (.func 80) #[] #[.pointer (some ⟨X, 0, none⟩), .pointer (some ⟨Y, 0, none⟩)]] w (RdPost w p (countM most s)) := by
  obtain ⟨l, c⟩ := s
  have h' := h
  obtain ⟨v, hp, hb⟩ := h'
  obtain ⟨y0, y1⟩ := box2 hp
  simp only at y1 hp
  by_cases hc : c = 0
  · subst hc
    have hcnt := count1_any w p X Y most l h hX hY hm
    have Hcnt := Lib.hid hcnt
    clear hcnt h hp hb hX hY
    go_enter Try.func69, Try.ntmps69
    go_wp2_with fail
    refine Hcnt.out.mono ?_
    rintro r w1 ⟨hx, hr⟩
    have hbad : ∀ e, (∃ l', IsRd w1 p ⟨l', 0⟩) → countM most ⟨l, 0⟩ = (0, ⟨[], e⟩) → blk w1 p = blk w1 p ∧ ∃ v1, blk w1 p = some (.cells #[v1, .int .i64 0] 117 (0, 0)) ∧ RdPost w p (countM most ⟨l, 0⟩) (.returned (.int .u64 0)) ((w1.setCell ⟨p, 1, none⟩ (.int .i64 e)).setCell ⟨p, 0, none⟩ (.slice none 0 0)) := fun e hl hm => by
      obtain ⟨l', v1, hp1, _⟩ := hl
      have hf := rd_fail hp1 e rfl
      exact ⟨rfl, v1, hp1, by rw [hm]; exact ⟨rfl, hf.1, hx.trans hf.2⟩⟩
    cases hg : getNum l with
    | none =>
      rw [hg] at hr
      obtain ⟨rfl, hrd⟩ := hr
      obtain ⟨_, v1, hp1, hfin⟩ := hbad 11 hrd (by unfold countM; simp only [if_true, hg])
      obtain ⟨z0, z1⟩ := box2 hp1
      have g0 := free_of_cells hp1 0
      have g1 := free_of_cells hp1 1
      have hlt := blk_lt hp1
      have Hfin := Lib.hid hfin
      clear hfin hbad hrd hp1 hx hg
      go_wp2
      go_ret
      exact Hfin.out
    | some nt =>
      obtain ⟨n, t⟩ := nt
      rw [hg] at hr
      simp only at hr
      by_cases h1 : most < 0 ∨ most < n
      · rw [if_pos h1] at hr
        obtain ⟨rfl, hrd⟩ := hr
        obtain ⟨_, v1, hp1, hfin⟩ := hbad 8 hrd (by unfold countM; simp only [if_true, hg]; rw [if_pos h1])
        obtain ⟨z0, z1⟩ := box2 hp1
        have g0 := free_of_cells hp1 0
        have g1 := free_of_cells hp1 1
        have hlt := blk_lt hp1
        have Hfin := Lib.hid hfin
        clear hfin hbad hrd hp1 hx hg h1
        go_wp2
        go_ret
        exact Hfin.out
      · rw [if_neg h1] at hr
        obtain ⟨rfl, hrd⟩ := hr
        have hfin : RdPost w p (countM most ⟨l, 0⟩) (.returned (.int .u64 n)) w1 := by
          have hmm : countM most ⟨l, 0⟩ = (n, ⟨t, 0⟩) := by unfold countM; simp only [if_true, hg]; rw [if_neg h1]
          rw [hmm]; exact ⟨rfl, hrd, hx⟩
        have Hfin := Lib.hid hfin
        clear hfin hbad hrd hx hg h1
        go_wp2
        go_ret
        exact Hfin.out
  · have hc' : (c == 0) = false := by simpa using hc
    have hm : countM most ⟨l, c⟩ = (0, ⟨l, c⟩) := by unfold countM; rw [if_neg hc]
    have hfin : RdPost w p (countM most ⟨l, c⟩) (.returned (.int .u64 0)) w := by rw [hm]; exact ⟨rfl, h, Ext.refl _ _⟩
    have Hfin := Lib.hid hfin
    clear hfin hm h hp hb hX hY hc
    go_enter Try.func69, Try.ntmps69
    go_wp2
    go_ret
    exact Hfin.out
theorem countM_le (most : Int) (s : RS) (h0 : most ≤ 9223372036854775807) : ((countM most s).1 : Int) ≤ 9223372036854775807 := by
  unfold countM
  split
  · split
    · split
      · simp
      · simp only; omega
    · simp
  · simp
def CountPost (w : World) (p : Nat) (m : Nat × RS) (r : Ending) (w' : World) : Prop := r = .returned (.int .i64 m.1) ∧ IsRd w' p m.2 ∧ Ext (fun b => b = p) w w'
set_option maxRecDepth 100000 in
set_option maxHeartbeats 2000000 in
theorem count_any (w : World) (p : Nat) (most : Int) (s : RS) (h : IsRd w p s) (hm : most ≤ 9223372036854775807) :
    Calls Try.prog 66 #[.pointer (some ⟨p, 0, none⟩), .int .i64 most] w (CountPost w p (countM most s)) := by
  obtain ⟨w1, hw1⟩ : ∃ w1, w1 = (w.alloc (.cells #[.pointer (some ⟨p, 0, none⟩)] 78)).alloc (.cells #[.int .i64 most] 3) := ⟨_, rfl⟩
  have hX : blk w1 w.heap.size = some (.cells #[.pointer (some ⟨p, 0, none⟩)] 78 (0, 0)) := by rw [hw1]; exact (blk_alloc_past _ _ _ (by simp)).trans (blk_alloc_at _ _)
  have hY : blk w1 (w.heap.size + 1) = some (.cells #[.int .i64 most] 3 (0, 0)) := by rw [hw1]; simpa using blk_alloc_at (w.alloc (.cells #[.pointer (some ⟨p, 0, none⟩)] 78)) (.cells #[.int .i64 most] 3)
  have hx1 : Ext (fun _ => False) w w1 := by rw [hw1]; exact ((Ext.refl _ w).alloc _).alloc _
  have hr := read_cnt w1 p w.heap.size (w.heap.size + 1) most s (h.keep hx1) hX hY hm
  have hle := countM_le most s hm
  have c0 : w1.cell? ⟨w.heap.size, 0, none⟩ = some (.pointer (some ⟨p, 0, none⟩)) := by simpa using cell_of_cells hX 0
  have Hr := Lib.hid hr
  have Hx1 := Lib.hid hx1
  obtain ⟨⟨n, s'⟩, hms⟩ : ∃ m, countM most s = m := ⟨_, rfl⟩
  rw [hms] at Hr hle ⊢
  simp only at hle
  clear hr hX hY hx1 h hms
  go_enter Try.func66, Try.ntmps66
  go_upto_region 1 with fail
  rw [← hw1]
  clear hw1
  go_wp2_with fail
  refine Hr.out.mono ?_
  rintro r w2 ⟨rfl, hrd, hx2⟩
  have Hfin := Lib.hid (And.intro hrd ((ext_any Hx1.out (fun b => b = p)).trans hx2))
  clear hrd hx2 c0
  have hwi : IntKind.i64.wrap (n : Int) = n := IntWalk.i64_in _ (by omega)
  go_wp2
  go_ret
  exact ⟨rfl, Hfin.out⟩
end Go.Proofs.Ythligdgkhmgagaa
/-
  Package wire: what a reader reads: Text. Conditions: the reader stands as IsRd says.
-/
namespace Go.Proofs.Ythligdgkhmgagaa
open Go.RowKit Go.MapKept
open Go.ChangeMaps (setBlock)

def textR (l : List UInt8) : Option (List UInt8 × List UInt8) :=
  match getNum l with
  | some (n, r) => if n ≤ r.length then some (r.take n, r.drop n) else none
  | none => none
def textM (s : RS) : List UInt8 × RS := if s.c = 0 then (match textR s.l with | some (t, r) => (t, ⟨r, 0⟩) | none => ([], ⟨[], 11⟩)) else ([], s)
def TxtPost (w : World) (p Y : Nat) (l : List UInt8) (r : Ending) (w' : World) : Prop :=
  match textR l with
  | some (t, rest) => r = .returned (.tuple #[.int .u64 0, .int .i64 0]) ∧ IsRd w' p ⟨rest, 0⟩ ∧ blk w' Y = some (.cells #[.string ⟨t.toArray⟩] 9 (0, 0)) ∧ Ext (fun b => b = p ∨ b = Y) w w'
  | none => r = .returned (.tuple #[.int .u64 0, .int .i64 11]) ∧ (∃ l', IsRd w' p ⟨l', 0⟩) ∧ Ext (fun b => b = p) w w'
set_option maxRecDepth 100000 in
set_option maxHeartbeats 2000000 in
theorem text1_any (w : World) (p X Y : Nat) (l : List UInt8) (h : IsRd w p ⟨l, 0⟩) (hX : blk w X = some (.cells #[.pointer (some ⟨p, 0, none⟩)] 78 (0, 0))) (hY : blk w Y = some (.cells #[.string { data := #[] }] 9 (0, 0))) :
    Calls Try.prog 70 #[.pointer (some ⟨X, 0, none⟩), .pointer (some ⟨Y, 0, none⟩)] w (TxtPost w p Y l) := by
  have hnum := num_any w p _ h
  have c0 : w.cell? ⟨X, 0, none⟩ = some (.pointer (some ⟨p, 0, none⟩)) := by simpa using cell_of_cells hX 0
  have hYp : ¬ Y = p := fun e => by
    obtain ⟨v, hp, _⟩ := h
    subst e; rw [hY] at hp; cases hp
  have hXp : ¬ X = p := fun e => by
    obtain ⟨v, hp, _⟩ := h
    subst e; rw [hX] at hp; cases hp
  have HY := Lib.hid hY
  have HX := Lib.hid hX
  have Hnum := Lib.hid hnum
  have hltX := blk_lt hX
  have hltY := blk_lt hY
  clear hnum hX hY h
  go_enter Try.func70, Try.ntmps70
  go_wp2_with fail
  refine Hnum.out.mono ?_
  rintro r w1 ⟨hx, hr⟩
  have hX1 := (hx.blk hltX hXp).trans HX.out
  have hY1 := (hx.blk hltY hYp).trans HY.out
  have d0 : w1.cell? ⟨X, 0, none⟩ = some (.pointer (some ⟨p, 0, none⟩)) := by simpa using cell_of_cells hX1 0
  have hlt1 := blk_lt hX1
  have HY1 := Lib.hid hY1
  have Hx := Lib.hid hx
  simp only at hr
  clear hX1 hY1 hx c0 HX HY
  cases hg : getNum l with
  | none =>
    have ht : textR l = none := by unfold textR; rw [hg]
    rw [hg] at hr
    obtain ⟨rfl, l', hrd⟩ := hr
    have htake := take_any w1 p _ 0 hrd (by omega)
    have Htake := Lib.hid htake
    have Ht := Lib.hid ht
    clear htake hrd hg ht
    go_wp2_with fail
    refine Htake.out.mono ?_
    rintro r w2 (⟨_, v, rfl, _, hrd2, hx2⟩ | ⟨h1, _⟩)
    · have hfin : TxtPost w p Y l (.returned (.tuple #[.int .u64 0, .int .i64 11])) w2 := by unfold TxtPost; rw [Ht.out]; exact ⟨rfl, ⟨_, hrd2⟩, Hx.out.trans hx2⟩
      have Hfin := Lib.hid hfin
      clear hfin hrd2 hx2
      go_wp2
      go_ret2
      exact Hfin.out
    · omega
  | some nt =>
    obtain ⟨n, t⟩ := nt
    have hn := getNum_lt hg
    rw [hg] at hr
    obtain ⟨rfl, hrd⟩ := hr
    have htake := take_any w1 p _ n hrd (by omega)
    have Htake := Lib.hid htake
    have ht : textR l = if n ≤ t.length then some (t.take n, t.drop n) else none := by unfold textR; rw [hg]
    have Ht := Lib.hid ht
    have Hrd := Lib.hid hrd
    clear htake hrd hg ht
    go_wp2_with fail
    refine Htake.out.mono ?_
    rintro r w2 (⟨hlen, v, rfl, hv, hrd2, hx2⟩ | ⟨hlen, rfl, hw⟩)
    · simp only at hlen hv hrd2
      have hY2 := (hx2.blk (blk_lt HY1.out) hYp).trans HY1.out
      have f0 := free_of_cells hY2 0
      have y0 : w2.cell? ⟨Y, 0, none⟩ = some (.string { data := #[] }) := by simpa using cell_of_cells hY2 0
      have hlt2 := blk_lt hY2
      rw [if_pos hlen] at Ht
      generalize t.take n = T at *
      have hv' := hv
      obtain ⟨av, cv, rfl, _⟩ := hv'
      have hconv := run_bytesAt_string hv
      have hxY : Ext (fun b => b = Y) w2 (w2.setCell ⟨Y, 0, none⟩ (.string ⟨T.toArray⟩)) := (Ext.refl _ w2).setCell _ (fun _ => rfl)
      have hfin : TxtPost w p Y l (.returned (.tuple #[.int .u64 0, .int .i64 0])) (w2.setCell ⟨Y, 0, none⟩ (.string ⟨T.toArray⟩)) := by
        unfold TxtPost
        rw [Ht.out]
        obtain ⟨v2, hp2, hb2⟩ := hrd2
        refine ⟨rfl, ⟨v2, (hxY.blk (blk_lt hp2) (fun e => hYp e.symm)).trans hp2, hb2.ext hxY (fun g cur hc e => by subst e; exact hc.ne hY2 (by decide))⟩, by simpa using blk_setCell_same hY2 0 (.string ⟨T.toArray⟩), ?_⟩
        exact ((Hx.out.trans hx2).mono (fun _ _ e => .inl e)).trans (hxY.mono (fun _ _ e => .inr e))
      have Hfin := Lib.hid hfin
      clear hfin hrd2 hx2 hY2 hv hxY
      go_wp2
      go_ret2
      exact Hfin.out
    · have hfin : TxtPost w p Y l (.returned (.tuple #[.int .u64 0, .int .i64 11])) w2 := by
        unfold TxtPost
        rw [Ht.out, if_neg (by simp only at hlen; omega), hw]
        exact ⟨rfl, ⟨_, Hrd.out⟩, Hx.out⟩
      have Hfin := Lib.hid hfin
      clear hfin hw
      go_wp2
      go_ret2
      exact Hfin.out
def TextPost1 (w : World) (p Y : Nat) (m : List UInt8 × RS) (r : Ending) (w' : World) : Prop :=
  r = .returned (.int .u64 0) ∧ IsRd w' p m.2 ∧ blk w' Y = some (.cells #[.string ⟨m.1.toArray⟩] 9 (0, 0)) ∧ Ext (fun b => b = p ∨ b = Y) w w'
set_option maxRecDepth 100000 in
set_option maxHeartbeats 2000000 in
theorem read_txt (w : World) (p X Y : Nat) (s : RS) (h : IsRd w p s) (hX : blk w X = some (.cells #[.pointer (some ⟨p, 0, none⟩)] 78 (0, 0))) (hY : blk w Y = some (.cells #[.string { data := #[] }] 9 (0, 0))) :
    Calls Try.prog 69 #[.pointer (some ⟨p, 0, none⟩), .func (.func 70) #[] #[.pointer (some ⟨X, 0, none⟩), .pointer (some ⟨Y, 0, none⟩)]] w (TextPost1 w p Y (textM s)) := by
  obtain ⟨l, c⟩ := s
  have h' := h
  obtain ⟨v, hp, hb⟩ := h'
  obtain ⟨y0, y1⟩ := box2 hp
  simp only at y1 hp
  have hYp : ¬ Y = p := fun e => by subst e; rw [hY] at hp; cases hp
  by_cases hc : c = 0
  · subst hc
    have htxt := text1_any w p X Y l h hX hY
    have Htxt := Lib.hid htxt
    have HY := Lib.hid hY
    clear htxt h hp hb hX hY
    go_enter Try.func69, Try.ntmps69
    go_wp2_with fail
    refine Htxt.out.mono ?_
    rintro r w1 hr
    unfold TxtPost at hr
    cases ht : textR l with
    | none =>
      rw [ht] at hr
      obtain ⟨rfl, ⟨l', v1, hp1, _⟩, hx⟩ := hr
      obtain ⟨z0, z1⟩ := box2 hp1
      have g0 := free_of_cells hp1 0
      have g1 := free_of_cells hp1 1
      have hlt := blk_lt hp1
      have hf := rd_fail hp1 11 rfl
      have hm : textM ⟨l, 0⟩ = ([], ⟨[], 11⟩) := by unfold textM; simp only [if_true, ht]
      have hfin : TextPost1 w p Y (textM ⟨l, 0⟩) (.returned (.int .u64 0)) ((w1.setCell ⟨p, 1, none⟩ (.int .i64 11)).setCell ⟨p, 0, none⟩ (.slice none 0 0)) := by
        rw [hm]
        exact ⟨rfl, hf.1, ((hx.trans hf.2).blk (blk_lt HY.out) hYp).trans HY.out, (hx.trans hf.2).mono (fun _ _ e => .inl e)⟩
      have Hfin := Lib.hid hfin
      clear hfin hf hp1 hx ht hm
      go_wp2
      go_ret
      exact Hfin.out
    | some tr =>
      obtain ⟨t, rest⟩ := tr
      rw [ht] at hr
      obtain ⟨rfl, hrd, hY1, hx⟩ := hr
      have hm : textM ⟨l, 0⟩ = (t, ⟨rest, 0⟩) := by unfold textM; simp only [if_true, ht]
      have hfin : TextPost1 w p Y (textM ⟨l, 0⟩) (.returned (.int .u64 0)) w1 := by rw [hm]; exact ⟨rfl, hrd, hY1, hx⟩
      have Hfin := Lib.hid hfin
      clear hfin hrd hY1 hx ht hm
      go_wp2
      go_ret
      exact Hfin.out
  · have hc' : (c == 0) = false := by simpa using hc
    have hm : textM ⟨l, c⟩ = ([], ⟨l, c⟩) := by unfold textM; rw [if_neg hc]
    have hfin : TextPost1 w p Y (textM ⟨l, c⟩) (.returned (.int .u64 0)) w := by rw [hm]; exact ⟨rfl, h, hY, Ext.refl _ _⟩
    have Hfin := Lib.hid hfin
    clear hfin hm h hp hb hX hY hc
    go_enter Try.func69, Try.ntmps69
    go_wp2
    go_ret
    exact Hfin.out
def TextPost (w : World) (p : Nat) (m : List UInt8 × RS) (r : Ending) (w' : World) : Prop := r = .returned (.string ⟨m.1.toArray⟩) ∧ IsRd w' p m.2 ∧ Ext (fun b => b = p) w w'
set_option maxRecDepth 100000 in
set_option maxHeartbeats 2000000 in
theorem text_any (w : World) (p : Nat) (s : RS) (h : IsRd w p s) : Calls Try.prog 37 #[.pointer (some ⟨p, 0, none⟩)] w (TextPost w p (textM s)) := by
  obtain ⟨w1, hw1⟩ : ∃ w1, w1 = (w.alloc (.cells #[.pointer (some ⟨p, 0, none⟩)] 78)).alloc (.cells #[.string { data := #[] }] 9) := ⟨_, rfl⟩
  have hX : blk w1 w.heap.size = some (.cells #[.pointer (some ⟨p, 0, none⟩)] 78 (0, 0)) := by rw [hw1]; exact (blk_alloc_past _ _ _ (by simp)).trans (blk_alloc_at _ _)
  have hY : blk w1 (w.heap.size + 1) = some (.cells #[.string { data := #[] }] 9 (0, 0)) := by rw [hw1]; simpa using blk_alloc_at (w.alloc (.cells #[.pointer (some ⟨p, 0, none⟩)] 78)) (.cells #[.string { data := #[] }] 9)
  have hx1 : Ext (fun _ => False) w w1 := by rw [hw1]; exact ((Ext.refl _ w).alloc _).alloc _
  have hr := read_txt w1 p w.heap.size (w.heap.size + 1) s (h.keep hx1) hX hY
  have c0 : w1.cell? ⟨w.heap.size, 0, none⟩ = some (.pointer (some ⟨p, 0, none⟩)) := by simpa using cell_of_cells hX 0
  have Hr := Lib.hid hr
  have Hx1 := Lib.hid hx1
  generalize textM s = m at *
  clear hr hX hY hx1 h
  go_enter Try.func37, Try.ntmps37
  go_upto_region 2 with fail
  rw [← hw1]
  clear hw1
  go_wp2_with fail
  refine Hr.out.mono ?_
  rintro r w2 ⟨rfl, hrd, hY2, hx2⟩
  have d0 : w2.cell? ⟨w.heap.size + 1, 0, none⟩ = some (.string ⟨m.1.toArray⟩) := by simpa using cell_of_cells hY2 0
  have Hfin := Lib.hid (And.intro hrd ((ext_any Hx1.out (fun b => b = p)).trans' hx2 (fun k hk e => e.elim id (fun e => absurd hk (by omega)))))
  clear hrd hx2 hY2 c0
  go_wp2
  go_ret
  exact ⟨rfl, Hfin.out⟩
end Go.Proofs.Ythligdgkhmgagaa
