/-
  Package store: what lies in memory (IsStore); set, get, put, cas, add return what the model says. Conditions: as IsStore says.
-/
import Derived.Test.YthipbmppmgkklaaWB
namespace Go.Proofs.Ythipbmppmgkklaa
open Go.RowKit Go.MapKept
open Go.ChangeMaps (setBlock)

abbrev KM := List (ByteArray × Int)
def kmv (m : KM) : List (ByteArray × Value) := m.map fun p => (p.1, .int .i64 p.2)
def IsStore (w : World) (sb mb : Nat) (m : KM) : Prop :=
  blk w sb = some (.cells #[.map (some mb)] 78 (0, 0)) ∧ ∃ es clock, blk w mb = some (.map es clock) ∧ StrMap es (kmv m) ∧ Stamped es clock
structure Rs where
  c : Int
  f : Bool
  v : Int
def Rs.val (r : Rs) : Value := .agg #[.int .i64 r.c, .bool r.f, .int .i64 r.v]
def fits (m : KM) (k : ByteArray) : Bool := (assoc m k).isSome || decide (m.length < 1024)
def setM (m : KM) (k : ByteArray) (n : Int) : KM × Rs := if fits m k then (aput m k n, ⟨0, true, n⟩) else (m, ⟨8, false, 0⟩)
theorem assoc_kmv (m : KM) (k : ByteArray) : assoc (kmv m) k = (assoc m k).map (Value.int .i64) := by
  induction m with
  | nil => rfl
  | cons p r ih =>
    obtain ⟨a, b⟩ := p
    simp only [kmv, List.map_cons, assoc] at *
    split
    · rfl
    · exact ih
theorem aput_kmv (m : KM) (k : ByteArray) (n : Int) : aput (kmv m) k (.int .i64 n) = kmv (aput m k n) := by
  induction m with
  | nil => rfl
  | cons p r ih =>
    obtain ⟨a, b⟩ := p
    simp only [kmv, List.map_cons, aput] at *
    split
    · rfl
    · rw [ih]; rfl
theorem StrMap.size {es : Array MapEntry} {l : List (ByteArray × Value)} (h : StrMap es l) : es.size = l.length := by
  have := congrArg List.length h
  simpa using this
/-- the post of an operation -/
def OpPost (w : World) (sb mb : Nat) (p : KM × Rs) (r : Ending) (w' : World) : Prop :=
  r = .returned p.2.val ∧ IsStore w' sb mb p.1 ∧ Ext (fun b => b = mb) w w'
theorem IsStore.ne {w : World} {sb mb : Nat} {m : KM} (h : IsStore w sb mb m) : sb ≠ mb := by
  obtain ⟨h1, es, c, h2, _⟩ := h
  intro e; subst e; rw [h1] at h2; cases h2
theorem IsStore.lt {w : World} {sb mb : Nat} {m : KM} (h : IsStore w sb mb m) : sb < w.heap.size ∧ mb < w.heap.size := by
  obtain ⟨h1, es, c, h2, _⟩ := h
  exact ⟨blk_lt h1, blk_lt h2⟩
theorem IsStore.ext {S : Nat → Prop} {w w' : World} {sb mb : Nat} {m : KM} (h : IsStore w sb mb m) (hx : Ext S w w') (h1 : ¬ S sb) (h2 : ¬ S mb) : IsStore w' sb mb m := by
  have ⟨a, es, c, b, d⟩ := h
  exact ⟨(hx.blk h.lt.1 h1).trans a, es, c, (hx.blk h.lt.2 h2).trans b, d⟩
theorem assoc_none {α : Type} {l : List (ByteArray × α)} {s : ByteArray} (h : assoc l s = none) : ∀ p ∈ l, p.1 ≠ s := by
  induction l with
  | nil => intro p hp; cases hp
  | cons q r ih =>
    obtain ⟨a, b⟩ := q
    simp only [assoc] at h
    split at h
    · cases h
    · rename_i hn
      intro p hp
      rcases List.mem_cons.1 hp with rfl | hp
      · exact hn
      · exact ih h p hp
/-- 'run_update_str', the stamps kept -/
theorem run_update_st {P : Program} {t k e : TypeId} {b : Nat} {es : Array MapEntry} {clock : Nat} {l : List (ByteArray × Value)} (ht : P.underlying t = some (.map k e)) (hk : P.underlying k = some .string) (hl : StrMap es l) (hst : Stamped es clock) (s : ByteArray) (u : Value) :
    ∃ es' clock', (∀ w : World, blk w b = some (.map es clock) → (Instr.mapUpdate t (.map (some b)) (.string s) u).run P w = .ok () (setBlock w b (.map es' clock'))) ∧ StrMap es' (aput l s u) ∧ Stamped es' clock' := by
  rcases findNow_str s es.toList l 0 hl with ⟨h1, h2, h3⟩ | ⟨j, e', v, h1, h2, h4, h5, h6⟩
  · refine ⟨es.push { key := .string s, val := u, born := clock }, clock + 1, fun w hb => ?_, ?_, ?_⟩
    · simp [Instr.mapUpdate, run_underlying ht, MapKept.run_getObj_map hb, MapKept.run_checkKey hk (show IsKey .string (.string s) from trivial), MapKept.run_findKey hk h2, Result.andThen, MapKept.run_setObj_map _ hb, ChangeMaps.setBlock]
    · unfold StrMap at *
      simp [hl, h3]
    · refine stamped_push hst (fun x hx e => ?_)
      have : (x.key, x.val) ∈ es.toList.map (fun e => (e.key, e.val)) := List.mem_map.2 ⟨x, hx, rfl⟩
      rw [hl] at this
      obtain ⟨p, hp, hpe⟩ := List.mem_map.1 this
      refine assoc_none h1 p hp ?_
      have hk2 : Value.string p.1 = x.key := congrArg Prod.fst hpe
      rw [e] at hk2
      exact Value.string.inj hk2
  · refine ⟨es.modify j fun e => { e with key := .string s, val := u }, clock, fun w hb => ?_, ?_, ?_⟩
    · have h4' : es[j]? = some e' := by simpa using h4
      simp only [Nat.zero_add] at h2
      simp [Instr.mapUpdate, run_underlying ht, MapKept.run_getObj_map hb, MapKept.run_checkKey hk (show IsKey .string (.string s) from trivial), MapKept.run_findKey hk h2, Result.andThen, MapKept.run_setObj_map _ hb, ChangeMaps.setBlock, h4', h5, run_keyThatStays (show IsKey .string (.string s) from trivial)]
    · unfold StrMap
      have := h6 u
      rw [Array.toList_modify]
      exact this
    · refine stamped_modify hst j _ (fun _ _ => rfl) (fun x _ hx => ?_)
      have h4' : es[j]? = some e' := by simpa using h4
      rw [h4'] at hx
      cases hx
      exact h5.symm
theorem zeroInt64 (w : World) : (zeroValue 2).run Try.prog w = .ok (.int .i64 0) w := by kernel_rfl
theorem run_len_map {es : Array MapEntry} {clock : Nat} {mb : Nat} {m : KM} (hl : StrMap es (kmv m)) (ty : TypeId) (W : World) (h : blk W mb = some (.map es clock)) :
    (Builtin.len_ #[76] ty #[.map (some mb)]).run Try.prog W = .ok (.int .i64 m.length) W := by
  have e : es.size = m.length := by rw [hl.size]; simp [kmv]
  simp [Builtin.len_, run_underlying Try.underlying76, MapKept.run_getObj_map h, Result.andThen, goInt, e]

/-- a block of three cells, written whole -/
theorem blk_set3 {w : World} {b : Nat} {v0 v1 v2 : Value} {t : TypeId} (h : blk w b = some (.cells #[v0, v1, v2] t (0, 0))) (u0 u1 u2 : Value) :
    blk (((w.setCell ⟨b, 0, none⟩ u0).setCell ⟨b, 1, none⟩ u1).setCell ⟨b, 2, none⟩ u2) b = some (.cells #[u0, u1, u2] t (0, 0)) := by
  simpa using blk_setCell_same (blk_setCell_same (blk_setCell_same h 0 u0) 1 u1) 2 u2
theorem ext_set3 (w : World) (b : Nat) (u0 u1 u2 : Value) : Ext (fun x => x = b) w (((w.setCell ⟨b, 0, none⟩ u0).setCell ⟨b, 1, none⟩ u1).setCell ⟨b, 2, none⟩ u2) :=
  (((Ext.refl (fun x => x = b) w).setCell (p := ⟨b, 0, none⟩) u0 (fun _ => rfl)).setCell (p := ⟨b, 1, none⟩) u1 (fun _ => rfl)).setCell (p := ⟨b, 2, none⟩) u2 (fun _ => rfl)
set_option maxRecDepth 100000 in
set_option maxHeartbeats 1000000 in
theorem set_any (w : World) (sb mb : Nat) (m : KM) (hs : IsStore w sb mb m) (k : ByteArray) (n : Int) (hm : m.length ≤ 1000000) :
    Calls Try.prog 61 #[.pointer (some ⟨sb, 0, none⟩), .string k, .int .i64 n] w (OpPost w sb mb (setM m k n)) := by
  have ⟨hc, es, clock, hb, hl, hst⟩ := hs
  have hlk : ∀ W : World, blk W mb = some (.map es clock) → (Instr.lookup 76 (.map (some mb)) (.string k) true).run Try.prog W = .ok (.tuple #[.int .i64 ((assoc m k).getD 0), .bool (assoc m k).isSome]) W := fun W hW => by
    have := run_lookup_str (P := Try.prog) Try.underlying76 Try.underlying9 hW hl (zeroInt64 W) k true
    rw [assoc_kmv] at this
    cases h : assoc m k <;> simpa [h] using this
  have hln : ∀ (ty : TypeId) (W : World), blk W mb = some (.map es clock) → (Builtin.len_ #[76] ty #[.map (some mb)]).run Try.prog W = .ok (.int .i64 m.length) W := fun ty W h => run_len_map hl ty W h
  obtain ⟨es', clock', hup, hl'⟩ := run_update_st (P := Try.prog) (b := mb) (clock := clock) Try.underlying76 Try.underlying9 hl hst k (.int .i64 n)
  rw [aput_kmv] at hl'
  have hsb := blk_lt hc
  have hmb := blk_lt hb
  obtain ⟨f0, f1, f2, f3, f4, f5⟩ := ne_sizes hmb
  obtain ⟨g1, g2, g3, _⟩ := lt_sizes hsb
  have hc0 := cell_of_cells hc 0
  simp at hc0
  have Hs := Lib.hid hs
  have Hl' := Lib.hid hl'
  have Hc := Lib.hid hc
  clear hs hl' hc hst
  have hne := Hs.out.ne
  have hput : ∀ (w5 : World), w5 = setBlock (w.alloc (.cells #[.int .i64 0, .bool false, .int .i64 0] 31)) mb (.map es' clock') → blk w5 w.heap.size = some (.cells #[.int .i64 0, .bool false, .int .i64 0] 31 (0, 0)) ∧ IsStore w5 sb mb (aput m k n) ∧ Ext (fun b => b = mb) w w5 := fun w5 e => by
    subst e
    have hbm : blk (w.alloc (.cells #[.int .i64 0, .bool false, .int .i64 0] 31)) mb = some (.map es clock) := (blk_alloc_past _ _ _ hmb).trans hb
    refine ⟨(blk_setBlock_other _ _ _ _ (Nat.ne_of_gt hmb)).trans (blk_alloc_at _ _), ⟨?_, es', clock', blk_setBlock_same hbm _, Hl'.out⟩, ((Ext.refl _ w).alloc _).setBlock _ _ (fun _ => rfl)⟩
    rw [blk_setBlock_other _ _ _ _ hne, blk_alloc_past _ _ _ hsb]
    exact Hc.out
  have Hput := Lib.hid hput
  clear hne hput
  by_cases h2 : fits m k = true
  · have hset : setM m k n = (aput m k n, ⟨0, true, n⟩) := by simp [setM, h2]
    have HS := Lib.hid hset
    clear hset
    by_cases h1 : (assoc m k).isSome = true
    all_goals
      have h2' : (assoc m k).isSome = false → (m.length : Int) < 1024 := fun h => by
        unfold fits at h2; rw [h] at h2; simp at h2; omega
      have H2 := Lib.hid h2'
      clear h2' h2
      first
        | (rw [h1] at hlk; clear h1 H2)
        | (have h3 := H2.out (by simpa using h1); rw [show (assoc m k).isSome = false by simpa using h1] at hlk; clear h1 H2)
      go_enter Try.func61, Try.ntmps61
      go_upto_region 5 with fail
      generalize hw5 : setBlock (w.alloc (.cells #[.int .i64 0, .bool false, .int .i64 0] 31)) mb (.map es' clock') = w5
      obtain ⟨hb5, hs5, hx5⟩ := Hput.out w5 hw5.symm
      have c0 := cell_of_cells hb5 0
      have c1 := cell_of_cells hb5 1
      have c2 := cell_of_cells hb5 2
      simp at c0 c1 c2
      have f0 := free_of_cells hb5 0
      have f1 := free_of_cells hb5 1
      have f2 := free_of_cells hb5 2
      have hlt5 : w.heap.size < w5.heap.size := blk_lt hb5
      have Hs5 := Lib.hid hs5
      have Hx5 := Lib.hid hx5
      have hb6 := blk_set3 hb5 (.int .i64 0) (.bool true) (.int .i64 n)
      have Hb6 := Lib.hid hb6
      clear hb6
      have nb1 : ¬ sb = w.heap.size := by omega
      clear hb5 hs5 hx5 hw5 hlk hln hup hb hc0
      go_wp2
      have hb6 := Hb6.out
      have hx6 : Ext (fun b => b = w.heap.size) w5 (((w5.setCell ⟨w.heap.size, 0, none⟩ (.int .i64 0)).setCell ⟨w.heap.size, 1, none⟩ (.bool true)).setCell ⟨w.heap.size, 2, none⟩ (.int .i64 n)) := ext_set3 w5 w.heap.size _ _ _
      clear c0 c1 c2 f0 f1 f2
      generalize ((w5.setCell ⟨w.heap.size, 0, none⟩ (.int .i64 0)).setCell ⟨w.heap.size, 1, none⟩ (.bool true)).setCell ⟨w.heap.size, 2, none⟩ (.int .i64 n) = w6 at *
      have c0 := cell_of_cells hb6 0
      have c1 := cell_of_cells hb6 1
      have c2 := cell_of_cells hb6 2
      simp at c0 c1 c2
      refine bodyPost_ret (v := .agg #[.int .i64 0, .bool true, .int .i64 n]) (by simp [results, Try.results61, go_sem, c0, c1, c2]) rfl ⟨?_, ?_, ?_⟩
      · rw [HS.out]; rfl
      · rw [HS.out]; exact Hs5.out.ext hx6 nb1 (by omega)
      · exact Ext.trans' (T := fun b => b = w.heap.size) Hx5.out hx6 (fun k hk e => absurd hk (by omega))
  · have hset : setM m k n = (m, ⟨8, false, 0⟩) := by simp [setM, h2]
    have hf : (assoc m k).isSome = false ∧ ¬ (m.length : Int) < 1024 := by
      unfold fits at h2
      simp at h2
      exact ⟨by simp [h2.1], by omega⟩
    obtain ⟨hf1, hf2⟩ := hf
    have HS := Lib.hid hset
    rw [hf1] at hlk
    clear hset h2 hf1
    go_enter Try.func61, Try.ntmps61
    go_wp2
    refine bodyPost_ret (v := .agg #[.int .i64 8, .bool false, .int .i64 0]) (by simp [results, Try.results61, go_sem]) rfl ⟨?_, ?_, ?_⟩
    · rw [HS.out]; rfl
    · rw [HS.out]; exact Hs.out.ext (S := fun _ => False) ((Ext.refl _ w).alloc _) id id
    · exact (Ext.refl _ w).alloc _
end Go.Proofs.Ythipbmppmgkklaa
