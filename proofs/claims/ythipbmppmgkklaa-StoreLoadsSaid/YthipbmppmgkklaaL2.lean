/-
  Package store: Load. Conditions: the store's cell; the text is small.
-/
import Derived.Test.YthipbmppmgkklaaL1
namespace Go.Proofs.Ythipbmppmgkklaa
open Go.RowKit Go.MapKept
open Go.ChangeMaps (setBlock)

theorem list_modify_last {α : Type} (l : List α) (a : α) (f : α → α) : (l ++ [a]).modify l.length f = l ++ [f a] := by
  induction l with
  | nil => rfl
  | cons x r ih => rw [List.cons_append, List.length_cons, List.modify_succ_cons, ih]; rfl
section
variable {P : Program} {t k e : TypeId} {b clock : Nat} {es : Array MapEntry} {l : List (ByteArray × Value)}
/-- 'm[s], .. = v, ..' where the map has no s: the entry is laid, then its value is stored -/
theorem run_entry_new (ht : P.underlying t = some (.map k e)) (hk : P.underlying k = some .string) {z : Value} (hz : ∀ u : World, (zeroValue e).run P u = .ok z u) (hl : StrMap es l) (hst : Stamped es clock) (s : ByteArray) (habs : assoc l s = none) :
    ∃ O, (∀ w : World, blk w b = some (.map es clock) → (Instr.mapEntry t (.map (some b)) (.string s)).run P w = .ok (.tuple #[z, .int .i64 clock]) (setBlock w b O)) ∧
      ∀ u : Value, ∃ es' clock', (∀ w : World, blk w b = some O → (Instr.entryStore t (.map (some b)) (.int .i64 clock) u).run P w = .ok () (setBlock w b (.map es' clock'))) ∧ StrMap es' (l ++ [(s, u)]) ∧ Stamped es' clock' := by
  have hl' := hl
  unfold StrMap at hl'
  rcases findNow_str s es.toList l 0 hl' with ⟨h1, h2, h3⟩ | ⟨j, e', v, h1, _⟩
  · have hnew : ∀ x ∈ es.toList, x.key ≠ .string s := fun x hx he => by
      have : (x.key, x.val) ∈ es.toList.map (fun e => (e.key, e.val)) := List.mem_map.2 ⟨x, hx, rfl⟩
      rw [hl'] at this
      obtain ⟨p, hp, hpe⟩ := List.mem_map.1 this
      have h5 : Value.string p.1 = x.key := congrArg Prod.fst hpe
      rw [he] at h5
      have h6 : p.1 = s := by cases h5; rfl
      exact kget_none (by rw [← assoc_k]; exact habs) p hp h6
    refine ⟨.map (es.push { key := .string s, val := z, born := clock }) (clock + 1), fun w hb => ?_, fun u => ⟨es.push { key := .string s, val := u, born := clock }, clock + 1, fun w hb => ?_, ?_, ?_⟩⟩
    · simp [Instr.mapEntry, run_underlying ht, MapKept.run_getObj_map hb, MapKept.run_checkKey hk (show IsKey .string (.string s) from trivial), MapKept.run_findKey hk h2, hz, Result.andThen, MapKept.run_setObj_map _ hb, setBlock, goInt]
    · have hidx : (es.push (⟨.string s, z, clock⟩ : MapEntry)).findIdx? (fun e => ((e.born : Nat) : Int) == ((clock : Nat) : Int)) = some es.size := by
        rw [Array.findIdx?_push]
        have hn : es.findIdx? (fun e => ((e.born : Nat) : Int) == ((clock : Nat) : Int)) = none := by
          rw [Array.findIdx?_eq_none_iff]
          intro x hx
          have := hst.1 x (by simpa using hx)
          simp; omega
        rw [hn]; simp
      have hmod : (es.push (⟨.string s, z, clock⟩ : MapEntry)).modify es.size (fun e => { e with val := u }) = es.push ⟨.string s, u, clock⟩ := by
        apply Array.ext'
        rw [Array.toList_modify, Array.toList_push, Array.toList_push, ← Array.length_toList, list_modify_last]
      simp [Instr.entryStore, MapKept.run_getObj_map hb, asInt, asIntOf, hidx, hmod, MapKept.run_setObj_map _ hb, Result.andThen, setBlock]
    · unfold StrMap
      simp [hl']
    · exact stamped_push hst hnew
  · rw [habs] at h1; cases h1
end
theorem kmv_snoc (acc : KM) (k : ByteArray) (n : Int) : kmv (acc ++ [(k, n)]) = kmv acc ++ [(k, .int .i64 n)] := by unfold kmv; simp
/-- the keys so far are not above the last -/
def UpTo (acc : KM) (last : ByteArray) : Prop := ∀ p ∈ acc, leS p.1 last = true
theorem UpTo.none {acc : KM} {last n : ByteArray} (h : UpTo acc last) (hn : leS n last = false) : assoc acc n = none := by
  cases ha : assoc acc n with
  | none => rfl
  | some v =>
    have := h _ (mem_of_assoc' ha)
    simp only at this
    rw [hn] at this; cases this
theorem UpTo.snoc {acc : KM} {last n : ByteArray} (h : UpTo acc last) (hn : leS n last = false) (x : Int) : UpTo (acc ++ [(n, x)]) n := fun p hp => by
  have hln : leS last n = true := by
    have := linS.total n last
    rw [hn] at this; simpa using this
  rcases List.mem_append.1 hp with hp | hp
  · exact linS.trans _ _ _ (h p hp) hln
  · simp at hp; subst hp
    have := linS.total n n
    simpa using this
def IsMap (w : World) (mb : Nat) (m : KM) : Prop := ∃ es clock, blk w mb = some (.map es clock) ∧ StrMap es (kmv m) ∧ Stamped es clock
theorem IsMap.ext {S : Nat → Prop} {w w' : World} {mb : Nat} {m : KM} (h : IsMap w mb m) (hx : Ext S w w') (hn : ¬ S mb) : IsMap w' mb m := by
  obtain ⟨es, c, h1, h2, h3⟩ := h
  exact ⟨es, c, (hx.blk (blk_lt h1) hn).trans h1, h2, h3⟩
theorem IsRd.ext {w w' : World} {p : Nat} {s : RS} {S : Nat → Prop} (h : IsRd w p s) (hx : Ext S w w') (h0 : ¬ S p) (hn : ∀ g cur, U8 w g cur → ¬ S g) : IsRd w' p s := by
  obtain ⟨v, hp, hv⟩ := h
  exact ⟨v, (hx.blk (blk_lt hp) h0).trans hp, hv.ext hx hn⟩
/-- while it reads: everything is the call's own -/
structure LdSt (w wi : World) (p mb : Nat) (m : KM) (s : RS) : Prop where
  ext : Ext (fun _ => False) w wi
  rd : IsRd wi p s
  map : IsMap wi mb m
  np : w.heap.size ≤ p
  nm : w.heap.size ≤ mb
theorem LdSt.keep {w wi w' : World} {p mb : Nat} {m : KM} {s : RS} (h : LdSt w wi p mb m s) (hx : Ext (fun _ => False) wi w') : LdSt w w' p mb m s :=
  ⟨h.ext.trans hx, h.rd.keep hx, h.map.ext hx id, h.np, h.nm⟩
theorem LdSt.read {w wi w' : World} {p mb : Nat} {m : KM} {s s' : RS} (h : LdSt w wi p mb m s) (hx : Ext (fun b => b = p) wi w') (hr : IsRd w' p s') : LdSt w w' p mb m s' := by
  obtain ⟨v, hp, _⟩ := h.rd
  refine ⟨h.ext.trans' hx (fun k hk (e : k = p) => absurd h.np (by omega)), hr, h.map.ext hx (fun (e : mb = p) => ?_), h.np, h.nm⟩
  obtain ⟨es, c, h2, _⟩ := h.map
  rw [e, hp] at h2; cases h2
theorem LdSt.put {w wi : World} {p mb : Nat} {m : KM} {s : RS} (h : LdSt w wi p mb m s) {O : Obj} {m' : KM} {es' : Array MapEntry} {c' : Nat} (h1 : StrMap es' (kmv m')) (h2 : Stamped es' c') : LdSt w (setBlock (setBlock wi mb O) mb (.map es' c')) p mb m' s := by
  obtain ⟨v, hp, hv⟩ := id h.rd
  obtain ⟨es, c, hm, _⟩ := id h.map
  have hX : Ext (fun b => b = mb) wi (setBlock (setBlock wi mb O) mb (.map es' c')) := ((Ext.refl (fun b => b = mb) wi).setBlock mb O (fun _ => rfl)).setBlock mb _ (fun _ => rfl)
  refine ⟨h.ext.trans' hX (fun k hk (e : k = mb) => absurd h.nm (by omega)), h.rd.ext hX (fun (e : p = mb) => ?_) (fun g cur hc (e : g = mb) => ?_), ⟨es', c', blk_setBlock_same (blk_setBlock_same hm _) _, h1, h2⟩, h.np, h.nm⟩
  · rw [← e, hp] at hm; cases hm
  · obtain ⟨f, hc⟩ := hc
    rw [e, hm] at hc; cases hc
/-- Load's end -/
def LoadPost (w : World) (sb : Nat) (b : ByteArray) (r : Ending) (w' : World) : Prop :=
  match loadL b.data.toList with
  | some K => r = .returned (.int .i64 0) ∧ (∃ mb, IsStore w' sb mb K ∧ w.heap.size ≤ mb) ∧ Ext (fun k => k = sb) w w'
  | none => r = .returned (.int .i64 11) ∧ Ext (fun _ => False) w w'
theorem load_none {w w' : World} {sb : Nat} {b : ByteArray} (h : loadL b.data.toList = none) (hx : Ext (fun _ => False) w w') : LoadPost w sb b (.returned (.int .i64 11)) w' := by
  unfold LoadPost; rw [h]; exact ⟨rfl, hx⟩
theorem load_some {w wi : World} {p mb sb : Nat} {K : KM} {s : RS} {b : ByteArray} (h : LdSt w wi p mb K s) (hl : loadL b.data.toList = some K) {v : Value} (hsb : blk w sb = some (.cells #[v] 78 (0, 0))) :
    LoadPost w sb b (.returned (.int .i64 0)) (wi.setCell ⟨sb, 0, none⟩ (.map (some mb))) := by
  unfold LoadPost; rw [hl]
  have hlt := blk_lt hsb
  have hx : Ext (fun k => k = sb) wi (wi.setCell ⟨sb, 0, none⟩ (.map (some mb))) := (Ext.refl _ wi).setCell _ (fun _ => rfl)
  have hm := h.map.ext hx (fun (e : mb = sb) => by have := h.nm; omega)
  have hr := (h.ext.blk hlt id).trans hsb
  exact ⟨rfl, ⟨mb, ⟨by simpa using blk_setCell_same hr 0 (.map (some mb)), hm⟩, h.nm⟩, (h.ext.mono (fun _ _ h => h.elim)).trans hx⟩
theorem IsRd.small {w : World} {p : Nat} {s : RS} (h : IsRd w p s) : s.l.length ≤ 9223372036854775807 := by
  obtain ⟨v, _, ao, c, _, h1, h2, _⟩ := h
  exact Nat.le_trans h1 h2
theorem countM_most (most : Nat) (s : RS) : (countM most s).1 ≤ most := by
  unfold countM
  split
  · split
    · rename_i n t _
      by_cases h : (most : Int) < 0 ∨ (most : Int) < n
      · rw [if_pos h]; omega
      · rw [if_neg h]; simp only; omega
    · simp
  · simp
theorem getNum_len {l t : List UInt8} {n : Nat} (h : getNum l = some (n, t)) : t.length ≤ l.length := by
  rw [(getNum_inv h).1]; simp
theorem textM_le (s : RS) : (textM s).1.length ≤ s.l.length := by
  unfold textM textR
  split
  · cases hg : getNum s.l with
    | none => simp
    | some x =>
      obtain ⟨n, r⟩ := x
      have := getNum_len hg
      by_cases hn : n ≤ r.length
      · simp only [if_pos hn, List.length_take]; omega
      · simp only [if_neg hn]; simp
  · simp
set_option maxRecDepth 100000 in
set_option maxHeartbeats 4000000 in
theorem load_any (w : World) (sb : Nat) (v0 : Value) (hsb : blk w sb = some (.cells #[v0] 78 (0, 0))) (b : ByteArray) (hs : b.size ≤ 1000000) :
    Calls Try.prog 25 #[.pointer (some ⟨sb, 0, none⟩), .string b] w (LoadPost w sb b) := by
  obtain ⟨cap, w1, hcv, hb1, hx1⟩ := run_string_bytesAt w b hs
  have hll : b.data.toList.length = b.size := Array.length_toList
  have hnew := newreader_any w1 _ _ _ _ hb1 (by rw [hll]; exact hs)
  have hlp : loadL b.data.toList = finL (rowsL (countM 1024 ⟨b.data.toList, 0⟩).1 { data := #[] } [] (countM 1024 ⟨b.data.toList, 0⟩).2) := rfl
  have hle := countM_most 1024 ⟨b.data.toList, 0⟩
  have hcnt := fun (W : World) (p : Nat) (h : IsRd W p ⟨b.data.toList, 0⟩) => count_any W p 1024 _ h (by omega)
  obtain ⟨⟨N, s0⟩, hN⟩ : ∃ m, countM 1024 ⟨b.data.toList, 0⟩ = m := ⟨_, rfl⟩
  rw [hN] at hlp
  have hN' : countM ((1024 : Nat) : Int) ⟨b.data.toList, 0⟩ = (N, s0) := hN
  rw [hN'] at hle
  simp only [hN] at hcnt
  simp only at hlp hle
  have hmm := @run_makeMap Try.prog
  have Hcnt := Lib.hid hcnt
  have Hnew := Lib.hid hnew
  have Hlp := Lib.hid hlp
  have Hx1 := Lib.hid hx1
  have Hsb := Lib.hid hsb
  clear hcnt hnew hlp hx1 hsb hN hN' hb1 hll
  go_enter Try.func25, Try.ntmps25
  go_wp2_with fail
  refine Hnew.out.mono ?_
  rintro r w2 ⟨p, rfl, hrd2, hx2, hp2⟩
  have Hrd2 := Lib.hid hrd2
  have Hx2 := Lib.hid (Hx1.out.trans hx2)
  have hpw : w.heap.size ≤ p := Nat.le_trans Hx1.out.size hp2
  clear hrd2 hx2 hcv hp2 Hx1 Hnew
  go_upto_region 3 with fail
  obtain ⟨w3, hw3⟩ : ∃ w3, w3 = w2.alloc (.map #[] 0) := ⟨_, rfl⟩
  have hb3 : blk w3 w2.heap.size = some (.map #[] 0) := by rw [hw3]; exact blk_alloc_at _ _
  have hx3 : Ext (fun _ => False) w2 w3 := by rw [hw3]; exact (Ext.refl _ w2).alloc _
  rw [← hw3]
  have hI3 : LdSt w w3 p w2.heap.size [] ⟨b.data.toList, 0⟩ := ⟨Hx2.out.trans hx3, Hrd2.out.keep hx3, ⟨#[], 0, hb3, rfl, stamped_empty 0⟩, hpw, Hx2.out.size⟩
  generalize w2.heap.size = mb at *
  have HI3 := Lib.hid hI3
  clear hI3 hw3 hb3 hx3 hmm Hrd2 Hx2 hpw
  go_wp2_with fail
  refine (Hcnt.out w3 p HI3.out.rd).mono ?_
  rintro r w4 ⟨rfl, hrd4, hx4⟩
  have HI4 := Lib.hid (HI3.out.read hx4 hrd4)
  clear hrd4 hx4 HI3 Hcnt
  simp only at HI4 ⊢
  go_wp2_with fail
  go_loopg [7, 15] N (fun q v7 v15 wr => ∃ (j : Nat) (last : ByteArray) (acc : KM) (s : RS), j ≤ N ∧ q = N - j ∧ v7 = .string last ∧ v15 = .int .i64 j ∧ LdSt w wr p mb acc s ∧ UpTo acc last ∧ loadL b.data.toList = finL (rowsL (N - j) last acc s))
  case atStart => exact ⟨0, _, [], s0, Nat.zero_le _, rfl, rfl, rfl, HI4.out, (fun _ h => (by cases h)), Hlp.out⟩
  case round =>
    obtain ⟨j, last, acc, s, hj, rfl, rfl, rfl, hI, hup, hlp⟩ := hrel
    clear HI4 Hlp
    by_cases hjN : j < N
    · have hstep : N - j = (N - (j + 1)) + 1 := by omega
      rw [hstep] at hlp
      have htx := text_any wr p s hI.rd
      have htl := textM_le s
      have hsm := hI.rd.small
      have hyes := fun h => rowsL_yes (k := N - (j + 1)) (last := last) (acc := acc) (s := s) h
      have hno := fun h => rowsL_no (k := N - (j + 1)) (last := last) (acc := acc) (s := s) h
      have hin := fun (W : World) (h : IsRd W p (textM s).2) => int_any W p _ h
      obtain ⟨⟨tl, s1⟩, ht⟩ : ∃ m, textM s = m := ⟨_, rfl⟩
      rw [ht] at htx htl
      simp only [ht] at hin hyes hno
      simp only at htl
      obtain ⟨⟨x, s2⟩, him⟩ : ∃ m, intM s1 = m := ⟨_, rfl⟩
      simp only [him] at hin hyes
      have htz : (ofL tl).size ≤ 9223372036854775807 := by
        rw [ofL_size]; omega
      have htx' : Calls Try.prog 51 #[.pointer (some ⟨p, 0, none⟩)] wr fun r w' => r = .returned (.string (ofL tl)) ∧ IsRd w' p s1 ∧ Ext (fun b => b = p) wr w' := htx
      generalize ofL tl = t at *
      have Htx := Lib.hid htx'
      have Hin := Lib.hid hin
      have Hyes := Lib.hid hyes
      have Hno := Lib.hid hno
      have HI := Lib.hid hI
      have Hup := Lib.hid hup
      have Hlp := Lib.hid hlp
      clear htx htx' hin hI hup hlp hstep htl hsm ht him hyes hno
      go_wp2_with fail
      refine Htx.out.mono ?_
      rintro r w5 ⟨rfl, hrd5, hx5⟩
      have HI5 := Lib.hid (HI.out.read hx5 hrd5)
      clear hrd5 hx5 HI Htx
      have l1 := less_leS t last
      have l2 := less_leS last t
      cases hcmp : leS t last with
      | true =>
        have hl : loadL b.data.toList = none := by rw [Hlp.out, Hno.out (by rw [hcmp]; simp)]; rfl
        have Hfin := Lib.hid (load_none (sb := sb) hl HI5.out.ext)
        clear hl Hlp Hno Hyes HI5 Hin Hup
        by_cases heq : t = last
        · subst heq
          rw [hcmp] at l1
          clear l2 hcmp
          go_wp2
          go_ret
          exact Hfin.out
        · have h2 : leS last t = false := by
            cases h : leS last t with
            | false => rfl
            | true => exact absurd (linS.anti _ _ hcmp h) heq
          have l3 := bytes_ne heq
          rw [h2] at l1
          rw [hcmp] at l2
          clear h2 heq hcmp
          go_wp2
          go_ret
          exact Hfin.out
      | false =>
        have h2 : leS last t = true := by
          have := linS.total t last
          rw [hcmp] at this; simpa using this
        have l3 := bytes_ne (a := t) (b := last) (fun e => by subst e; rw [hcmp] at h2; cases h2)
        rw [h2] at l1
        rw [hcmp] at l2
        clear h2
        by_cases h31 : (31 : Int) < t.size
        · have hl : loadL b.data.toList = none := by rw [Hlp.out, Hno.out (fun h => by have := h.2; omega)]; rfl
          have Hfin := Lib.hid (load_none (sb := sb) hl HI5.out.ext)
          clear hl Hlp Hno Hyes HI5 Hin Hup hcmp
          go_wp2
          go_ret
          exact Hfin.out
        · have hlp := Hlp.out
          rw [Hyes.out ⟨hcmp, by omega⟩] at hlp
          have Hlp2 := Lib.hid hlp
          have Hup2 := Lib.hid (Hup.out.snoc hcmp x)
          have Hnone := Lib.hid (Hup.out.none hcmp)
          clear hlp Hlp Hno Hyes Hup hcmp
          go_wp2_with fail
          refine (Hin.out w5 HI5.out.rd).mono ?_
          rintro r w6 ⟨rfl, hrd6, hx6⟩
          have hI6 := HI5.out.read hx6 hrd6
          obtain ⟨es, clock, hm, hl, hst⟩ := id hI6.map
          obtain ⟨O, hent, hsto⟩ := run_entry_new (P := Try.prog) (b := mb) Try.underlying76 Try.underlying9 zeroInt64 hl hst t (by rw [assoc_kmv, Hnone.out]; rfl)
          obtain ⟨es', c', hst1, hst2, hst3⟩ := hsto (.int .i64 x)
          rw [← kmv_snoc] at hst2
          have hI7 := hI6.put (O := O) hst2 hst3
          have he1 := hent w6 hm
          have he2 := hst1 (setBlock w6 mb O) (blk_setBlock_same hm _)
          have HI7 := Lib.hid hI7
          clear hrd6 hx6 hI6 hl hst hent hsto hst1 hst2 hst3 hI7 HI5 Hin Hnone hm
          go_wp2_with fail
          go_roundg (N - (j + 1))
          case measure => omega
          case rel => exact ⟨j + 1, t, _, s2, by omega, rfl, rfl, by go_num, HI7.out, Hup2.out, Hlp2.out⟩
    · have hj' : N - j = 0 := by omega
      rw [hj'] at hlp
      have hlp : loadL b.data.toList = finL (some (acc, s)) := hlp
      have hend := end_any wr p s hI.rd
      have Hend := Lib.hid hend
      have hr := (hI.ext.blk (blk_lt Hsb.out) id).trans Hsb.out
      have q0 : wr.frozen? ⟨sb, 0, none⟩ = false := free_of_cells hr 0
      have q1 := blk_lt hr
      have q2 : wr.cell? ⟨sb, 0, none⟩ = some v0 := by simpa using cell_of_cells hr 0
      by_cases he : endM s = 0
      · have hl : loadL b.data.toList = some acc := by rw [hlp]; exact finL_ok he
        have Hfin := Lib.hid (load_some hI hl Hsb.out)
        rw [he] at Hend
        clear hI hend hr hl hlp hup he
        go_wp2_with fail
        refine Hend.out.mono ?_
        rintro r w' ⟨rfl, hw⟩; obtain rfl := hw.symm; clear hw
        go_wp2
        go_ret
        exact Hfin.out
      · have hl : loadL b.data.toList = none := by rw [hlp]; exact finL_no he
        have Hfin := Lib.hid (load_none (sb := sb) hl hI.ext)
        have he' : (endM s == 0) = false := by simpa using he
        generalize endM s = e at *
        clear hI hend hr hl hlp hup
        go_wp2_with fail
        refine Hend.out.mono ?_
        rintro r w' ⟨rfl, hw⟩; obtain rfl := hw.symm; clear hw
        go_wp2
        go_ret
        exact Hfin.out
end Go.Proofs.Ythipbmppmgkklaa
