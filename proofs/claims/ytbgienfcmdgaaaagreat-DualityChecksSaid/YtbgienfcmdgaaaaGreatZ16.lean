/-
  Package exodusref05: valid, Proved; exodusref03: Valid. Conditions: the arguments read as programs and outcomes whose fractions have the only form, sizes bounded.
-/
import Derived.Test.YtbgienfcmdgaaaaGreatZ15
import Derived.Test.YtbgienfcmdgaaaaGreatZ12
import Derived.Test.YtbgienfcmdgaaaaGreatZ14
import Derived.Test.YtbgienfcmdgaaaaGreatZ13
set_option linter.unusedVariables false
namespace Go.Proofs.YtbgienfcmdgaaaaGreat
open Go.RowKit Go.MapKept
open Go.ChangeMaps (setBlock)

/-- a list of fractions in the only form -/
def CRats (w : World) (v : Value) (l : List Rat) (L : Nat) : Prop :=
  ∃ cs : List RatC, cs.length = l.length ∧ Sl w v 3 (cs.map RatC.cells) ∧ ∀ (i : Nat) c q, cs[i]? = some c → l[i]? = some q → IsRat w c.v q ∧ Sz q L
theorem CRats.keep {w w' : World} {v : Value} {l : List Rat} {L : Nat} (h : CRats w v l L) (hx : Ext (fun _ => False) w w') : CRats w' v l L := by
  obtain ⟨cs, h1, h2, h3⟩ := h
  exact ⟨cs, h1, h2.keep hx, fun i c q hc hq => ⟨(h3 i c q hc hq).1.keep hx, (h3 i c q hc hq).2⟩⟩
theorem CRats.rats {w : World} {v : Value} {l : List Rat} {L : Nat} (h : CRats w v l L) : Rats w v l L := by
  obtain ⟨cs, h1, h2, h3⟩ := h
  refine ⟨cs.map RatC.cells, by rw [List.length_map, h1], h2, fun i c q hc hq => ?_⟩
  rw [List.getElem?_map] at hc
  obtain ⟨x, hx, rfl⟩ := Option.map_eq_some_iff.1 hc
  exact (h3 i x q hx hq).1.reads (h3 i x q hx hq).2
theorem CRats.at {w : World} {ao : Option Addr} {n c : Nat} {l : List Rat} {L : Nat} (h : CRats w (.slice ao n c) l L) (i : Nat) (hi : i < l.length) : ∃ b off neg a1 m1 c1 a2 m2 c2, ao = some ⟨b, off, none⟩ ∧ b < w.heap.size ∧
    w.cell? ⟨b, off + i * 3, none⟩ = some (.bool neg) ∧ w.cell? ⟨b, off + i * 3 + 1, none⟩ = some (.slice a1 m1 c1) ∧ w.cell? ⟨b, off + i * 3 + 2, none⟩ = some (.slice a2 m2 c2) ∧ IsRat w (.agg #[.bool neg, .slice a1 m1 c1, .slice a2 m2 c2]) l[i] ∧ Sz l[i] L := by
  obtain ⟨cs, h1, h2, h3⟩ := h
  have hi' : i < cs.length := by omega
  obtain ⟨b, off, g1, g2, g3⟩ := h2.at (i := i) (r := cs[i].cells) (by rw [List.getElem?_map, List.getElem?_eq_getElem hi']; rfl)
  obtain ⟨k1, k2⟩ := h3 i _ _ (List.getElem?_eq_getElem hi') (List.getElem?_eq_getElem hi)
  exact ⟨b, off, cs[i].ng, cs[i].a1, cs[i].m1, cs[i].c1, cs[i].a2, cs[i].m2, cs[i].c2, g1, g2, g3 0 _ rfl, g3 1 _ rfl, g3 2 _ rfl, k1, k2⟩
theorem CRats.shape {w : World} {v : Value} {l : List Rat} {L : Nat} (h : CRats w v l L) : ∃ ao c, v = .slice ao l.length c ∧ (ao = none → c = 0) ∧ l.length ≤ 9223372036854775807 ∧ l.length ≤ c := h.rats.shape
theorem CRats.nil (w : World) (L : Nat) : CRats w (.slice none 0 0) [] L := ⟨[], rfl, Sl.nil w 3, fun i c q hc => by simp at hc⟩
/-- an outcome whose fractions have the only form -/
def IsOutC (w : World) (v : Value) (o : OutV) (L : Nat) : Prop := ∃ neg a1 m1 c1 a2 m2 c2 pv mv rv, v = .agg #[.int .i64 o.kind, .bool neg, .slice a1 m1 c1, .slice a2 m2 c2, pv, mv, rv] ∧ (IsRat w (.agg #[.bool neg, .slice a1 m1 c1, .slice a2 m2 c2]) o.val ∧ Sz o.val L) ∧ CRats w pv o.pt L ∧ CRats w mv o.mu L ∧ CRats w rv o.ray L ∧ InR o.kind
theorem IsOutC.keep {w w' : World} {v : Value} {o : OutV} {L : Nat} (h : IsOutC w v o L) (hx : Ext (fun _ => False) w w') : IsOutC w' v o L := by
  obtain ⟨neg, a1, m1, c1, a2, m2, c2, pv, mv, rv, e, h1, h2, h3, h4, h5⟩ := h
  exact ⟨neg, a1, m1, c1, a2, m2, c2, pv, mv, rv, e, ⟨h1.1.keep hx, h1.2⟩, h2.keep hx, h3.keep hx, h4.keep hx, h5⟩
theorem IsOutC.out {w : World} {v : Value} {o : OutV} {L : Nat} (h : IsOutC w v o L) : IsOut w v o L := by
  obtain ⟨neg, a1, m1, c1, a2, m2, c2, pv, mv, rv, e, h1, h2, h3, h4, h5⟩ := h
  exact ⟨neg, a1, m1, c1, a2, m2, c2, pv, mv, rv, e, h1.1.reads h1.2, h2.rats, h3.rats, h4.rats, h5⟩
set_option maxRecDepth 100000 in
set_option maxHeartbeats 4000000 in
theorem Valid3_any (w : World) (v : Value) (q : Rat) (L : Nat) (h : IsRat w v q) (hs : Sz q L) (h1 : 1 ≤ L) (hL : L ≤ 67108864) : Calls Tryz.prog 89 #[v] w (BoolPost w true) := by
  obtain ⟨ng, a1, m1, c1, a2, m2, c2, rfl⟩ := h.shape
  have hx := (Ext.refl (fun _ => False) w).alloc (.cells #[.bool ng, .slice a1 m1 c1, .slice a2 m2 c2] 31)
  have HF := Lib.hid (fun W (hW : Ext (fun _ => False) (w.alloc (.cells #[.bool ng, .slice a1 m1 c1, .slice a2 m2 c2] 31)) W) => Rrfix_any W _ q L ((h.keep (hx.trans hW)).reads hs) h1 hL)
  have HSm := Lib.hid (fun W u (hW : Ext (fun _ => False) (w.alloc (.cells #[.bool ng, .slice a1 m1 c1, .slice a2 m2 c2] 31)) W) (hu : IsRat W u q) => Rrsame_any W _ u q q L (h.keep (hx.trans hW)) hu hs hs (by omega))
  have HX := Lib.hid hx
  have hb := boxR_new (W := w) rfl ng a1 m1 c1 a2 m2 c2
  clear h hs hx
  go_enter Tryz.func89, Tryz.ntmps89
  go_upto_region 1 with fail
  generalize w.alloc (.cells #[.bool ng, .slice a1 m1 c1, .slice a2 m2 c2] 31) = w1 at *
  generalize w.heap.size = xb at *
  obtain ⟨t0, t1, t2, -⟩ := hb.facts
  replace t0 := cq t0
  replace t1 := cq t1
  replace t2 := cq t2
  clear hb
  refine wp_region_held_drew (S := (Ext (fun _ => False) w1)) (by kernel_rfl) ((Ext.refl _ w1).drew) (fun hHeld => ?_)
  refine ht 0 (h := (ht 1 (h := ?_)))
  (try simp only [Act.put, List.setIfInBounds_toArray, List.set_cons_zero, List.set_cons_succ])
  refine hst 2 (h := fun K hK => ?_)
  (go_simp; go_at_call 45; (with_reducible refine (HF.out _ hHeld).mono ?_); rintro q1 w11 ⟨v11, rfl, h11, hx11⟩; have hX1 := hHeld.trans hx11; have hT := HSm.out w11 _ hX1 h11; obtain ⟨n11, a11, l11, c11, a11', l11', c11', rfl⟩ := h11.shape)
  refine hK.out _ _ (hX1) (fun hHeld => ?_)
  clear hK K
  (try simp only [Act.put, List.setIfInBounds_toArray, List.set_cons_zero, List.set_cons_succ])
  refine hst 3 (h := fun K hK => ?_)
  (go_simp; go_at_call 44; (with_reducible refine hT.mono ?_); rintro q2 w12 ⟨rfl, hx12⟩; have hX2 := hX1.trans hx12)
  refine hK.out _ _ (hX2) (fun hHeld => ?_)
  clear hK K
  (try simp only [Act.put, List.setIfInBounds_toArray, List.set_cons_zero, List.set_cons_succ])
  refine ht 4 (h := ?_)
  (try simp only [Act.put, List.setIfInBounds_toArray, List.set_cons_zero, List.set_cons_succ])
  refine wpAnyH_done (by kernel_rfl) ?_ _
  have HXr := Lib.hid (HX.out.trans hX2)
  clear t0 t1 t2 hX1 hX2 hx11 hx12 hHeld h11 hT
  go_wp2
  go_ret
  exact ⟨ret_bool (by simp), HXr.out⟩
set_option maxRecDepth 100000 in
set_option maxHeartbeats 4000000 in
theorem valid5_any (w : World) (v : Value) (l : List Rat) (L n : Nat) (h : CRats w v l L) (h1 : 1 ≤ L) (hL : L ≤ 67108864) (hn : n ≤ 9223372036854775807) : Calls Tryz.prog 90 #[v, .int .i64 n] w (BoolPost w (decide (l.length = n))) := by
  obtain ⟨ao, c, rfl, -, hl63, -⟩ := h.shape
  have HC := Lib.hid h
  clear h
  obtain ⟨m, hm⟩ : ∃ m, l.length = m := ⟨_, rfl⟩
  have HM := Lib.hid hm
  rw [hm] at hl63 HC ⊢
  clear hm
  go_enter Tryz.func90, Tryz.ntmps90
  go_wp2_with fail
  go_loopg [5] m (fun gg v5 wr => ∃ i : Nat, i ≤ m ∧ gg = m - i ∧ v5 = .int .i64 i ∧ Ext (fun _ => False) w wr)
  case atStart => exact ⟨0, Nat.zero_le _, rfl, rfl, Ext.refl _ _⟩
  case round =>
    obtain ⟨i, hi, rfl, rfl, hx⟩ := hrel
    have HX := Lib.hid hx
    clear hx
    by_cases hin : i < m
    · have i0 : (i : Int) < (m : Int) := by omega
      have i1 : (0 : Int) ≤ (i : Int) := by omega
      obtain ⟨b, off, ng, a1, m1, c1, a2, m2, c2, rfl, -, e0, e1, e2, hq, hs⟩ := (HC.out.keep HX.out).at i (by rw [HM.out]; exact hin)
      have HVd := Lib.hid (Valid3_any wr _ _ L hq hs h1 hL)
      clear hq hs
      go_wp2_with fail
      refine HVd.out.mono ?_
      rintro r2 w2 ⟨rfl, hx2⟩
      have HX2 := Lib.hid (HX.out.trans hx2)
      clear hx2 e0 e1 e2 HVd
      go_wp2
      go_roundg (m - (i + 1))
      case measure => omega
      case rel => exact ⟨i + 1, by omega, rfl, by go_num, HX2.out⟩
    · obtain rfl : i = m := by omega
      by_cases he : i = n
      · subst he
        go_wp2
        go_ret
        exact ⟨ret_bool (by simp), HX.out⟩
      · have he1 : ((i : Int) == (n : Int)) = false := by simpa using (show ¬ (i : Int) = (n : Int) by omega)
        have he2 : ¬ (i : Int) = (n : Int) := by omega
        have HE := Lib.hid (decide_eq_false he)
        go_wp2
        go_ret
        exact ⟨ret_bool (by rw [HE.out]), HX.out⟩
def pr1 (p : ProgV) (o : OutV) : Bool := decide (o.pt.length = p.vars.length) && decide (o.mu.length = p.rows.length) && decide (o.ray.length = 0) && decide ((o.val - costQ p o.pt).num.sign = 0) && opt5 p o.pt o.mu
def pr2 (p : ProgV) (o : OutV) : Bool := decide (o.pt.length = 0) && decide (o.mu.length = p.rows.length) && decide (o.ray.length = 0) && decide (o.val.num.sign = 0) && inf5 p o.mu
def pr3 (p : ProgV) (o : OutV) : Bool := decide (o.pt.length = p.vars.length) && decide (o.mu.length = 0) && decide (o.ray.length = p.vars.length) && decide (o.val.num.sign = 0) && unb5 p o.pt o.ray
def prB (p : ProgV) (o : OutV) : Bool := if o.kind = 0 then pr1 p o else if o.kind = 1 then pr2 p o else if o.kind = 2 then pr3 p o else false
theorem prB_eq {p : ProgV} {o : OutV} (h : validB p = true) (hk : 0 ≤ o.kind ∧ o.kind ≤ 2) : prB p o = chkB p o := by
  unfold prB chkB
  by_cases h0 : o.kind = 0
  · rw [if_pos h0, if_pos h0]
    unfold pr1 chk1
    rw [opt5_eq h]
    have e : decide ((o.val - costQ p o.pt).num.sign = 0) = decide (o.val = costQ p o.pt) := decide_eq_decide.2 (by rw [sign_zero]; constructor <;> intro h <;> grind)
    rw [e]
    generalize decide (o.pt.length = p.vars.length) = b1
    generalize decide (o.mu.length = p.rows.length) = b2
    generalize decide (o.ray.length = 0) = b3
    generalize decide (o.val = costQ p o.pt) = b4
    generalize opt5 p o.pt o.mu = b5
    cases b1 <;> cases b2 <;> cases b3 <;> cases b4 <;> cases b5 <;> rfl
  rw [if_neg h0, if_neg h0]
  have e0 : decide (o.val.num.sign = 0) = decide (o.val = 0) := decide_eq_decide.2 (sign_zero _)
  by_cases h1 : o.kind = 1
  · rw [if_pos h1, if_pos h1]
    unfold pr2 chk2
    rw [inf5_eq h, e0]
    have e : decide (o.pt.length + o.ray.length = 0) = (decide (o.pt.length = 0) && decide (o.ray.length = 0)) := by
      rw [← Bool.decide_and]; exact decide_eq_decide.2 (by omega)
    rw [e]
    generalize decide (o.pt.length = 0) = b1
    generalize decide (o.mu.length = p.rows.length) = b2
    generalize decide (o.ray.length = 0) = b3
    generalize decide (o.val = 0) = b4
    generalize inf5 p o.mu = b5
    cases b1 <;> cases b2 <;> cases b3 <;> cases b4 <;> cases b5 <;> rfl
  · rw [if_neg h1, if_neg h1, if_pos (by omega)]
    unfold pr3 chk3
    rw [unb5_eq h, e0]
    generalize decide (o.pt.length = p.vars.length) = b1
    generalize decide (o.mu.length = 0) = b2
    generalize decide (o.ray.length = p.vars.length) = b3
    generalize decide (o.val = 0) = b4
    generalize unb5 p o.pt o.ray = b5
    cases b1 <;> cases b2 <;> cases b3 <;> cases b4 <;> cases b5 <;> rfl
set_option maxRecDepth 100000 in
set_option maxHeartbeats 8000000 in
theorem Proved5_any (w : World) (pv ov : Value) (p : ProgV) (o : OutV) (L T : Nat) (hp : IsPrg w pv p) (ho : IsOutC w ov o L) (hs : Small p T L) :
    Calls Tryz.prog 41 #[pv, ov] w (BoolPost w (prB p o)) := by
  have h1 := hs.room.one
  obtain ⟨r10, r11, r12⟩ := hs.room.more
  have r8 := hs.room.all.2.2.2.2.2.2.2.1
  have r7 := hs.room.all.2.2.2.2.2.2.1
  have r3 := hs.room.all.2.2.1
  have HP := Lib.hid hp
  obtain ⟨vv, rv, rfl, hv, hr⟩ := hp
  obtain ⟨vo, vc, rfl, -, hvn, -⟩ := hv.shape
  obtain ⟨ro, rc, rfl, -, hrn, -⟩ := hr.shape
  obtain ⟨neg, a1, m1, c1, a2, m2, c2, ptv, muv, rav, rfl, hval, hpt, hmu, hra, hkr⟩ := ho
  obtain ⟨po, pc, rfl, -, hpn, -⟩ := hpt.shape
  obtain ⟨mo, mc, rfl, -, hmn, -⟩ := hmu.shape
  obtain ⟨zo, zc, rfl, -, hzn, -⟩ := hra.shape
  have hcz := costQ_sz hv (hpt.rats.sz h1)
  have HVal := Lib.hid (fun W (hW : Ext (fun _ => False) w W) => Valid3_any W _ o.val L (hval.1.keep hW) hval.2 h1 (by omega))
  have HVp := Lib.hid (fun W (hW : Ext (fun _ => False) w W) => valid5_any W _ o.pt L p.vars.length (hpt.keep hW) h1 (by omega) hvn)
  have HVm := Lib.hid (fun W (hW : Ext (fun _ => False) w W) => valid5_any W _ o.mu L p.rows.length (hmu.keep hW) h1 (by omega) hrn)
  have HVr := Lib.hid (fun W (hW : Ext (fun _ => False) w W) => valid5_any W _ o.ray L p.vars.length (hra.keep hW) h1 (by omega) hvn)
  have HCo := Lib.hid (fun W (hW : Ext (fun _ => False) w W) => Cost4_any W _ _ p o.pt L (HP.out.keep hW) (hpt.rats.keep hW) h1 r12)
  have HCm := Lib.hid (fun W u (hW : Ext (fun _ => False) w W) (hu : IsRat W u (costQ p o.pt)) => Rrcmp_any W _ u _ _ 4000000 ((hval.1.keep hW).reads (hval.2.mono (by omega))) (hu.reads (hcz.mono (by omega))) (by omega) (by omega))
  have HSg := Lib.hid (fun W (hW : Ext (fun _ => False) w W) => Rrsign_any W _ o.val L ((hval.1.keep hW).reads hval.2) (by omega))
  have HOp := Lib.hid (fun W (hW : Ext (fun _ => False) w W) => Optimal5_any W _ _ _ p o.pt o.mu L T (HP.out.keep hW) (hpt.rats.keep hW) (hmu.rats.keep hW) hs)
  have HIn := Lib.hid (fun W (hW : Ext (fun _ => False) w W) => Infeasible5_any W _ _ p o.mu L T (HP.out.keep hW) (hmu.rats.keep hW) hs)
  have HUn := Lib.hid (fun W (hW : Ext (fun _ => False) w W) => Unbounded5_any W _ _ _ p o.pt o.ray L T (HP.out.keep hW) (hpt.rats.keep hW) (hra.rats.keep hW) hs)
  have HQ := Lib.hid (show prB p o = if o.kind = 0 then (decide (o.pt.length = p.vars.length) && decide (o.mu.length = p.rows.length) && decide (o.ray.length = 0) && decide ((o.val - costQ p o.pt).num.sign = 0) && opt5 p o.pt o.mu) else if o.kind = 1 then (decide (o.pt.length = 0) && decide (o.mu.length = p.rows.length) && decide (o.ray.length = 0) && decide (o.val.num.sign = 0) && inf5 p o.mu) else if o.kind = 2 then (decide (o.pt.length = p.vars.length) && decide (o.mu.length = 0) && decide (o.ray.length = p.vars.length) && decide (o.val.num.sign = 0) && unb5 p o.pt o.ray) else false from rfl)
  clear hv hr hpt hmu hra hval hs hcz r3 r7 r8 r10 r11 r12 h1 HP
  generalize hpl : o.pt.length = pn at *
  generalize hml : o.mu.length = mn at *
  generalize hzl : o.ray.length = zn at *
  clear hpl hml hzl
  obtain ⟨kd, hkd⟩ : ∃ kd, o.kind = kd := ⟨_, rfl⟩
  rw [hkd] at hkr HQ ⊢
  clear hkd
  obtain ⟨n, hn'⟩ : ∃ n, p.vars.length = n := ⟨_, rfl⟩
  rw [hn'] at HVp HVr HCo HOp HIn HUn HQ hvn ⊢
  obtain ⟨m, hm'⟩ : ∃ m, p.rows.length = m := ⟨_, rfl⟩
  rw [hm'] at HVm HCo HOp HIn HUn HQ hrn ⊢
  clear hn' hm'
  generalize prB p o = pb' at *
  generalize (o.val - costQ p o.pt).num.sign = sc at *
  generalize o.val.num.sign = sv at *
  generalize opt5 p o.pt o.mu = q1 at *
  generalize inf5 p o.mu = q2 at *
  generalize unb5 p o.pt o.ray = q3 at *
  go_enter Tryz.func41, Tryz.ntmps41
  have b0 : blk ((w.alloc (.cells #[.slice vo n vc, .slice ro m rc] 25)).alloc (.cells #[.int .i64 kd, .bool neg, .slice a1 m1 c1, .slice a2 m2 c2, .slice po pn pc, .slice mo mn mc, .slice zo zn zc] 34)) w.heap.size = some (.cells #[.slice vo n vc, .slice ro m rc] 25 (0, 0)) := (blk_alloc_past _ _ _ (by simp)).trans (blk_alloc_at _ _)
  have b1 := blk_alloc_at (w.alloc (.cells #[.slice vo n vc, .slice ro m rc] 25)) (.cells #[.int .i64 kd, .bool neg, .slice a1 m1 c1, .slice a2 m2 c2, .slice po pn pc, .slice mo mn mc, .slice zo zn zc] 34)
  rw [World.size_alloc] at b1
  have hx1 := ((Ext.refl (fun _ => False) w).alloc (.cells #[.slice vo n vc, .slice ro m rc] 25)).alloc (.cells #[.int .i64 kd, .bool neg, .slice a1 m1 c1, .slice a2 m2 c2, .slice po pn pc, .slice mo mn mc, .slice zo zn zc] 34)
  have HB := Lib.hid (And.intro b0 (And.intro b1 hx1))
  clear b0 b1 hx1
  go_upto_region 1 with fail
  generalize hw1 : (w.alloc (.cells #[.slice vo n vc, .slice ro m rc] 25)).alloc (.cells #[.int .i64 kd, .bool neg, .slice a1 m1 c1, .slice a2 m2 c2, .slice po pn pc, .slice mo mn mc, .slice zo zn zc] 34) = w1 at *
  clear hw1
  obtain ⟨ob, hob⟩ : ∃ ob, w.heap.size + 1 = ob := ⟨_, rfl⟩
  rw [hob] at HB ⊢
  clear hob
  obtain ⟨pb, hpb⟩ : ∃ pb, w.heap.size = pb := ⟨_, rfl⟩
  rw [hpb] at HB ⊢
  clear hpb
  have e1 := cellq HB.out.2.1 1 rfl
  have e2 := cellq HB.out.2.1 2 rfl
  have e3 := cellq HB.out.2.1 3 rfl
  go_wp2_with fail
  refine (HVal.out _ HB.out.2.2).mono ?_
  rintro r2 w2 ⟨rfl, hx2⟩
  have HB2 := Lib.hid (And.intro (blk_keep HB.out.1 hx2) (And.intro (blk_keep HB.out.2.1 hx2) (HB.out.2.2.trans hx2)))
  clear hx2 HB HVal e1 e2 e3
  have z0 := cellq HB2.out.1 0 rfl
  have z1 := cellq HB2.out.1 1 rfl
  go_upto_region 3 with fail
  go_quiet (fail)
  rename_i nq
  have HB4 := Lib.hid (show blk (w2.drewN nq) pb = some (.cells #[.slice vo n vc, .slice ro m rc] 25 (0, 0)) ∧ blk (w2.drewN nq) ob = some (.cells #[.int .i64 kd, .bool neg, .slice a1 m1 c1, .slice a2 m2 c2, .slice po pn pc, .slice mo mn mc, .slice zo zn zc] 34 (0, 0)) ∧ Ext (fun _ => False) w (w2.drewN nq) from ⟨HB2.out.1, HB2.out.2.1, HB2.out.2.2.drewN nq⟩)
  generalize w2.drewN nq = w4 at *
  clear z0 z1 HB2
  have k0 := cellq HB4.out.2.1 0 rfl
  have z0 := cellq HB4.out.1 0 rfl
  have z1 := cellq HB4.out.1 1 rfl
  have e1 := cellq HB4.out.2.1 1 rfl
  have e2 := cellq HB4.out.2.1 2 rfl
  have e3 := cellq HB4.out.2.1 3 rfl
  have e4 := cellq HB4.out.2.1 4 rfl
  have e5 := cellq HB4.out.2.1 5 rfl
  have e6 := cellq HB4.out.2.1 6 rfl
  replace HVp := Lib.hid (fun W (hW : Ext (fun _ => False) w4 W) => HVp.out W (HB4.out.2.2.trans hW))
  replace HVm := Lib.hid (fun W (hW : Ext (fun _ => False) w4 W) => HVm.out W (HB4.out.2.2.trans hW))
  replace HVr := Lib.hid (fun W (hW : Ext (fun _ => False) w4 W) => HVr.out W (HB4.out.2.2.trans hW))
  replace HCo := Lib.hid (fun W (hW : Ext (fun _ => False) w4 W) => HCo.out W (HB4.out.2.2.trans hW))
  replace HCm := Lib.hid (fun W u (hW : Ext (fun _ => False) w4 W) hu => HCm.out W u (HB4.out.2.2.trans hW) hu)
  replace HSg := Lib.hid (fun W (hW : Ext (fun _ => False) w4 W) => HSg.out W (HB4.out.2.2.trans hW))
  replace HOp := Lib.hid (fun W (hW : Ext (fun _ => False) w4 W) => HOp.out W (HB4.out.2.2.trans hW))
  replace HIn := Lib.hid (fun W (hW : Ext (fun _ => False) w4 W) => HIn.out W (HB4.out.2.2.trans hW))
  replace HUn := Lib.hid (fun W (hW : Ext (fun _ => False) w4 W) => HUn.out W (HB4.out.2.2.trans hW))
  by_cases hk0 : kd = 0
  · subst hk0
    rw [if_pos rfl] at HQ
    go_upto_region 6 with fail
    clear k0
    replace z0 := cq z0
    replace z1 := cq z1
    replace e1 := cq e1
    replace e2 := cq e2
    replace e3 := cq e3
    replace e4 := cq e4
    replace e5 := cq e5
    replace e6 := cq e6
    generalize hb1 : decide (pn = n) = b1 at *
    generalize hb2 : decide (mn = m) = b2 at *
    clear hb1 hb2
    cases b1 with
    | false =>
      refine wp_region_held_drew (S := (Ext (fun _ => False) w4)) (by kernel_rfl) ((Ext.refl _ w4).drew) (fun hHeld => ?_)
      refine ht 0 (h := (ht 1 (h := (ht 2 (h := ?_)))))
      (try simp only [Act.put, List.setIfInBounds_toArray, List.set_cons_zero, List.set_cons_succ])
      refine hst 3 (h := fun K hK => ?_)
      (go_simp; go_at_call 90; (with_reducible refine (HVp.out _ hHeld).mono ?_); rintro q1 w11 ⟨rfl, hx1⟩; have hX1 := hHeld.trans hx1)
      refine hK.out _ _ (hX1) (fun hHeld => ?_)
      clear hK K
      (try simp only [Act.put, List.setIfInBounds_toArray, List.set_cons_zero, List.set_cons_succ])
      refine ht 4 (h := ?_)
      (try simp only [Act.put, List.setIfInBounds_toArray, List.set_cons_zero, List.set_cons_succ])
      refine hk 5 (h := ?_)
      (try simp only [Act.put, List.setIfInBounds_toArray, List.set_cons_zero, List.set_cons_succ])
      refine hk 6 (h := ?_)
      (try simp only [Act.put, List.setIfInBounds_toArray, List.set_cons_zero, List.set_cons_succ])
      refine hk 7 (h := ?_)
      (try simp only [Act.put, List.setIfInBounds_toArray, List.set_cons_zero, List.set_cons_succ])
      refine hk 8 (h := (ht 9 (h := (ht 10 (h := ?_)))))
      (try simp only [Act.put, List.setIfInBounds_toArray, List.set_cons_zero, List.set_cons_succ])
      refine hk 11 (h := ?_)
      (try simp only [Act.put, List.setIfInBounds_toArray, List.set_cons_zero, List.set_cons_succ])
      refine hk 12 (h := ?_)
      (try simp only [Act.put, List.setIfInBounds_toArray, List.set_cons_zero, List.set_cons_succ])
      refine hk 13 (h := ?_)
      (try simp only [Act.put, List.setIfInBounds_toArray, List.set_cons_zero, List.set_cons_succ])
      refine hk 14 (h := (ht 15 (h := (ht 16 (h := ?_)))))
      (try simp only [Act.put, List.setIfInBounds_toArray, List.set_cons_zero, List.set_cons_succ])
      refine hk 17 (h := ?_)
      (try simp only [Act.put, List.setIfInBounds_toArray, List.set_cons_zero, List.set_cons_succ])
      refine hk 18 (h := ?_)
      (try simp only [Act.put, List.setIfInBounds_toArray, List.set_cons_zero, List.set_cons_succ])
      refine hk 19 (h := ?_)
      (try simp only [Act.put, List.setIfInBounds_toArray, List.set_cons_zero, List.set_cons_succ])
      refine hk 20 (h := ?_)
      (try simp only [Act.put, List.setIfInBounds_toArray, List.set_cons_zero, List.set_cons_succ])
      refine hk 21 (h := ?_)
      (try simp only [Act.put, List.setIfInBounds_toArray, List.set_cons_zero, List.set_cons_succ])
      refine hk 22 (h := ?_)
      (try simp only [Act.put, List.setIfInBounds_toArray, List.set_cons_zero, List.set_cons_succ])
      refine hk 23 (h := ?_)
      (try simp only [Act.put, List.setIfInBounds_toArray, List.set_cons_zero, List.set_cons_succ])
      refine hk 24 (h := (ht 25 (h := (ht 26 (h := ?_)))))
      (try simp only [Act.put, List.setIfInBounds_toArray, List.set_cons_zero, List.set_cons_succ])
      refine hk 27 (h := ?_)
      (try simp only [Act.put, List.setIfInBounds_toArray, List.set_cons_zero, List.set_cons_succ])
      refine hk 28 (h := ?_)
      (try simp only [Act.put, List.setIfInBounds_toArray, List.set_cons_zero, List.set_cons_succ])
      refine hk 29 (h := ?_)
      (try simp only [Act.put, List.setIfInBounds_toArray, List.set_cons_zero, List.set_cons_succ])
      refine hk 30 (h := ?_)
      (try simp only [Act.put, List.setIfInBounds_toArray, List.set_cons_zero, List.set_cons_succ])
      refine hk 31 (h := ?_)
      (try simp only [Act.put, List.setIfInBounds_toArray, List.set_cons_zero, List.set_cons_succ])
      refine hk 32 (h := (ht 33 (h := (ht 34 (h := ?_)))))
      (try simp only [Act.put, List.setIfInBounds_toArray, List.set_cons_zero, List.set_cons_succ])
      refine wpAnyH_done (by kernel_rfl) ?_ _
      have HXr := Lib.hid (HB4.out.2.2.trans hX1)
      clear hX1 hx1 hHeld
      go_wp2
      go_ret
      exact ⟨ret_bool (by rw [HQ.out]; rfl), HXr.out⟩
    | true =>
    cases b2 with
    | false =>
      refine wp_region_held_drew (S := (Ext (fun _ => False) w4)) (by kernel_rfl) ((Ext.refl _ w4).drew) (fun hHeld => ?_)
      refine ht 0 (h := (ht 1 (h := (ht 2 (h := ?_)))))
      (try simp only [Act.put, List.setIfInBounds_toArray, List.set_cons_zero, List.set_cons_succ])
      refine hst 3 (h := fun K hK => ?_)
      (go_simp; go_at_call 90; (with_reducible refine (HVp.out _ hHeld).mono ?_); rintro q1 w11 ⟨rfl, hx1⟩; have hX1 := hHeld.trans hx1)
      refine hK.out _ _ (hX1) (fun hHeld => ?_)
      clear hK K
      (try simp only [Act.put, List.setIfInBounds_toArray, List.set_cons_zero, List.set_cons_succ])
      refine ht 4 (h := ?_)
      (try simp only [Act.put, List.setIfInBounds_toArray, List.set_cons_zero, List.set_cons_succ])
      refine ht 5 (h := ?_)
      (try simp only [Act.put, List.setIfInBounds_toArray, List.set_cons_zero, List.set_cons_succ])
      refine ht 6 (h := ?_)
      (try simp only [Act.put, List.setIfInBounds_toArray, List.set_cons_zero, List.set_cons_succ])
      refine ht 7 (h := ?_)
      (try simp only [Act.put, List.setIfInBounds_toArray, List.set_cons_zero, List.set_cons_succ])
      refine hst 8 (h := fun K hK => ?_)
      (go_simp; go_at_call 90; (with_reducible refine (HVm.out _ hX1).mono ?_); rintro q2 w12 ⟨rfl, hx2⟩; have hX2 := hX1.trans hx2)
      refine hK.out _ _ (hX2) (fun hHeld => ?_)
      clear hK K
      (try simp only [Act.put, List.setIfInBounds_toArray, List.set_cons_zero, List.set_cons_succ])
      refine ht 9 (h := (ht 10 (h := ?_)))
      (try simp only [Act.put, List.setIfInBounds_toArray, List.set_cons_zero, List.set_cons_succ])
      refine hk 11 (h := ?_)
      (try simp only [Act.put, List.setIfInBounds_toArray, List.set_cons_zero, List.set_cons_succ])
      refine hk 12 (h := ?_)
      (try simp only [Act.put, List.setIfInBounds_toArray, List.set_cons_zero, List.set_cons_succ])
      refine hk 13 (h := ?_)
      (try simp only [Act.put, List.setIfInBounds_toArray, List.set_cons_zero, List.set_cons_succ])
      refine hk 14 (h := (ht 15 (h := (ht 16 (h := ?_)))))
      (try simp only [Act.put, List.setIfInBounds_toArray, List.set_cons_zero, List.set_cons_succ])
      refine hk 17 (h := ?_)
      (try simp only [Act.put, List.setIfInBounds_toArray, List.set_cons_zero, List.set_cons_succ])
      refine hk 18 (h := ?_)
      (try simp only [Act.put, List.setIfInBounds_toArray, List.set_cons_zero, List.set_cons_succ])
      refine hk 19 (h := ?_)
      (try simp only [Act.put, List.setIfInBounds_toArray, List.set_cons_zero, List.set_cons_succ])
      refine hk 20 (h := ?_)
      (try simp only [Act.put, List.setIfInBounds_toArray, List.set_cons_zero, List.set_cons_succ])
      refine hk 21 (h := ?_)
      (try simp only [Act.put, List.setIfInBounds_toArray, List.set_cons_zero, List.set_cons_succ])
      refine hk 22 (h := ?_)
      (try simp only [Act.put, List.setIfInBounds_toArray, List.set_cons_zero, List.set_cons_succ])
      refine hk 23 (h := ?_)
      (try simp only [Act.put, List.setIfInBounds_toArray, List.set_cons_zero, List.set_cons_succ])
      refine hk 24 (h := (ht 25 (h := (ht 26 (h := ?_)))))
      (try simp only [Act.put, List.setIfInBounds_toArray, List.set_cons_zero, List.set_cons_succ])
      refine hk 27 (h := ?_)
      (try simp only [Act.put, List.setIfInBounds_toArray, List.set_cons_zero, List.set_cons_succ])
      refine hk 28 (h := ?_)
      (try simp only [Act.put, List.setIfInBounds_toArray, List.set_cons_zero, List.set_cons_succ])
      refine hk 29 (h := ?_)
      (try simp only [Act.put, List.setIfInBounds_toArray, List.set_cons_zero, List.set_cons_succ])
      refine hk 30 (h := ?_)
      (try simp only [Act.put, List.setIfInBounds_toArray, List.set_cons_zero, List.set_cons_succ])
      refine hk 31 (h := ?_)
      (try simp only [Act.put, List.setIfInBounds_toArray, List.set_cons_zero, List.set_cons_succ])
      refine hk 32 (h := (ht 33 (h := (ht 34 (h := ?_)))))
      (try simp only [Act.put, List.setIfInBounds_toArray, List.set_cons_zero, List.set_cons_succ])
      refine wpAnyH_done (by kernel_rfl) ?_ _
      have HXr := Lib.hid (HB4.out.2.2.trans hX2)
      clear hX1 hX2 hx1 hx2 hHeld
      go_wp2
      go_ret
      exact ⟨ret_bool (by rw [HQ.out]; rfl), HXr.out⟩
    | true =>
    by_cases hz0 : zn = 0
    · subst hz0
      have hzz : ((0 : Nat) : Int) = 0 := rfl
      by_cases hsc : sc = 0
      · subst hsc
        refine wp_region_held_drew (S := (Ext (fun _ => False) w4)) (by kernel_rfl) ((Ext.refl _ w4).drew) (fun hHeld => ?_)
        refine ht 0 (h := (ht 1 (h := (ht 2 (h := ?_)))))
        (try simp only [Act.put, List.setIfInBounds_toArray, List.set_cons_zero, List.set_cons_succ])
        refine hst 3 (h := fun K hK => ?_)
        (go_simp; go_at_call 90; (with_reducible refine (HVp.out _ hHeld).mono ?_); rintro q1 w11 ⟨rfl, hx1⟩; have hX1 := hHeld.trans hx1)
        refine hK.out _ _ (hX1) (fun hHeld => ?_)
        clear hK K
        (try simp only [Act.put, List.setIfInBounds_toArray, List.set_cons_zero, List.set_cons_succ])
        refine ht 4 (h := ?_)
        (try simp only [Act.put, List.setIfInBounds_toArray, List.set_cons_zero, List.set_cons_succ])
        refine ht 5 (h := ?_)
        (try simp only [Act.put, List.setIfInBounds_toArray, List.set_cons_zero, List.set_cons_succ])
        refine ht 6 (h := ?_)
        (try simp only [Act.put, List.setIfInBounds_toArray, List.set_cons_zero, List.set_cons_succ])
        refine ht 7 (h := ?_)
        (try simp only [Act.put, List.setIfInBounds_toArray, List.set_cons_zero, List.set_cons_succ])
        refine hst 8 (h := fun K hK => ?_)
        (go_simp; go_at_call 90; (with_reducible refine (HVm.out _ hX1).mono ?_); rintro q2 w12 ⟨rfl, hx2⟩; have hX2 := hX1.trans hx2)
        refine hK.out _ _ (hX2) (fun hHeld => ?_)
        clear hK K
        (try simp only [Act.put, List.setIfInBounds_toArray, List.set_cons_zero, List.set_cons_succ])
        refine ht 9 (h := (ht 10 (h := ?_)))
        (try simp only [Act.put, List.setIfInBounds_toArray, List.set_cons_zero, List.set_cons_succ])
        refine ht 11 (h := ?_)
        (try simp only [Act.put, List.setIfInBounds_toArray, List.set_cons_zero, List.set_cons_succ])
        refine ht 12 (h := ?_)
        (try simp only [Act.put, List.setIfInBounds_toArray, List.set_cons_zero, List.set_cons_succ])
        refine ht 13 (h := ?_)
        (try simp only [Act.put, List.setIfInBounds_toArray, List.set_cons_zero, List.set_cons_succ])
        refine ht 14 (h := (ht 15 (h := (ht 16 (h := ?_)))))
        (try simp only [Act.put, List.setIfInBounds_toArray, List.set_cons_zero, List.set_cons_succ])
        refine ht 17 (h := ?_)
        (try simp only [Act.put, List.setIfInBounds_toArray, List.set_cons_zero, List.set_cons_succ])
        refine ht 18 (h := ?_)
        (try simp only [Act.put, List.setIfInBounds_toArray, List.set_cons_zero, List.set_cons_succ])
        refine ht 19 (h := ?_)
        (try simp only [Act.put, List.setIfInBounds_toArray, List.set_cons_zero, List.set_cons_succ])
        refine ht 20 (h := ?_)
        (try simp only [Act.put, List.setIfInBounds_toArray, List.set_cons_zero, List.set_cons_succ])
        refine ht 21 (h := ?_)
        (try simp only [Act.put, List.setIfInBounds_toArray, List.set_cons_zero, List.set_cons_succ])
        refine hst 22 (h := fun K hK => ?_)
        (go_simp; go_at_call 26; (with_reducible refine (HCo.out _ hX2).mono ?_); rintro q3 w13 ⟨v3, rfl, h3, hx3⟩; have hX3 := hX2.trans hx3; have hC := HCm.out w13 _ hX3 h3; obtain ⟨n13, a13, l13, c13, a13', l13', c13', rfl⟩ := h3.shape)
        refine hK.out _ _ (hX3) (fun hHeld => ?_)
        clear hK K
        (try simp only [Act.put, List.setIfInBounds_toArray, List.set_cons_zero, List.set_cons_succ])
        refine hst 23 (h := fun K hK => ?_)
        (go_simp; go_at_call 25; (with_reducible refine (hC).mono ?_); rintro q4 w14 ⟨rfl, hx4⟩; have hX4 := hX3.trans hx4)
        refine hK.out _ _ (hX4) (fun hHeld => ?_)
        clear hK K
        (try simp only [Act.put, List.setIfInBounds_toArray, List.set_cons_zero, List.set_cons_succ])
        refine ht 24 (h := (ht 25 (h := (ht 26 (h := ?_)))))
        (try simp only [Act.put, List.setIfInBounds_toArray, List.set_cons_zero, List.set_cons_succ])
        refine ht 27 (h := ?_)
        (try simp only [Act.put, List.setIfInBounds_toArray, List.set_cons_zero, List.set_cons_succ])
        refine ht 28 (h := ?_)
        (try simp only [Act.put, List.setIfInBounds_toArray, List.set_cons_zero, List.set_cons_succ])
        refine ht 29 (h := ?_)
        (try simp only [Act.put, List.setIfInBounds_toArray, List.set_cons_zero, List.set_cons_succ])
        refine ht 30 (h := ?_)
        (try simp only [Act.put, List.setIfInBounds_toArray, List.set_cons_zero, List.set_cons_succ])
        refine ht 31 (h := ?_)
        (try simp only [Act.put, List.setIfInBounds_toArray, List.set_cons_zero, List.set_cons_succ])
        refine hst 32 (h := fun K hK => ?_)
        (go_simp; go_at_call 91; (with_reducible refine (HOp.out _ hX4).mono ?_); rintro q5 w15 ⟨rfl, hx5⟩; have hX5 := hX4.trans hx5)
        refine hK.out _ _ (hX5) (fun hHeld => ?_)
        clear hK K
        (try simp only [Act.put, List.setIfInBounds_toArray, List.set_cons_zero, List.set_cons_succ])
        refine ht 33 (h := (ht 34 (h := ?_)))
        (try simp only [Act.put, List.setIfInBounds_toArray, List.set_cons_zero, List.set_cons_succ])
        refine wpAnyH_done (by kernel_rfl) ?_ _
        have HXr := Lib.hid (HB4.out.2.2.trans hX5)
        clear hX1 hX2 hX3 hX4 hX5 hx1 hx2 hx3 hx4 hx5 h3 hC hHeld
        go_wp2
        go_ret
        exact ⟨ret_bool (by rw [HQ.out]; rfl), HXr.out⟩
      · have hsc1 : (sc == 0) = false := by simpa using hsc
        have HE := Lib.hid (decide_eq_false hsc)
        refine wp_region_held_drew (S := (Ext (fun _ => False) w4)) (by kernel_rfl) ((Ext.refl _ w4).drew) (fun hHeld => ?_)
        refine ht 0 (h := (ht 1 (h := (ht 2 (h := ?_)))))
        (try simp only [Act.put, List.setIfInBounds_toArray, List.set_cons_zero, List.set_cons_succ])
        refine hst 3 (h := fun K hK => ?_)
        (go_simp; go_at_call 90; (with_reducible refine (HVp.out _ hHeld).mono ?_); rintro q1 w11 ⟨rfl, hx1⟩; have hX1 := hHeld.trans hx1)
        refine hK.out _ _ (hX1) (fun hHeld => ?_)
        clear hK K
        (try simp only [Act.put, List.setIfInBounds_toArray, List.set_cons_zero, List.set_cons_succ])
        refine ht 4 (h := ?_)
        (try simp only [Act.put, List.setIfInBounds_toArray, List.set_cons_zero, List.set_cons_succ])
        refine ht 5 (h := ?_)
        (try simp only [Act.put, List.setIfInBounds_toArray, List.set_cons_zero, List.set_cons_succ])
        refine ht 6 (h := ?_)
        (try simp only [Act.put, List.setIfInBounds_toArray, List.set_cons_zero, List.set_cons_succ])
        refine ht 7 (h := ?_)
        (try simp only [Act.put, List.setIfInBounds_toArray, List.set_cons_zero, List.set_cons_succ])
        refine hst 8 (h := fun K hK => ?_)
        (go_simp; go_at_call 90; (with_reducible refine (HVm.out _ hX1).mono ?_); rintro q2 w12 ⟨rfl, hx2⟩; have hX2 := hX1.trans hx2)
        refine hK.out _ _ (hX2) (fun hHeld => ?_)
        clear hK K
        (try simp only [Act.put, List.setIfInBounds_toArray, List.set_cons_zero, List.set_cons_succ])
        refine ht 9 (h := (ht 10 (h := ?_)))
        (try simp only [Act.put, List.setIfInBounds_toArray, List.set_cons_zero, List.set_cons_succ])
        refine ht 11 (h := ?_)
        (try simp only [Act.put, List.setIfInBounds_toArray, List.set_cons_zero, List.set_cons_succ])
        refine ht 12 (h := ?_)
        (try simp only [Act.put, List.setIfInBounds_toArray, List.set_cons_zero, List.set_cons_succ])
        refine ht 13 (h := ?_)
        (try simp only [Act.put, List.setIfInBounds_toArray, List.set_cons_zero, List.set_cons_succ])
        refine ht 14 (h := (ht 15 (h := (ht 16 (h := ?_)))))
        (try simp only [Act.put, List.setIfInBounds_toArray, List.set_cons_zero, List.set_cons_succ])
        refine ht 17 (h := ?_)
        (try simp only [Act.put, List.setIfInBounds_toArray, List.set_cons_zero, List.set_cons_succ])
        refine ht 18 (h := ?_)
        (try simp only [Act.put, List.setIfInBounds_toArray, List.set_cons_zero, List.set_cons_succ])
        refine ht 19 (h := ?_)
        (try simp only [Act.put, List.setIfInBounds_toArray, List.set_cons_zero, List.set_cons_succ])
        refine ht 20 (h := ?_)
        (try simp only [Act.put, List.setIfInBounds_toArray, List.set_cons_zero, List.set_cons_succ])
        refine ht 21 (h := ?_)
        (try simp only [Act.put, List.setIfInBounds_toArray, List.set_cons_zero, List.set_cons_succ])
        refine hst 22 (h := fun K hK => ?_)
        (go_simp; go_at_call 26; (with_reducible refine (HCo.out _ hX2).mono ?_); rintro q3 w13 ⟨v3, rfl, h3, hx3⟩; have hX3 := hX2.trans hx3; have hC := HCm.out w13 _ hX3 h3; obtain ⟨n13, a13, l13, c13, a13', l13', c13', rfl⟩ := h3.shape)
        refine hK.out _ _ (hX3) (fun hHeld => ?_)
        clear hK K
        (try simp only [Act.put, List.setIfInBounds_toArray, List.set_cons_zero, List.set_cons_succ])
        refine hst 23 (h := fun K hK => ?_)
        (go_simp; go_at_call 25; (with_reducible refine (hC).mono ?_); rintro q4 w14 ⟨rfl, hx4⟩; have hX4 := hX3.trans hx4)
        refine hK.out _ _ (hX4) (fun hHeld => ?_)
        clear hK K
        (try simp only [Act.put, List.setIfInBounds_toArray, List.set_cons_zero, List.set_cons_succ])
        refine ht 24 (h := (ht 25 (h := (ht 26 (h := ?_)))))
        (try simp only [Act.put, List.setIfInBounds_toArray, List.set_cons_zero, List.set_cons_succ])
        refine hk 27 (h := ?_)
        (try simp only [Act.put, List.setIfInBounds_toArray, List.set_cons_zero, List.set_cons_succ])
        refine hk 28 (h := ?_)
        (try simp only [Act.put, List.setIfInBounds_toArray, List.set_cons_zero, List.set_cons_succ])
        refine hk 29 (h := ?_)
        (try simp only [Act.put, List.setIfInBounds_toArray, List.set_cons_zero, List.set_cons_succ])
        refine hk 30 (h := ?_)
        (try simp only [Act.put, List.setIfInBounds_toArray, List.set_cons_zero, List.set_cons_succ])
        refine hk 31 (h := ?_)
        (try simp only [Act.put, List.setIfInBounds_toArray, List.set_cons_zero, List.set_cons_succ])
        refine hk 32 (h := (ht 33 (h := (ht 34 (h := ?_)))))
        (try simp only [Act.put, List.setIfInBounds_toArray, List.set_cons_zero, List.set_cons_succ])
        refine wpAnyH_done (by kernel_rfl) ?_ _
        have HXr := Lib.hid (HB4.out.2.2.trans hX4)
        clear hX1 hX2 hX3 hX4 hx1 hx2 hx3 hx4 h3 hC hHeld
        go_wp2
        go_ret
        exact ⟨ret_bool (by rw [HQ.out, HE.out]; rfl), HXr.out⟩
    · have hz1 : ((zn : Int) == 0) = false := by simpa using hz0
      have hz2 : ¬ (zn : Int) = 0 := by omega
      have HE := Lib.hid (decide_eq_false hz0)
      refine wp_region_held_drew (S := (Ext (fun _ => False) w4)) (by kernel_rfl) ((Ext.refl _ w4).drew) (fun hHeld => ?_)
      refine ht 0 (h := (ht 1 (h := (ht 2 (h := ?_)))))
      (try simp only [Act.put, List.setIfInBounds_toArray, List.set_cons_zero, List.set_cons_succ])
      refine hst 3 (h := fun K hK => ?_)
      (go_simp; go_at_call 90; (with_reducible refine (HVp.out _ hHeld).mono ?_); rintro q1 w11 ⟨rfl, hx1⟩; have hX1 := hHeld.trans hx1)
      refine hK.out _ _ (hX1) (fun hHeld => ?_)
      clear hK K
      (try simp only [Act.put, List.setIfInBounds_toArray, List.set_cons_zero, List.set_cons_succ])
      refine ht 4 (h := ?_)
      (try simp only [Act.put, List.setIfInBounds_toArray, List.set_cons_zero, List.set_cons_succ])
      refine ht 5 (h := ?_)
      (try simp only [Act.put, List.setIfInBounds_toArray, List.set_cons_zero, List.set_cons_succ])
      refine ht 6 (h := ?_)
      (try simp only [Act.put, List.setIfInBounds_toArray, List.set_cons_zero, List.set_cons_succ])
      refine ht 7 (h := ?_)
      (try simp only [Act.put, List.setIfInBounds_toArray, List.set_cons_zero, List.set_cons_succ])
      refine hst 8 (h := fun K hK => ?_)
      (go_simp; go_at_call 90; (with_reducible refine (HVm.out _ hX1).mono ?_); rintro q2 w12 ⟨rfl, hx2⟩; have hX2 := hX1.trans hx2)
      refine hK.out _ _ (hX2) (fun hHeld => ?_)
      clear hK K
      (try simp only [Act.put, List.setIfInBounds_toArray, List.set_cons_zero, List.set_cons_succ])
      refine ht 9 (h := (ht 10 (h := ?_)))
      (try simp only [Act.put, List.setIfInBounds_toArray, List.set_cons_zero, List.set_cons_succ])
      refine ht 11 (h := ?_)
      (try simp only [Act.put, List.setIfInBounds_toArray, List.set_cons_zero, List.set_cons_succ])
      refine ht 12 (h := ?_)
      (try simp only [Act.put, List.setIfInBounds_toArray, List.set_cons_zero, List.set_cons_succ])
      refine ht 13 (h := ?_)
      (try simp only [Act.put, List.setIfInBounds_toArray, List.set_cons_zero, List.set_cons_succ])
      refine ht 14 (h := (ht 15 (h := (ht 16 (h := ?_)))))
      (try simp only [Act.put, List.setIfInBounds_toArray, List.set_cons_zero, List.set_cons_succ])
      refine hk 17 (h := ?_)
      (try simp only [Act.put, List.setIfInBounds_toArray, List.set_cons_zero, List.set_cons_succ])
      refine hk 18 (h := ?_)
      (try simp only [Act.put, List.setIfInBounds_toArray, List.set_cons_zero, List.set_cons_succ])
      refine hk 19 (h := ?_)
      (try simp only [Act.put, List.setIfInBounds_toArray, List.set_cons_zero, List.set_cons_succ])
      refine hk 20 (h := ?_)
      (try simp only [Act.put, List.setIfInBounds_toArray, List.set_cons_zero, List.set_cons_succ])
      refine hk 21 (h := ?_)
      (try simp only [Act.put, List.setIfInBounds_toArray, List.set_cons_zero, List.set_cons_succ])
      refine hk 22 (h := ?_)
      (try simp only [Act.put, List.setIfInBounds_toArray, List.set_cons_zero, List.set_cons_succ])
      refine hk 23 (h := ?_)
      (try simp only [Act.put, List.setIfInBounds_toArray, List.set_cons_zero, List.set_cons_succ])
      refine hk 24 (h := (ht 25 (h := (ht 26 (h := ?_)))))
      (try simp only [Act.put, List.setIfInBounds_toArray, List.set_cons_zero, List.set_cons_succ])
      refine hk 27 (h := ?_)
      (try simp only [Act.put, List.setIfInBounds_toArray, List.set_cons_zero, List.set_cons_succ])
      refine hk 28 (h := ?_)
      (try simp only [Act.put, List.setIfInBounds_toArray, List.set_cons_zero, List.set_cons_succ])
      refine hk 29 (h := ?_)
      (try simp only [Act.put, List.setIfInBounds_toArray, List.set_cons_zero, List.set_cons_succ])
      refine hk 30 (h := ?_)
      (try simp only [Act.put, List.setIfInBounds_toArray, List.set_cons_zero, List.set_cons_succ])
      refine hk 31 (h := ?_)
      (try simp only [Act.put, List.setIfInBounds_toArray, List.set_cons_zero, List.set_cons_succ])
      refine hk 32 (h := (ht 33 (h := (ht 34 (h := ?_)))))
      (try simp only [Act.put, List.setIfInBounds_toArray, List.set_cons_zero, List.set_cons_succ])
      refine wpAnyH_done (by kernel_rfl) ?_ _
      have HXr := Lib.hid (HB4.out.2.2.trans hX2)
      clear hX1 hX2 hx1 hx2 hHeld
      go_wp2
      go_ret
      exact ⟨ret_bool (by rw [HQ.out, HE.out]; rfl), HXr.out⟩
  by_cases hk1 : kd = 1
  · subst hk1
    rw [if_neg (by decide), if_pos rfl] at HQ
    generalize hb2 : decide (mn = m) = b2 at *
    clear hb2
    by_cases hp0 : pn = 0
    · subst hp0
      have hpp : ((0 : Nat) : Int) = 0 := rfl
      go_wp2_with fail
      refine (HVm.out _ (Ext.refl _ _)).mono ?_
      rintro r5 w5 ⟨rfl, hx5⟩
      have HB5 := Lib.hid (And.intro (blk_keep HB4.out.1 hx5) (And.intro (blk_keep HB4.out.2.1 hx5) (And.intro ((Ext.refl (fun _ => False) w4).trans hx5) (HB4.out.2.2.trans hx5))))
      clear hx5 z0 z1 e1 e2 e3 e4 e5 e6 k0
      have z0 := cellq HB5.out.1 0 rfl
      have z1 := cellq HB5.out.1 1 rfl
      have e1 := cellq HB5.out.2.1 1 rfl
      have e2 := cellq HB5.out.2.1 2 rfl
      have e3 := cellq HB5.out.2.1 3 rfl
      have e4 := cellq HB5.out.2.1 4 rfl
      have e5 := cellq HB5.out.2.1 5 rfl
      have e6 := cellq HB5.out.2.1 6 rfl
      cases b2 with
      | false =>
        go_wp2
        go_ret
        exact ⟨ret_bool (by rw [HQ.out]; rfl), HB5.out.2.2.2⟩
      | true =>
      by_cases hz0 : zn = 0
      · subst hz0
        have hzz : ((0 : Nat) : Int) = 0 := rfl
        go_wp2_with fail
        refine (HSg.out _ HB5.out.2.2.1).mono ?_
        rintro r6 w6 ⟨rfl, hx6⟩
        have HB6 := Lib.hid (And.intro (blk_keep HB5.out.1 hx6) (And.intro (blk_keep HB5.out.2.1 hx6) (And.intro (HB5.out.2.2.1.trans hx6) (HB5.out.2.2.2.trans hx6))))
        clear hx6 z0 z1 e1 e2 e3 e4 e5 e6
        have z0 := cellq HB6.out.1 0 rfl
        have z1 := cellq HB6.out.1 1 rfl
        have e1 := cellq HB6.out.2.1 1 rfl
        have e2 := cellq HB6.out.2.1 2 rfl
        have e3 := cellq HB6.out.2.1 3 rfl
        have e4 := cellq HB6.out.2.1 4 rfl
        have e5 := cellq HB6.out.2.1 5 rfl
        have e6 := cellq HB6.out.2.1 6 rfl
        by_cases hsv : sv = 0
        · subst hsv
          go_wp2_with fail
          refine (HIn.out _ HB6.out.2.2.1).mono ?_
          rintro r7 w7 ⟨rfl, hx7⟩
          have HX7 := Lib.hid (HB6.out.2.2.2.trans hx7)
          clear hx7
          go_wp2
          go_ret
          exact ⟨ret_bool (by rw [HQ.out]; rfl), HX7.out⟩
        · have hsv1 : (sv == 0) = false := by simpa using hsv
          have HE := Lib.hid (decide_eq_false hsv)
          go_wp2
          go_ret
          exact ⟨ret_bool (by rw [HQ.out, HE.out]; rfl), HB6.out.2.2.2⟩
      · have hz1 : ((zn : Int) == 0) = false := by simpa using hz0
        have hz2 : ¬ (zn : Int) = 0 := by omega
        have HE := Lib.hid (decide_eq_false hz0)
        go_wp2
        go_ret
        exact ⟨ret_bool (by rw [HQ.out, HE.out]; simp), HB5.out.2.2.2⟩
    · have hp1 : ((pn : Int) == 0) = false := by simpa using hp0
      have hp2 : ¬ (pn : Int) = 0 := by omega
      have HE := Lib.hid (decide_eq_false hp0)
      go_wp2
      go_ret
      exact ⟨ret_bool (by rw [HQ.out, HE.out]; rfl), HB4.out.2.2⟩
  by_cases hk2 : kd = 2
  · subst hk2
    rw [if_neg (by decide), if_neg (by decide), if_pos rfl] at HQ
    generalize hb1 : decide (pn = n) = b1 at *
    generalize hb3 : decide (zn = n) = b3 at *
    clear hb1 hb3
    go_wp2_with fail
    refine (HVp.out _ (Ext.refl _ _)).mono ?_
    rintro r5 w5 ⟨rfl, hx5⟩
    have HB5 := Lib.hid (And.intro (blk_keep HB4.out.1 hx5) (And.intro (blk_keep HB4.out.2.1 hx5) (And.intro ((Ext.refl (fun _ => False) w4).trans hx5) (HB4.out.2.2.trans hx5))))
    clear hx5 z0 z1 e1 e2 e3 e4 e5 e6 k0
    have z0 := cellq HB5.out.1 0 rfl
    have z1 := cellq HB5.out.1 1 rfl
    have e1 := cellq HB5.out.2.1 1 rfl
    have e2 := cellq HB5.out.2.1 2 rfl
    have e3 := cellq HB5.out.2.1 3 rfl
    have e4 := cellq HB5.out.2.1 4 rfl
    have e5 := cellq HB5.out.2.1 5 rfl
    have e6 := cellq HB5.out.2.1 6 rfl
    cases b1 with
    | false =>
      go_wp2
      go_ret
      exact ⟨ret_bool (by rw [HQ.out]; rfl), HB5.out.2.2.2⟩
    | true =>
    by_cases hm0 : mn = 0
    · subst hm0
      have hmm : ((0 : Nat) : Int) = 0 := rfl
      go_wp2_with fail
      refine (HVr.out _ HB5.out.2.2.1).mono ?_
      rintro r6 w6 ⟨rfl, hx6⟩
      have HB6 := Lib.hid (And.intro (blk_keep HB5.out.1 hx6) (And.intro (blk_keep HB5.out.2.1 hx6) (And.intro (HB5.out.2.2.1.trans hx6) (HB5.out.2.2.2.trans hx6))))
      clear hx6 z0 z1 e1 e2 e3 e4 e5 e6
      have z0 := cellq HB6.out.1 0 rfl
      have z1 := cellq HB6.out.1 1 rfl
      have e1 := cellq HB6.out.2.1 1 rfl
      have e2 := cellq HB6.out.2.1 2 rfl
      have e3 := cellq HB6.out.2.1 3 rfl
      have e4 := cellq HB6.out.2.1 4 rfl
      have e5 := cellq HB6.out.2.1 5 rfl
      have e6 := cellq HB6.out.2.1 6 rfl
      cases b3 with
      | false =>
        go_wp2
        go_ret
        exact ⟨ret_bool (by rw [HQ.out]; rfl), HB6.out.2.2.2⟩
      | true =>
      go_wp2_with fail
      refine (HSg.out _ HB6.out.2.2.1).mono ?_
      rintro r7 w7 ⟨rfl, hx7⟩
      have HB7 := Lib.hid (And.intro (blk_keep HB6.out.1 hx7) (And.intro (blk_keep HB6.out.2.1 hx7) (And.intro (HB6.out.2.2.1.trans hx7) (HB6.out.2.2.2.trans hx7))))
      clear hx7 z0 z1 e1 e2 e3 e4 e5 e6
      have z0 := cellq HB7.out.1 0 rfl
      have z1 := cellq HB7.out.1 1 rfl
      have e1 := cellq HB7.out.2.1 1 rfl
      have e2 := cellq HB7.out.2.1 2 rfl
      have e3 := cellq HB7.out.2.1 3 rfl
      have e4 := cellq HB7.out.2.1 4 rfl
      have e5 := cellq HB7.out.2.1 5 rfl
      have e6 := cellq HB7.out.2.1 6 rfl
      by_cases hsv : sv = 0
      · subst hsv
        go_wp2_with fail
        refine (HUn.out _ HB7.out.2.2.1).mono ?_
        rintro r8 w8 ⟨rfl, hx8⟩
        have HX8 := Lib.hid (HB7.out.2.2.2.trans hx8)
        clear hx8
        go_wp2
        go_ret
        exact ⟨ret_bool (by rw [HQ.out]; rfl), HX8.out⟩
      · have hsv1 : (sv == 0) = false := by simpa using hsv
        have HE := Lib.hid (decide_eq_false hsv)
        go_wp2
        go_ret
        exact ⟨ret_bool (by rw [HQ.out, HE.out]; rfl), HB7.out.2.2.2⟩
    · have hm1 : ((mn : Int) == 0) = false := by simpa using hm0
      have hm2 : ¬ (mn : Int) = 0 := by omega
      have HE := Lib.hid (decide_eq_false hm0)
      go_wp2
      go_ret
      exact ⟨ret_bool (by rw [HQ.out, HE.out]; rfl), HB5.out.2.2.2⟩
  · rw [if_neg hk0, if_neg hk1, if_neg hk2] at HQ
    have k01 : (kd == 0) = false := by simpa using hk0
    have k11 : (kd == 1) = false := by simpa using hk1
    have k21 : (kd == 2) = false := by simpa using hk2
    go_wp2
    go_ret
    exact ⟨ret_bool (by rw [HQ.out]), HB4.out.2.2⟩
end Go.Proofs.YtbgienfcmdgaaaaGreat
/-
  A drawn region walked by hand, whose last operations may write what the region reads. Conditions: none beyond each lemma's own.
-/
namespace Go.Proofs.YtbgienfcmdgaaaaGreat
open Go.RowKit Go.MapKept

section
variable {P : Program} {md : Region.Mode} {ops : Array Oper} {Q : Exit → Act → World → Prop} {S : World → Prop} {k : Nat → Bool}
/-- every order of what is left ends well; S holds behind each operation that is not late -/
def EndsL (P : Program) (md : Region.Mode) (ops : Array Oper) (Q : Exit → Act → World → Prop) (S : World → Prop) (k : Nat → Bool) : Nat → Array Bool → Act → World → Prop
  | 0, ls, a, w => Region.ready md ops ls = [] ∧ Q .normal a w
  | n + 1, ls, a, w => (Region.ready md ops ls = [] → Q .normal a w) ∧ ∀ i ∈ Region.ready md ops ls, wpOp P ops Q i (fun a' w' => (k i = false → S w') ∧ EndsL P md ops Q S k n (ls.setIfInBounds i true) a' w') a w
theorem EndsL.any : ∀ (n : Nat) (ls : Array Bool) (a : Act) (w : World), EndsL P md ops Q S k n ls a w → wpAny P md ops Q n ls a w
  | 0, _, _, _, h => h
  | n + 1, _, _, _, h => ⟨h.1, fun i hi => wpOp_mono (fun a w h => EndsL.any n _ a w h.2) (h.2 i hi)⟩
theorem EndsL.take {i : Nat} {oi : Oper} {v : Value} (hi : ops[i]? = some oi) (hsel : ∀ (j : Nat) (o : Oper) cs b, ops[j]? = some o → o.op ≠ .select cs b) (hQ : ∀ c a w, Q (.panic c) (a.put oi.dst v) w → Q (.panic c) a w) :
    ∀ (n : Nat) (ls : Array Bool) (a : Act) (w : World), Apart md ops i oi ls → i ∈ Region.ready md ops ls → (k i = false ∧ ∀ j, k j = true → ∃ ok, ops[j]? = some ok ∧ ∃ e ∈ ok.after, Region.binds md e = true ∧ e.on = i) → YieldsIf P ops S oi v a → S w → EndsL P md ops Q S k n (ls.setIfInBounds i true) (a.put oi.dst v) w → EndsL P md ops Q S k (n + 1) ls a w := by
  have first : ∀ (n : Nat) (ls : Array Bool) (a : Act) (w : World), i ∈ Region.ready md ops ls → YieldsIf P ops S oi v a → S w → EndsL P md ops Q S k n (ls.setIfInBounds i true) (a.put oi.dst v) w → wpOp P ops Q i (fun a' w' => (k i = false → S w') ∧ EndsL P md ops Q S k n (ls.setIfInBounds i true) a' w') a w :=
    fun n ls a w _ hy hS H => hy.wpOp hi hS ⟨fun _ => hS, H⟩
  intro n
  induction n with
  | zero =>
    intro ls a w _ hr _ hy hS H
    refine ⟨fun h => (by rw [h] at hr; cases hr), fun j hj => ?_⟩
    rcases Decidable.em (j = i) with e | e
    · rw [e]; exact first 0 ls a w hr hy hS H
    · have := ready_mono hj e
      rw [H.1] at this; cases this
  | succ n ih =>
    intro ls a w hap hr hk hy hS H
    refine ⟨fun h => (by rw [h] at hr; cases hr), fun j hj => ?_⟩
    rcases Decidable.em (j = i) with e | e
    · rw [e]; exact first (n + 1) ls a w hr hy hS H
    · obtain ⟨hju, oj, hoj, _⟩ := mem_ready.1 hj
      have h2 := wpOp_putIf hoj (hap j oj hoj e hju (unlisted hr hoj hj)) (fun cs b => hsel i oi cs b hi) (fun cs b => hsel j oj cs b hoj) hQ hy (H.2 j (ready_mono hj e))
      refine wpOp_mono (fun a' w' h3 => ?_) h2
      have hr' : i ∈ Region.ready md ops (ls.setIfInBounds j true) := ready_mono hr (Ne.symm e)
      have hjk : k j = false := by
        cases hkj : k j with
        | false => rfl
        | true =>
          obtain ⟨ok, ho, e', he, hb, hon⟩ := hk.2 j hkj
          rw [hoj] at ho; cases ho
          exact absurd hon (unlisted hr hoj hj e' he hb)
      have hS' : S w' := h3.2.1 hjk
      exact ⟨fun _ => hS', ih _ a' w' (hap.next hju) hr' hk h3.1 hS' (by rw [Array.setIfInBounds_comm _ _ e]; exact h3.2.2)⟩
end
section
variable {P : Program} {md : Region.Mode} {l : List Oper} {Q : Exit → Act → World → Prop} {S : World → Prop} {k : Nat}
/-- all operations from number k on wait for i, which comes ahead of them -/
def waitsL (md : Region.Mode) (l : List Oper) (k i : Nat) : Bool := decide (i < k) && (List.range l.length).all fun j => !decide (k ≤ j) || waits md l j i
theorem waitsL_spec {i : Nat} (h : waitsL md l k i = true) : (fun j => decide (k ≤ j) && decide (j < l.length)) i = false ∧ ∀ j, (fun j => decide (k ≤ j) && decide (j < l.length)) j = true → ∃ ok, l.toArray[j]? = some ok ∧ ∃ e ∈ ok.after, Region.binds md e = true ∧ e.on = i := by
  unfold waitsL at h
  simp only [Bool.and_eq_true, decide_eq_true_eq, List.all_eq_true] at h
  refine ⟨by simp only [Bool.and_eq_false_iff, decide_eq_false_iff_not]; left; omega, fun j hj => ?_⟩
  simp only [Bool.and_eq_true, decide_eq_true_eq] at hj
  have h2 := h.2 j (List.mem_range.2 hj.2)
  rw [decide_eq_true hj.1] at h2
  exact waits_spec (by simpa using h2)
/-- the walk's form: the operations from number k on are late -/
abbrev EndsK (P : Program) (md : Region.Mode) (l : List Oper) (Q : Exit → Act → World → Prop) (S : World → Prop) (k : Nat) (n : Nat) (ls : Array Bool) (a : Act) (w : World) : Prop := EndsL P md l.toArray Q S (fun j => decide (k ≤ j) && decide (j < l.length)) n ls a w
theorem lt (i : Nat) {oi : Oper} {v : Value} {fuel : Nat} {listed : Array Bool} {a : Act} {w : World} (hi : l[i]? = some oi := by rfl) (hs : Region.noSelect l.toArray = true := by kernel_rfl) (hf : Region.free md l.toArray listed i = true := by kernel_rfl)
    (hr : (Region.ready md l.toArray listed).contains i = true := by kernel_rfl) (hk : waitsL md l k i = true := by kernel_rfl) (hQ : ∀ c a w, Q (.panic c) (a.put oi.dst v) w → Q (.panic c) a w := by exact fun _ _ _ h => h) (hw : Region.wanted oi (yielded l.toArray a.tmps) = true := by rfl)
    (he : ∀ w, S w → (execOp a.eval oi).run P w = .ok (.value v) w := by (intro w hSw; (try simp only [Act.put, List.setIfInBounds_toArray, List.set_cons_zero, List.set_cons_succ]); (try dsimp only at hSw); go_simp) <;> with_reducible rfl) (hS : S w := by assumption) (h : EndsK P md l Q S k fuel (listed.setIfInBounds i true) (a.put oi.dst v) w) : EndsK P md l Q S k (fuel + 1) listed a w :=
  have hi' : l.toArray[i]? = some oi := by simpa using hi
  EndsL.take hi' (Region.noSelect_spec hs) hQ fuel listed a w (Region.free_spec hi' hf) (by simpa using hr) (waitsL_spec hk) (.inl ⟨hw, he⟩) hS h
theorem lst (i : Nat) {oi : Oper} {fuel : Nat} {listed : Array Bool} {a : Act} {w : World} (hi : l[i]? = some oi := by rfl) (hr : Region.ready md l.toArray listed = [i] := by kernel_rfl)
    (h : ∀ K' : Act → World → Prop, Shut (∀ a w, S w → (S w → EndsK P md l Q S k fuel (listed.setIfInBounds i true) a w) → K' a w) → if Region.wanted oi (yielded l.toArray a.tmps) = true then Oper.wp P oi a w K' Q else K' (a.put oi.dst undef) w) :
    EndsK P md l Q S k (fuel + 1) listed a w := by
  refine ⟨fun h0 => (by rw [hr] at h0; cases h0), fun j hj => ?_⟩
  rw [hr] at hj
  obtain rfl := List.mem_singleton.1 hj
  exact wpOp_step (by simpa using hi) (fun K' hK => h K' (fun a w hS hW => hK a w ⟨fun _ => hS, hW hS⟩))
/-- a late operation: nothing is held behind it -/
theorem ll (i : Nat) {oi : Oper} {fuel : Nat} {listed : Array Bool} {a : Act} {w : World} (hi : l[i]? = some oi := by rfl) (hr : Region.ready md l.toArray listed = [i] := by kernel_rfl) (hk : (decide (k ≤ i) && decide (i < l.length)) = true := by kernel_rfl)
    (h : ∀ K' : Act → World → Prop, Shut (∀ a w, EndsK P md l Q S k fuel (listed.setIfInBounds i true) a w → K' a w) → if Region.wanted oi (yielded l.toArray a.tmps) = true then Oper.wp P oi a w K' Q else K' (a.put oi.dst undef) w) :
    EndsK P md l Q S k (fuel + 1) listed a w := by
  refine ⟨fun h0 => (by rw [hr] at h0; cases h0), fun j hj => ?_⟩
  rw [hr] at hj
  obtain rfl := List.mem_singleton.1 hj
  exact wpOp_step (by simpa using hi) (fun K' hK => h K' (fun a w hW => hK a w ⟨fun e => absurd (hk.symm.trans e) (by decide), hW⟩))
theorem ldone {listed : Array Bool} {a : Act} {w : World} (hr : Region.ready md l.toArray listed = []) (h : Q .normal a w) : ∀ fuel, EndsK P md l Q S k fuel listed a w
  | 0 => ⟨hr, h⟩
  | _ + 1 => ⟨fun _ => h, by rw [hr]; simp⟩
theorem lbegin {id : Nat} {a : Act} {w : World} (k : Nat) (S : World → Prop) (hm : P.follows .mixedOrders = true) (hS : S w.drew)
    (h : S w.drew → EndsK P .any l Q S k l.toArray.size (Array.replicate l.toArray.size false) a w.drew) : (Code.region id l.toArray true).wp P Q a w :=
  wp_region_any hm (EndsL.any _ _ _ _ (h hS))
end
end Go.Proofs.YtbgienfcmdgaaaaGreat
/-
  Package exodusref06: fixed, Check. Conditions: the arguments read as programs and outcomes, sizes bounded.
-/
namespace Go.Proofs.YtbgienfcmdgaaaaGreat
open Go.RowKit Go.MapKept
open Go.ChangeMaps (setBlock)

/-- a row of the call's own of fractions in the only form -/
def COwn (w : World) (base : Nat) (v : Value) (l : List Rat) (L : Nat) : Prop :=
  ∃ cs : List RatC, cs.length = l.length ∧ w.ownsRow base 31 3 v l.length (cs.flatMap RatC.cells) ∧ (∀ g, v.ownBlock = some g → NoDig w g) ∧ ∀ (i : Nat) c q, cs[i]? = some c → l[i]? = some q → IsRat w c.v q ∧ Sz q L
theorem COwn.row {w : World} {base : Nat} {v : Value} {l : List Rat} {L : Nat} (h : COwn w base v l L) : ROwn w base v l L := by
  obtain ⟨cs, h1, h2, h3, h4⟩ := h
  exact ⟨cs, h1, h2, h3, fun i c q hc hq => (h4 i c q hc hq).1.reads (h4 i c q hc hq).2⟩
theorem COwn.shape {w : World} {base : Nat} {v : Value} {l : List Rat} {L : Nat} (h : COwn w base v l L) : ∃ ao cap, v = .slice ao l.length cap := h.row.shape
theorem COwn.lt {w : World} {base : Nat} {v : Value} {l : List Rat} {L : Nat} (h : COwn w base v l L) : ∀ g, v.ownBlock = some g → base ≤ g ∧ g < w.heap.size := h.row.lt
theorem COwn.empty {w : World} {g base : Nat} (L : Nat) (h : blk w g = some (.cells #[] 31 (0, 0))) (hb : base ≤ g) : COwn w base (.slice (some ⟨g, 0, none⟩) 0 0) [] L := by
  obtain ⟨cs, h1, h2, h3, _⟩ := ROwn.empty L h hb
  exact ⟨cs, h1, h2, h3, fun i c q _ hq => (by simp at hq)⟩
theorem COwn.past {S : Nat → Prop} {w w' : World} {base : Nat} {v : Value} {l : List Rat} {L : Nat} (h : COwn w base v l L) (hx : Ext S w w') (hn : ∀ g, v.ownBlock = some g → ¬ S g) (hr : ∀ u d, Rds w u d → Rds w' u d) : COwn w' base v l L := by
  have hlt := h.lt
  obtain ⟨cs, h1, h2, h3, h4⟩ := h
  refine ⟨cs, h1, ownsRow_ext h2 hx hn, fun g hg i d hc => h3 g hg i d ?_, fun i c q hc hq => ⟨(h4 i c q hc hq).1.past hr, (h4 i c q hc hq).2⟩⟩
  rw [← hx.cell (p := ⟨g, i, none⟩) (hlt g hg).2 (hn g hg)]; exact hc
theorem COwn.keep {w w' : World} {base : Nat} {v : Value} {l : List Rat} {L : Nat} (h : COwn w base v l L) (hx : Ext (fun _ => False) w w') : COwn w' base v l L := h.past hx (fun _ _ h => h) (fun _ _ hr => hr.keep hx)
theorem COwn.crats {w : World} {base : Nat} {v : Value} {l : List Rat} {L : Nat} (h : COwn w base v l L) : CRats w v l L := by
  obtain ⟨cs, h1, h2, h3, h4⟩ := h
  refine ⟨cs, h1, ?_, h4⟩
  rcases h2.2 with ⟨rfl, h0⟩ | ⟨g, cap, cur, rfl, hb, hg, hnc, hcm, hcs, htake⟩
  · have hl := List.eq_nil_of_length_eq_zero (h1.trans h0)
    subst hl
    exact Sl.nil w 3
  · refine ⟨some ⟨g, 0, none⟩, cap, by rw [List.length_map, h1], by rw [List.length_map, h1]; exact hnc, hcm, (fun e => by cases e), fun hp => ⟨g, 0, rfl, (Array.getElem?_eq_some_iff.1 hg).1, fun i r hi j u hu => ?_⟩⟩
    rw [List.getElem?_map] at hi
    obtain ⟨x, hx, rfl⟩ := Option.map_eq_some_iff.1 hi
    have hil : i < cs.length := (List.getElem?_eq_some_iff.1 hx).1
    have hj : j < 3 := (List.getElem?_eq_some_iff.1 hu).1
    have hget := fm_get (f := RatC.cells) (m := 3) (fun _ => rfl) cs i hx j hj
    rw [← htake] at hget
    rw [Nat.zero_add, cell_of_cells (show blk w g = some _ from hg), ← Array.getElem?_toList, ← hu, ← hget, List.getElem?_take, if_pos (by omega)]
set_option maxRecDepth 100000 in
theorem run_append_crat (w : World) (base : Nat) (v : Value) (l : List Rat) (L : Nat) (x : RatC) (q : Rat) (ad : Addr) (c : Nat) (ty : TypeId) (h : COwn w base v l L) (hq : IsRat w x.v q) (hz : Sz q L) (hsrc : ∀ j u, x.cells[j]? = some u → w.cell? (ad.add j) = some u) (hl : l.length ≤ 1000000) (hbase : base ≤ w.heap.size) :
    ∃ v' w', (Builtin.append_ #[32, 32] ty #[v, .slice (some ad) 1 c]).run Tryz.prog w = .ok v' w' ∧ COwn w' base v' (l ++ [q]) L ∧ Ext (fun k => v.ownBlock = some k) w w' ∧ (∀ u d, Rds w u d → Rds w' u d) := by
  obtain ⟨i0, hi, hz0, hz1, hz2⟩ := info_parts Tryz.infoRat
  obtain ⟨cs, h1, h2, h3, h4⟩ := h
  have h2' : w.ownsRow base 31 i0.size v l.length (cs.flatMap RatC.cells) := by rw [hz1]; exact h2
  have hsz : (Value.agg #[.bool false, .slice none 0 0, .slice none 0 0]).cells.size = i0.size := by rw [hz1]; rfl
  have hzn : NoD (Value.agg #[.bool false, .slice none 0 0, .slice none 0 0]).cells.toList := ratC_noD ⟨false, none, 0, 0, none, 0, 0⟩
  have hbt : (l.length + 1) * i0.bytes ≤ 140737488355328 := by rw [hz2]; omega
  have h63 : l.length + 1 ≤ maxLen := by unfold maxLen; omega
  obtain ⟨v', w', hr, g1, g2, _, g5⟩ := run_append_own_at (P := Tryz.prog) w base 32 ty 31 i0 _ i0.size i0.bytes Tryz.underlying32 hi hz0 rfl rfl hsz (by rw [hz1]; decide) v l.length _ h2' ad 1 c x.cells (by rw [hz1]; rfl) hsrc (ratC_one x) h63 hbt hbase
  have hx : Ext (fun k => v.ownBlock = some k) w w' := (Ext.refl (fun k => v.ownBlock = some k) w).grown g2 (fun k hk _ => hk)
  have hrd : ∀ u d, Rds w u d → Rds w' u d := fun u d hu => hu.past hx (fun k _ hk => h3 k hk)
  have hnd := append_noDig (P := Tryz.prog) w base 32 ty 31 i0 _ Tryz.underlying32 hi hz0 hsz hzn v l.length _ h2' h3 (ratsC_noD cs) ad 1 c x.cells (by rw [hz1]; rfl) hsrc (ratC_one x) (ratC_noD x) (by omega) h63 hbt v' w' hr
  refine ⟨v', w', hr, ⟨cs ++ [x], by rw [List.length_append, List.length_append, h1]; rfl, ?_, hnd, fun i c' q' hc' hq' => ?_⟩, hx, hrd⟩
  · rw [List.length_append, List.flatMap_append, List.flatMap_cons, List.flatMap_nil, List.append_nil]
    rw [hz1] at g1
    exact g1
  · by_cases hi' : i < cs.length
    · rw [List.getElem?_append_left hi'] at hc'
      rw [List.getElem?_append_left (by omega)] at hq'
      exact ⟨(h4 i c' q' hc' hq').1.past hrd, (h4 i c' q' hc' hq').2⟩
    · rw [List.getElem?_append_right (by omega)] at hc' hq'
      have e : i - cs.length = 0 := by
        have := (List.getElem?_eq_some_iff.1 hc').1
        simp at this
        omega
      rw [e] at hc'
      rw [show i - l.length = 0 from by omega] at hq'
      cases hc'; cases hq'
      exact ⟨hq.past hrd, hz⟩
theorem wpList_append_crat {w : World} {ops : Array Oper} {rest : List Oper} {o : Oper} {a : Act} {Q : Exit → Act → World → Prop} (hgd : o.guard = none) (s x : Operand)
    (ho : o.op = .call { callee := .builtin .append, args := #[s, x], argTypes := #[32, 32] })
    (base : Nat) (v : Value) (l : List Rat) (L : Nat) (hs : a.eval s = v) (hown : COwn w base v l L) (e : RatC) (q : Rat) (hq : IsRat w e.v q) (hz : Sz q L) (ad : Addr) (c : Nat) (hx : a.eval x = .slice (some ad) 1 c) (hsrc : ∀ j u, e.cells[j]? = some u → w.cell? (ad.add j) = some u) (hl : l.length ≤ 1000000) (hbase : base ≤ w.heap.size)
    (h : ∀ v' w', COwn w' base v' (l ++ [q]) L → Ext (fun k => v.ownBlock = some k) w w' → (∀ u d, Rds w u d → Rds w' u d) → wpList Tryz.prog ops Q rest (a.put o.dst v') w') :
    wpList Tryz.prog ops Q (o :: rest) a w := by
  refine wpList_plain hgd fun K hK => ?_
  obtain ⟨v', w', hr, h2, h3, h5⟩ := run_append_crat w base v l L e q ad c o.type hown hq hz hsrc hl hbase
  unfold Oper.wp execOp
  simp only [ho, resolve, invoke, builtin, Sem.run_bind, Sem.run_pure, Result.andThen_ok, List.map_toArray, List.map_cons, List.map_nil, hs, hx, hr]
  exact hK _ _ (h v' w' h2 h3 h5)
def CPost (w : World) (l : List Rat) (L : Nat) (r : Ending) (w' : World) : Prop := ∃ u, r = .returned u ∧ COwn w' w.heap.size u l L ∧ Ext (fun _ => False) w w'
set_option maxRecDepth 100000 in
set_option maxHeartbeats 4000000 in
theorem fixed_any (w : World) (v : Value) (l : List Rat) (L : Nat) (h : Rats w v l L) (h1 : 1 ≤ L) (hL : L ≤ 67108864) (hn : l.length ≤ 1000000) : Calls Tryz.prog 58 #[v] w (CPost w l L) := by
  obtain ⟨ao, c, rfl, -, hl63, -⟩ := h.shape
  have HC := Lib.hid h
  have HZ := Lib.hid (h.sz h1)
  clear h
  obtain ⟨m, hm⟩ : ∃ m, l.length = m := ⟨_, rfl⟩
  have HM := Lib.hid hm
  rw [hm] at hl63 HC hn ⊢
  clear hm
  have hbe := blk_alloc_at w (.cells #[] 31)
  have HB := Lib.hid (And.intro (COwn.empty (base := w.heap.size) L hbe (Nat.le_refl _)) ((Ext.refl (fun _ => False) w).alloc (.cells #[] 31)))
  clear hbe
  go_enter Tryz.func58, Tryz.ntmps58
  go_upto_region 2 with fail
  generalize w.alloc (.cells #[] 31) = w1 at *
  obtain ⟨bs, hbs⟩ : ∃ bs, w.heap.size = bs := ⟨_, rfl⟩
  have HBs := Lib.hid hbs
  rw [hbs] at HB ⊢
  clear hbs
  go_wp2_with fail
  go_loopg [4, 3] m (fun gg v4 v3 wr => ∃ (i : Nat) (v : Value), i ≤ m ∧ gg = m - i ∧ v4 = .int .i64 i ∧ v3 = v ∧ COwn wr bs v (l.take i) L ∧ Ext (fun _ => False) w wr)
  case atStart => exact ⟨0, _, Nat.zero_le _, rfl, rfl, rfl, HB.out.1, HB.out.2⟩
  case round =>
    obtain ⟨i, v, hi, rfl, rfl, rfl, ho, hx⟩ := hrel
    obtain ⟨ao', cap, rfl⟩ := ho.shape
    have hll : (l.take i).length = i := by rw [List.length_take, HM.out]; omega
    rw [hll] at ho ⊢
    have HO := Lib.hid (And.intro ho hx)
    have HLl := Lib.hid hll
    clear ho hx hll
    by_cases hin : i < m
    · have i0 : (i : Int) < (m : Int) := by omega
      have i1 : (0 : Int) ≤ (i : Int) := by omega
      have hil : i < l.length := by rw [HM.out]; exact hin
      obtain ⟨b, off, ng, a1, m1, c1, a2, m2, c2, rfl, -, e0, e1, e2, hq⟩ := (HC.out.keep HO.out.2).at i hil
      have HFx := Lib.hid (Rrfix_any wr _ _ L hq h1 hL)
      have HTk := Lib.hid (show l.take (i + 1) = l.take i ++ [atQ l i] from by rw [atQ_in l hil, List.take_succ_eq_append_getElem hil])
      have HSz := Lib.hid (HZ.out (i : Int))
      clear hq hil
      generalize atQ l i = Q at *
      go_wp2_with fail
      refine HFx.out.mono ?_
      rintro r2 w2 ⟨v2, rfl, h2, hx2⟩
      obtain ⟨n2, a2, l2, c2, a2', l2', c2', rfl⟩ := h2.shape
      have hxa := (Ext.refl (fun _ => False) w2).alloc (.cells #[.bool n2, .slice a2 l2 c2, .slice a2' l2' c2'] 31)
      have HO2 := Lib.hid (And.intro (HO.out.1.keep (hx2.trans hxa)) (And.intro (h2.keep hxa) ((HO.out.2.trans hx2).trans hxa)))
      have HSw := Lib.hid (show bs ≤ (w2.alloc (.cells #[.bool n2, .slice a2 l2 c2, .slice a2' l2' c2'] 31)).heap.size from (by have := HO2.out.2.2.size; have := HBs.out; omega))
      have HG := Lib.hid (fun g e => (HO2.out.1.lt g e).1)
      clear h2 hx2 hxa HFx e0 e1 e2
      go_wp2_with (at_builtin; refine wpList_append_crat rfl (.tmp 12) (.tmp 18) rfl bs _ _ L rfl HO2.out.1 ⟨n2, a2, l2, c2, a2', l2', c2'⟩ Q HO2.out.2.1 HSz.out ⟨w2.heap.size, 0, none⟩ 1 rfl (cells_new (RatC.cells ⟨n2, a2, l2, c2, a2', l2', c2'⟩) _ rfl) (by rw [HLl.out]; omega) HSw.out ?_; intro v5 w5 hown5 hx5 hrd5; have HN : Hid (COwn w5 bs v5 (l.take (i + 1)) L) := Lib.hid (by rw [HTk.out]; exact hown5); have HX5 : Hid (Ext (fun _ => False) w w5) := Lib.hid (ext_own HO2.out.2.2 hx5 (fun g e => by have := HG.out g e; have := HBs.out; omega)); clear hown5 hx5 hrd5)
      go_roundg (m - (i + 1))
      case measure => omega
      case rel => exact ⟨i + 1, _, by omega, rfl, by go_num, rfl, HN.out, HX5.out⟩
    · obtain rfl : i = m := by omega
      have HR := Lib.hid (show COwn wr w.heap.size (.slice ao' i cap) l L from by
        have h := HO.out.1
        rw [List.take_of_length_le (by rw [HM.out]; exact Nat.le_refl _), ← HBs.out] at h
        exact h)
      go_wp2
      go_ret
      exact ⟨_, rfl, HR.out, HO.out.2⟩
set_option maxRecDepth 100000 in
set_option maxHeartbeats 8000000 in
theorem Check6_any (w : World) (pv ov : Value) (p : ProgV) (o : OutV) (L T : Nat) (hp : IsPrg w pv p) (ho : IsOut w ov o L) (hs : Small p T L) (hlp : o.pt.length ≤ 1000000) (hlm : o.mu.length ≤ 1000000) (hlr : o.ray.length ≤ 1000000) :
    Calls Tryz.prog 20 #[pv, ov] w (ErrPost w (checkE p o)) := by
  have h1 := hs.room.one
  have r8 := hs.room.all.2.2.2.2.2.2.2.1
  have HP := Lib.hid hp
  obtain ⟨vv, rv, rfl, -, -⟩ := hp
  obtain ⟨neg, a1, m1, c1, a2, m2, c2, ptv, muv, rav, rfl, hval, hpt, hmu, hra, hkr⟩ := ho
  obtain ⟨po, pc, rfl, -, hpn, -⟩ := hpt.shape
  obtain ⟨mo, mc, rfl, -, hmn, -⟩ := hmu.shape
  obtain ⟨zo, zc, rfl, -, hzn, -⟩ := hra.shape
  have HVal := Lib.hid (fun W (hW : Ext (fun _ => False) w W) => Valid4_any W _ p (HP.out.keep hW))
  have HFx := Lib.hid (fun W (hW : Ext (fun _ => False) w W) => Rrfix_any W _ o.val L (hval.keep hW) h1 (by omega))
  have HFp := Lib.hid (fun W (hW : Ext (fun _ => False) w W) => fixed_any W _ o.pt L (hpt.keep hW) h1 (by omega) hlp)
  have HFm := Lib.hid (fun W (hW : Ext (fun _ => False) w W) => fixed_any W _ o.mu L (hmu.keep hW) h1 (by omega) hlm)
  have HFr := Lib.hid (fun W (hW : Ext (fun _ => False) w W) => fixed_any W _ o.ray L (hra.keep hW) h1 (by omega) hlr)
  have HPr := Lib.hid (fun W ov' (hW : Ext (fun _ => False) w W) (ho : IsOutC W ov' o L) => Proved5_any W _ ov' p o L T (HP.out.keep hW) ho hs)
  have HVz := Lib.hid (hval.sz h1)
  have HQ := Lib.hid (show checkE p o = if validB p && decide (0 ≤ o.kind) && decide (o.kind ≤ 2) then (if chkB p o then 0 else 13) else 1 from rfl)
  have HKq := Lib.hid (fun (hv : validB p = true) (hk : 0 ≤ o.kind ∧ o.kind ≤ 2) => prB_eq hv hk)
  clear hpt hmu hra hval hs r8 h1 HP hlp hlm hlr
  obtain ⟨pn, hpl⟩ : ∃ pn, o.pt.length = pn := ⟨_, rfl⟩
  obtain ⟨mn, hml⟩ : ∃ mn, o.mu.length = mn := ⟨_, rfl⟩
  obtain ⟨zn, hzl⟩ : ∃ zn, o.ray.length = zn := ⟨_, rfl⟩
  have HLp := Lib.hid hpl
  have HLm := Lib.hid hml
  have HLz := Lib.hid hzl
  rw [hpl] at hpn HFp ⊢
  rw [hml] at hmn HFm ⊢
  rw [hzl] at hzn HFr ⊢
  clear hpl hml hzl
  obtain ⟨kd, hkd⟩ : ∃ kd, o.kind = kd := ⟨_, rfl⟩
  have HKd := Lib.hid hkd
  rw [hkd] at hkr HQ HKq ⊢
  clear hkd
  generalize checkE p o = ce at *
  go_enter Tryz.func20, Tryz.ntmps20
  have b0 : blk ((w.alloc (.cells #[vv, rv] 25)).alloc (.cells #[.int .i64 kd, .bool neg, .slice a1 m1 c1, .slice a2 m2 c2, .slice po pn pc, .slice mo mn mc, .slice zo zn zc] 34)) w.heap.size = some (.cells #[vv, rv] 25 (0, 0)) := (blk_alloc_past _ _ _ (by simp)).trans (blk_alloc_at _ _)
  have b1 := blk_alloc_at (w.alloc (.cells #[vv, rv] 25)) (.cells #[.int .i64 kd, .bool neg, .slice a1 m1 c1, .slice a2 m2 c2, .slice po pn pc, .slice mo mn mc, .slice zo zn zc] 34)
  rw [World.size_alloc] at b1
  have hx1 := ((Ext.refl (fun _ => False) w).alloc (.cells #[vv, rv] 25)).alloc (.cells #[.int .i64 kd, .bool neg, .slice a1 m1 c1, .slice a2 m2 c2, .slice po pn pc, .slice mo mn mc, .slice zo zn zc] 34)
  have HB := Lib.hid (And.intro b0 (And.intro b1 hx1))
  clear b0 b1 hx1
  go_upto_region 1 with fail
  generalize hw1 : (w.alloc (.cells #[vv, rv] 25)).alloc (.cells #[.int .i64 kd, .bool neg, .slice a1 m1 c1, .slice a2 m2 c2, .slice po pn pc, .slice mo mn mc, .slice zo zn zc] 34) = w1 at *
  clear hw1
  obtain ⟨ob, hob⟩ : ∃ ob, w.heap.size + 1 = ob := ⟨_, rfl⟩
  have hpo : w.heap.size < ob := by omega
  rw [hob] at HB ⊢
  clear hob
  obtain ⟨pb, hpb⟩ : ∃ pb, w.heap.size = pb := ⟨_, rfl⟩
  have hpw : w.heap.size ≤ pb := Nat.le_of_eq hpb
  rw [hpb] at HB hpo ⊢
  clear hpb
  have z0 := cellq HB.out.1 0 rfl
  have z1 := cellq HB.out.1 1 rfl
  go_wp2_with fail
  refine (HVal.out _ HB.out.2.2).mono ?_
  rintro r2 w2 ⟨rfl, hx2⟩
  have HB2 := Lib.hid (And.intro (blk_keep HB.out.1 hx2) (And.intro (blk_keep HB.out.2.1 hx2) (HB.out.2.2.trans hx2)))
  clear hx2 HB HVal z0 z1
  obtain ⟨vb, hvb⟩ : ∃ vb, validB p = vb := ⟨_, rfl⟩
  have HVb := Lib.hid hvb
  rw [hvb] at HQ ⊢
  clear hvb
  cases vb with
  | false =>
    go_wp2
    go_ret
    exact ⟨by rw [HQ.out]; rfl, HB2.out.2.2⟩
  | true =>
  have k0 := cellq HB2.out.2.1 0 rfl
  by_cases hka : kd < 0
  · have HE := Lib.hid (decide_eq_false (p := 0 ≤ kd) (by omega))
    go_wp2
    go_ret
    exact ⟨by rw [HQ.out, HE.out]; rfl, HB2.out.2.2⟩
  by_cases hkb : 2 < kd
  · have HE := Lib.hid (decide_eq_false (p := kd ≤ 2) (by omega))
    go_wp2
    go_ret
    exact ⟨by rw [HQ.out, HE.out]; simp, HB2.out.2.2⟩
  replace HKq := Lib.hid (HKq.out HVb.out ⟨by omega, by omega⟩)
  replace HQ := Lib.hid (show ce = if chkB p o then 0 else 13 from by rw [HQ.out, decide_eq_true (p := 0 ≤ kd) (by omega), decide_eq_true (p := kd ≤ 2) (by omega)]; rfl)
  rw [← HKq.out] at HQ
  clear HKq
  replace HFx := Lib.hid (fun W (hW : Ext (fun _ => False) w2 W) => HFx.out W (HB2.out.2.2.trans hW))
  replace HFp := Lib.hid (fun W (hW : Ext (fun _ => False) w2 W) => HFp.out W (HB2.out.2.2.trans hW))
  replace HFm := Lib.hid (fun W (hW : Ext (fun _ => False) w2 W) => HFm.out W (HB2.out.2.2.trans hW))
  replace HFr := Lib.hid (fun W (hW : Ext (fun _ => False) w2 W) => HFr.out W (HB2.out.2.2.trans hW))
  go_upto_region 3 with fail
  clear k0
  have e1 := cq (cellq HB2.out.2.1 1 rfl)
  have e2 := cq (cellq HB2.out.2.1 2 rfl)
  have e3 := cq (cellq HB2.out.2.1 3 rfl)
  have e4 := cq (cellq HB2.out.2.1 4 rfl)
  have e5 := cq (cellq HB2.out.2.1 5 rfl)
  have e6 := cq (cellq HB2.out.2.1 6 rfl)
  refine lbegin 13 (Ext (fun _ => False) w2) (by kernel_rfl) ((Ext.refl _ w2).drew) (fun hHeld => ?_)
  refine lt 0 (h := (lt 1 (h := (lt 3 (h := (lt 4 (h := (lt 6 (h := (lt 7 (h := (lt 9 (h := (lt 10 (h := ?_)))))))))))))))
  (try simp only [Act.put, List.setIfInBounds_toArray, List.set_cons_zero, List.set_cons_succ])
  refine lst 2 (h := fun K hK => ?_)
  (go_simp; go_at_call 45; (with_reducible refine (HFx.out _ hHeld).mono ?_); rintro q1 w11 ⟨v11, rfl, h11, hx11⟩; have hX1 := hHeld.trans hx11; obtain ⟨n11, a11, l11, c11, a11', l11', c11', rfl⟩ := h11.shape)
  refine hK.out _ _ (hX1) (fun hHeld => ?_)
  clear hK K
  (try simp only [Act.put, List.setIfInBounds_toArray, List.set_cons_zero, List.set_cons_succ])
  refine lt 12 (h := ?_)
  (try simp only [Act.put, List.setIfInBounds_toArray, List.set_cons_zero, List.set_cons_succ])
  refine lst 5 (h := fun K hK => ?_)
  (go_simp; go_at_call 58; (with_reducible refine (HFp.out _ hX1).mono ?_); rintro q2 w12 ⟨u12, rfl, h12, hx12⟩; have hX2 := hX1.trans hx12; obtain ⟨po', pc', rfl⟩ := h12.shape; rw [HLp.out] at h12 ⊢)
  refine hK.out _ _ (hX2) (fun hHeld => ?_)
  clear hK K
  (try simp only [Act.put, List.setIfInBounds_toArray, List.set_cons_zero, List.set_cons_succ])
  refine lst 8 (h := fun K hK => ?_)
  (go_simp; go_at_call 58; (with_reducible refine (HFm.out _ hX2).mono ?_); rintro q3 w13 ⟨u13, rfl, h13, hx13⟩; have hX3 := hX2.trans hx13; obtain ⟨mo', mc', rfl⟩ := h13.shape; rw [HLm.out] at h13 ⊢)
  refine hK.out _ _ (hX3) (fun hHeld => ?_)
  clear hK K
  (try simp only [Act.put, List.setIfInBounds_toArray, List.set_cons_zero, List.set_cons_succ])
  refine lst 11 (h := fun K hK => ?_)
  (go_simp; go_at_call 58; (with_reducible refine (HFr.out _ hX3).mono ?_); rintro q4 w14 ⟨u14, rfl, h14, hx14⟩; have hX4 := hX3.trans hx14; obtain ⟨zo', zc', rfl⟩ := h14.shape; rw [HLz.out] at h14 ⊢)
  refine hK.out _ _ (hX4) (fun hHeld => ?_)
  clear hK K
  (try simp only [Act.put, List.setIfInBounds_toArray, List.set_cons_zero, List.set_cons_succ])
  have hob := blk_keep HB2.out.2.1 hX4
  have g1 := cellq hob 1 rfl
  have g2 := cellq hob 2 rfl
  have g3 := cellq hob 3 rfl
  have g4 := cellq hob 4 rfl
  have g5 := cellq hob 5 rfl
  have g6 := cellq hob 6 rfl
  have f1 := free_of_cells hob 1
  have f2 := free_of_cells hob 2
  have f3 := free_of_cells hob 3
  have f4 := free_of_cells hob 4
  have f5 := free_of_cells hob 5
  have f6 := free_of_cells hob 6
  refine ll 13 (h := fun K hK => ?_)
  go_simp
  refine hK.out _ _ ?_
  clear hK K
  (try simp only [Act.put, List.setIfInBounds_toArray, List.set_cons_zero, List.set_cons_succ])
  refine ll 14 (h := fun K hK => ?_)
  go_simp
  refine hK.out _ _ ?_
  clear hK K
  (try simp only [Act.put, List.setIfInBounds_toArray, List.set_cons_zero, List.set_cons_succ])
  refine ll 15 (h := fun K hK => ?_)
  go_simp
  refine hK.out _ _ ?_
  clear hK K
  (try simp only [Act.put, List.setIfInBounds_toArray, List.set_cons_zero, List.set_cons_succ])
  refine ll 16 (h := fun K hK => ?_)
  go_simp
  refine hK.out _ _ ?_
  clear hK K
  (try simp only [Act.put, List.setIfInBounds_toArray, List.set_cons_zero, List.set_cons_succ])
  refine ll 17 (h := fun K hK => ?_)
  go_simp
  refine hK.out _ _ ?_
  clear hK K
  (try simp only [Act.put, List.setIfInBounds_toArray, List.set_cons_zero, List.set_cons_succ])
  refine ll 18 (h := fun K hK => ?_)
  go_simp
  refine hK.out _ _ ?_
  clear hK K
  (try simp only [Act.put, List.setIfInBounds_toArray, List.set_cons_zero, List.set_cons_succ])
  refine ll 19 (h := fun K hK => ?_)
  go_simp
  refine hK.out _ _ ?_
  clear hK K
  (try simp only [Act.put, List.setIfInBounds_toArray, List.set_cons_zero, List.set_cons_succ])
  refine ldone (by kernel_rfl) ?_ _
  have hset : Ext (fun k => k = ob) w14 ((((((w14.setCell ⟨ob, 1, none⟩ (.bool n11)).setCell ⟨ob, 2, none⟩ (.slice a11 l11 c11)).setCell ⟨ob, 3, none⟩ (.slice a11' l11' c11')).setCell ⟨ob, 4, none⟩ (.slice po' pn pc')).setCell ⟨ob, 5, none⟩ (.slice mo' mn mc')).setCell ⟨ob, 6, none⟩ (.slice zo' zn zc')) :=
    ((((((Ext.refl (fun k => k = ob) w14).setCell (p := ⟨ob, 1, none⟩) _ (fun _ => rfl)).setCell (p := ⟨ob, 2, none⟩) _ (fun _ => rfl)).setCell (p := ⟨ob, 3, none⟩) _ (fun _ => rfl)).setCell (p := ⟨ob, 4, none⟩) _ (fun _ => rfl)).setCell (p := ⟨ob, 5, none⟩) _ (fun _ => rfl)).setCell (p := ⟨ob, 6, none⟩) _ (fun _ => rfl)
  have hblk := blk_setCell_same (blk_setCell_same (blk_setCell_same (blk_setCell_same (blk_setCell_same (blk_setCell_same hob 1 (.bool n11)) 2 (.slice a11 l11 c11)) 3 (.slice a11' l11' c11')) 4 (.slice po' pn pc')) 5 (.slice mo' mn mc')) 6 (.slice zo' zn zc')
  simp only [List.setIfInBounds_toArray, List.set_cons_zero, List.set_cons_succ] at hblk
  have hnd : NoDig w14 ob := noDig_cells hob (fun u hu d e => by subst e; simp at hu)
  have hrd : ∀ v l, Rds w14 v l → Rds ((((((w14.setCell ⟨ob, 1, none⟩ (.bool n11)).setCell ⟨ob, 2, none⟩ (.slice a11 l11 c11)).setCell ⟨ob, 3, none⟩ (.slice a11' l11' c11')).setCell ⟨ob, 4, none⟩ (.slice po' pn pc')).setCell ⟨ob, 5, none⟩ (.slice mo' mn mc')).setCell ⟨ob, 6, none⟩ (.slice zo' zn zc')) v l := fun v l hr => hr.past hset (fun k _ e => by have e' : k = ob := e; subst e'; exact hnd)
  have hobl := blk_lt HB2.out.2.1
  have s2 := hX1.size
  have s3 := hX2.size
  have s4 := hX3.size
  have hpt' := ((h12.keep (hx13.trans hx14)).past hset (fun g hg e => by have h := (h12.lt g hg).1; have e' : g = ob := e; omega) hrd).crats
  have hmu' := ((h13.keep hx14).past hset (fun g hg e => by have h := (h13.lt g hg).1; have e' : g = ob := e; omega) hrd).crats
  have hra' := (h14.past hset (fun g hg e => by have h := (h14.lt g hg).1; have e' : g = ob := e; omega) hrd).crats
  have hvl' := (h11.keep ((hx12.trans hx13).trans hx14)).past hrd
  have HF := Lib.hid (And.intro hblk (And.intro ((hset.blk (blk_lt (blk_keep HB2.out.1 hX4)) (fun e => by have e' : pb = ob := e; omega)).trans (blk_keep HB2.out.1 hX4)) (And.intro ((HB2.out.2.2.trans hX4).own hset (fun k e => by have e' : k = ob := e; omega))
    (show IsOutC _ (.agg #[.int .i64 kd, .bool n11, .slice a11 l11 c11, .slice a11' l11' c11', .slice po' pn pc', .slice mo' mn mc', .slice zo' zn zc']) o L from ⟨n11, a11, l11, c11, a11', l11', c11', .slice po' pn pc', .slice mo' mn mc', .slice zo' zn zc', by rw [HKd.out], ⟨hvl', HVz.out⟩, hpt', hmu', hra', by rw [HKd.out]; exact hkr⟩))))
  clear hset hblk hnd hrd hpt' hmu' hra' hvl' hob g1 g2 g3 g4 g5 g6 f1 f2 f3 f4 f5 f6 e1 e2 e3 e4 e5 e6 hX1 hX2 hX3 hX4 hx11 hx12 hx13 hx14 h11 h12 h13 h14 hHeld hobl s2 s3 s4
  generalize (((((w14.setCell ⟨ob, 1, none⟩ (.bool n11)).setCell ⟨ob, 2, none⟩ (.slice a11 l11 c11)).setCell ⟨ob, 3, none⟩ (.slice a11' l11' c11')).setCell ⟨ob, 4, none⟩ (.slice po' pn pc')).setCell ⟨ob, 5, none⟩ (.slice mo' mn mc')).setCell ⟨ob, 6, none⟩ (.slice zo' zn zc') = w9 at *
  have z0 := cellq HF.out.2.1 0 rfl
  have z1 := cellq HF.out.2.1 1 rfl
  have g0 := cellq HF.out.1 0 rfl
  have g1 := cellq HF.out.1 1 rfl
  have g2 := cellq HF.out.1 2 rfl
  have g3 := cellq HF.out.1 3 rfl
  have g4 := cellq HF.out.1 4 rfl
  have g5 := cellq HF.out.1 5 rfl
  have g6 := cellq HF.out.1 6 rfl
  go_wp2_with fail
  refine (HPr.out w9 _ HF.out.2.2.1 HF.out.2.2.2).mono ?_
  rintro r10 w10 ⟨rfl, hx10⟩
  have HX := Lib.hid (HF.out.2.2.1.trans hx10)
  clear hx10 z0 z1 g0 g1 g2 g3 g4 g5 g6
  generalize prB p o = pb' at *
  cases pb' with
  | true =>
    go_wp2
    go_ret
    exact ⟨by rw [HQ.out]; rfl, HX.out⟩
  | false =>
    go_wp2
    go_ret
    exact ⟨by rw [HQ.out]; rfl, HX.out⟩
end Go.Proofs.YtbgienfcmdgaaaaGreat
/-
  The reference's Ints; the example of the law. Conditions: a short list of numbers of the caller's own.
-/
namespace Go.Proofs.YtbgienfcmdgaaaaGreat
open Go.RowKit Go.MapKept
open Go.ChangeMaps (setBlock)

def qOf (ns : List Int) (i : Nat) : Rat := ((ns.getD i 0 : Int) : Rat)
set_option maxRecDepth 100000 in
set_option maxHeartbeats 4000000 in
theorem Ints_any (w : World) (b c : Nat) (ns : List Int) (L : Nat) (hc : ∀ i, i < ns.length → w.cell? ⟨b, i, none⟩ = some (.int .i64 (ns.getD i 0))) (hr : ∀ x ∈ ns, InR x) (hn0 : ns.length ≤ 1000) (h1 : 2 ≤ L) :
    Calls Tryz.prog 50 #[.slice (some ⟨b, 0, none⟩) ns.length c] w (RatsPost w (listTo ns.length (qOf ns)) L) := by
  have HF := Lib.hid (fun W (hW : Ext (fun _ => False) w W) i (hi : i < ns.length) => And.intro (cell_keep (hc i hi) hW) (Rrfrom_any W (ns.getD i 0) (hr _ (by rw [List.getD_eq_getElem?_getD, List.getElem?_eq_getElem hi]; exact List.getElem_mem hi)).1 (hr _ (by rw [List.getD_eq_getElem?_getD, List.getElem?_eq_getElem hi]; exact List.getElem_mem hi)).2))
  have HSz := Lib.hid (fun i (hi : i < ns.length) => (Sz.int (hr (ns.getD i 0) (by rw [List.getD_eq_getElem?_getD, List.getElem?_eq_getElem hi]; exact List.getElem_mem hi))).mono h1)
  clear hc hr
  have HQ := Lib.hid (show ∀ i, ((ns.getD i 0 : Int) : Rat) = qOf ns i from fun _ => rfl)
  generalize qOf ns = qf at *
  obtain ⟨n, hn'⟩ : ∃ n, ns.length = n := ⟨_, rfl⟩
  rw [hn'] at hn0 HF HSz ⊢
  clear hn'
  generalize (fun i => ns.getD i 0) = nf at *
  have hb2 := blk_alloc_at w (.cells #[] 31)
  have HB := Lib.hid (And.intro (ROwn.empty (base := w.heap.size) L hb2 (Nat.le_refl _)) ((Ext.refl (fun _ => False) w).alloc (.cells #[] 31)))
  clear hb2
  go_enter Tryz.func50, Tryz.ntmps50
  go_upto_region 2 with fail
  generalize hw1 : (w.alloc (.cells #[] 31)) = w1 at *
  clear hw1
  obtain ⟨bs, hbs⟩ : ∃ bs, w.heap.size = bs := ⟨_, rfl⟩
  have HBs := Lib.hid hbs
  rw [hbs] at HB ⊢
  clear hbs
  go_wp2_with fail
  go_loopg [4, 3] n (fun gg v4 v3 wr => ∃ (i : Nat) (v : Value), i ≤ n ∧ gg = n - i ∧ v4 = .int .i64 i ∧ v3 = v ∧ ROwn wr bs v (listTo i qf) L ∧ Ext (fun _ => False) w wr)
  case atStart => exact ⟨0, _, Nat.zero_le _, rfl, rfl, rfl, HB.out.1, HB.out.2⟩
  case round =>
    obtain ⟨i, v, hi, rfl, rfl, rfl, ho, hx⟩ := hrel
    obtain ⟨ao, cap, rfl⟩ := ho.shape
    have hll : (listTo i qf).length = i := listTo_length _ _
    rw [hll] at ho ⊢
    by_cases hin : i < n
    · have i0 : (i : Int) < (n : Int) := by omega
      have i1 : (0 : Int) ≤ (i : Int) := by omega
      have hcell := (HF.out wr hx i hin).1
      have HA1 := Lib.hid (HF.out wr hx i hin).2
      have HSi := Lib.hid (HSz.out i hin)
      have HQi := Lib.hid (HQ.out i)
      generalize ns.getD i 0 = nv at *
      have HO := Lib.hid (And.intro ho hx)
      have HLl := Lib.hid hll
      clear ho hx hll
      go_wp2_with fail
      refine HA1.out.mono ?_
      rintro r2 w2 ⟨v2, rfl, h2, hx2⟩
      obtain ⟨n2, a2, l2, c2, a2', l2', c2', rfl⟩ := h2.shape
      have hxa := (Ext.refl (fun _ => False) w2).alloc (.cells #[.bool n2, .slice a2 l2 c2, .slice a2' l2' c2'] 31)
      have HO2 := Lib.hid (And.intro (HO.out.1.keep (hx2.trans hxa)) (And.intro ((HQi.out ▸ h2.reads HSi.out).keep hxa) ((HO.out.2.trans hx2).trans hxa)))
      have HSz2 := Lib.hid (show bs ≤ (w2.alloc (.cells #[.bool n2, .slice a2 l2 c2, .slice a2' l2' c2'] 31)).heap.size from by have := HO2.out.2.2.size; have := HBs.out; omega)
      have HG := Lib.hid (fun g e => (HO2.out.1.lt g e).1)
      clear h2 hx2 hxa HA1 hcell
      go_wp2_with (at_builtin; refine wpList_append_rat rfl (.tmp 12) (.tmp 18) rfl bs _ _ L rfl HO2.out.1 ⟨n2, a2, l2, c2, a2', l2', c2'⟩ (qf i) HO2.out.2.1 ⟨w2.heap.size, 0, none⟩ 1 rfl (cells_new (RatC.cells ⟨n2, a2, l2, c2, a2', l2', c2'⟩) _ rfl) (by rw [HLl.out]; omega) HSz2.out ?_; intro v5 w5 hown5 hx5 hrd5; have HN : Hid (ROwn w5 bs v5 (listTo (i + 1) qf) L) := Lib.hid (by rw [listTo_succ]; exact hown5); have HX5 : Hid (Ext (fun _ => False) w w5) := Lib.hid (ext_own HO2.out.2.2 hx5 (fun g e => by have := HG.out g e; have := HBs.out; omega)); clear hown5 hx5 hrd5)
      go_roundg (n - (i + 1))
      case measure => omega
      case rel => exact ⟨i + 1, _, by omega, rfl, by go_num, rfl, HN.out, HX5.out⟩
    · obtain rfl : i = n := by omega
      have HO := Lib.hid (And.intro ho hx)
      clear ho hx
      go_wp2
      go_ret
      exact ⟨_, rfl, by have := HO.out.1.rats; exact this, HO.out.2⟩
theorem blk_alloc_at' (w : World) (o : Obj) (k : Nat) (h : k = w.heap.size) : blk (w.alloc o) k = some o := by subst h; exact blk_alloc_at w o
def exV : List VarV := [⟨0, 3, false, false, -1⟩, ⟨0, 3, false, false, -2⟩]
def exT : List TermV := [⟨0, 1⟩, ⟨1, 1⟩]
def exP : ProgV := ⟨exV, [⟨.empty, 0, 0, exT, 4⟩]⟩
def PrgPost (w : World) (p : ProgV) (r : Ending) (w' : World) : Prop := ∃ v, r = .returned v ∧ IsPrg w' v p ∧ Ext (fun _ => False) w w'
set_option maxRecDepth 100000 in
set_option maxHeartbeats 4000000 in
theorem example_any (w : World) : Calls Tryz.prog 49 #[] w (PrgPost w exP) := by
  have hx := Ext.refl (fun _ => False) w
  go_enter Tryz.func49, Tryz.ntmps49
  go_wp2
  (try simp only [Exit.inBlock, Exit.then])
  obtain ⟨bs, hbs⟩ : ∃ bs, w.heap.size = bs := ⟨_, rfl⟩
  have hx4 := (((hx.alloc (.cells #[.slice (some ⟨w.heap.size + 1 + 1, 0, none⟩) 2 2, .slice (some ⟨w.heap.size + 1 + 1 + 1, 0, none⟩) 1 1] 25)).alloc (.cells #[.int .i64 0, .int .i64 1, .int .i64 1, .int .i64 1] 76)).alloc (.cells #[.int .i64 0, .int .i64 3, .bool false, .bool false, .int .i64 (-1), .int .i64 0, .int .i64 3, .bool false, .bool false, .int .i64 (-2)] 63)).alloc (.cells #[.string ⟨#[]⟩, .int .i64 0, .int .i64 0, .slice (some ⟨w.heap.size + 1, 0, none⟩) 2 2, .int .i64 4] 58)
  obtain ⟨W, hW⟩ : ∃ W, (((w.alloc (.cells #[.slice (some ⟨w.heap.size + 1 + 1, 0, none⟩) 2 2, .slice (some ⟨w.heap.size + 1 + 1 + 1, 0, none⟩) 1 1] 25)).alloc (.cells #[.int .i64 0, .int .i64 1, .int .i64 1, .int .i64 1] 76)).alloc (.cells #[.int .i64 0, .int .i64 3, .bool false, .bool false, .int .i64 (-1), .int .i64 0, .int .i64 3, .bool false, .bool false, .int .i64 (-2)] 63)).alloc (.cells #[.string ⟨#[]⟩, .int .i64 0, .int .i64 0, .slice (some ⟨w.heap.size + 1, 0, none⟩) 2 2, .int .i64 4] 58) = W := ⟨_, rfl⟩
  have b0 : blk W w.heap.size = some (.cells #[.slice (some ⟨w.heap.size + 1 + 1, 0, none⟩) 2 2, .slice (some ⟨w.heap.size + 1 + 1 + 1, 0, none⟩) 1 1] 25 (0, 0)) := by
    rw [← hW]
    refine (blk_alloc_past _ _ _ (by simp [World.size_alloc] <;> omega)).trans ((blk_alloc_past _ _ _ (by simp [World.size_alloc] <;> omega)).trans ((blk_alloc_past _ _ _ (by simp)).trans (blk_alloc_at _ _)))
  have b1 : blk W (w.heap.size + 1) = some (.cells #[.int .i64 0, .int .i64 1, .int .i64 1, .int .i64 1] 76 (0, 0)) := by
    rw [← hW]
    refine (blk_alloc_past _ _ _ (by simp [World.size_alloc] <;> omega)).trans ((blk_alloc_past _ _ _ (by simp [World.size_alloc] <;> omega)).trans (blk_alloc_at' _ _ _ (by simp [World.size_alloc])))
  have b2 : blk W (w.heap.size + 1 + 1) = some (.cells #[.int .i64 0, .int .i64 3, .bool false, .bool false, .int .i64 (-1), .int .i64 0, .int .i64 3, .bool false, .bool false, .int .i64 (-2)] 63 (0, 0)) := by
    rw [← hW]
    refine (blk_alloc_past _ _ _ (by simp [World.size_alloc] <;> omega)).trans (blk_alloc_at' _ _ _ (by simp [World.size_alloc]))
  have b3 : blk W (w.heap.size + 1 + 1 + 1) = some (.cells #[.string ⟨#[]⟩, .int .i64 0, .int .i64 0, .slice (some ⟨w.heap.size + 1, 0, none⟩) 2 2, .int .i64 4] 58 (0, 0)) := by
    rw [← hW]
    exact blk_alloc_at' _ _ _ (by simp [World.size_alloc])
  rw [hW] at hx4 ⊢
  have hs : w.heap.size + 1 + 1 + 1 < W.heap.size := blk_lt b3
  clear hW
  rw [hbs] at b0 b1 b2 b3 hs ⊢
  refine bodyPost_ret (results_cell_row rfl _ W bs 25 _ (0, 0) _ rfl b0 Tryz.underlying25 rfl (by kernel_rfl)) rfl ?_
  refine ⟨_, rfl, ⟨_, _, rfl, ⟨⟨_, _, rfl, Nat.le_refl _, (by unfold maxLen; decide), (fun e => by cases e), fun _ => ⟨bs + 1 + 1, 0, rfl, by omega, ?_⟩⟩, ?_⟩, ⟨[.slice (some ⟨bs + 1, 0, none⟩) 2 2], rfl, ⟨_, _, rfl, Nat.le_refl _, (by unfold maxLen; decide), (fun e => by cases e), fun _ => ⟨bs + 1 + 1 + 1, 0, rfl, by omega, ?_⟩⟩, ?_⟩⟩, hx4⟩
  · intro i r hi j u hu
    match i, hi with
    | 0, hi => cases hi; match j, hu with
      | 0, hu => cases hu; exact cellq b2 0 rfl
      | 1, hu => cases hu; exact cellq b2 1 rfl
      | 2, hu => cases hu; exact cellq b2 2 rfl
      | 3, hu => cases hu; exact cellq b2 3 rfl
      | 4, hu => cases hu; exact cellq b2 4 rfl
    | 1, hi => cases hi; match j, hu with
      | 0, hu => cases hu; exact cellq b2 5 rfl
      | 1, hu => cases hu; exact cellq b2 6 rfl
      | 2, hu => cases hu; exact cellq b2 7 rfl
      | 3, hu => cases hu; exact cellq b2 8 rfl
      | 4, hu => cases hu; exact cellq b2 9 rfl
  · intro x hx
    simp [exP, exV] at hx
    rcases hx with rfl | rfl <;> exact ⟨by unfold InR; decide, by unfold InR; decide, by unfold InR; decide⟩
  · intro i r hi j u hu
    match i, hi with
    | 0, hi => cases hi; match j, hu with
      | 0, hu => cases hu; exact cellq b3 0 rfl
      | 1, hu => cases hu; exact cellq b3 1 rfl
      | 2, hu => cases hu; exact cellq b3 2 rfl
      | 3, hu => cases hu; exact cellq b3 3 rfl
      | 4, hu => cases hu; exact cellq b3 4 rfl
  · intro i r tv hr ht
    match i, hr, ht with
    | 0, hr, ht =>
      cases hr; cases ht
      refine ⟨⟨⟨_, _, rfl, Nat.le_refl _, (by unfold maxLen; decide), (fun e => by cases e), fun _ => ⟨bs + 1, 0, rfl, by omega, ?_⟩⟩, ?_⟩, ⟨Nat.zero_le _, by unfold InR; decide, by unfold InR; decide, by unfold InR; decide⟩⟩
      · intro i r hi j u hu
        match i, hi with
        | 0, hi => cases hi; match j, hu with
          | 0, hu => cases hu; exact cellq b1 0 rfl
          | 1, hu => cases hu; exact cellq b1 1 rfl
        | 1, hi => cases hi; match j, hu with
          | 0, hu => cases hu; exact cellq b1 2 rfl
          | 1, hu => cases hu; exact cellq b1 3 rfl
      · intro x hx
        simp [exT] at hx
        rcases hx with rfl | rfl <;> exact ⟨by unfold InR; decide, by unfold InR; decide⟩
end Go.Proofs.YtbgienfcmdgaaaaGreat
/-
  The example's values. Conditions: none.
-/
namespace Go.Proofs.YtbgienfcmdgaaaaGreat
def exY : List Rat := listTo 1 (qOf [-1])
def exX : List Rat := listTo 2 (qOf [1, 3])
def exZ : List Rat := listTo 1 (qOf [1])
theorem ex_bound : boundQ exP exY = some ((-7 : Int) : Rat) := by decide +kernel
theorem ex_bound0 : boundQ exP [] = some ((-9 : Int) : Rat) := by decide +kernel
theorem ex_boundZ : boundQ exP exZ = none := by decide +kernel
theorem ex_opt : optB exP exX exY = true := by decide +kernel
theorem ex_check : checkE exP ⟨0, ((-7 : Int) : Rat), exX, exY, []⟩ = 0 := by decide +kernel
theorem ex_check' : checkE exP ⟨0, ((-6 : Int) : Rat), exX, exY, []⟩ = 13 := by decide +kernel
#print axioms ex_check
end Go.Proofs.YtbgienfcmdgaaaaGreat
