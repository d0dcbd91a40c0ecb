/-
  Package exodusref05: Bound, IsFeasible, Infeasible. Conditions: the arguments read as programs, lists of fractions, sizes bounded.
-/
import Derived.Test.YtbgienfcmdgaaaaGreatZ14
import Derived.Test.YtbgienfcmdgaaaaGreatZ9
import Derived.Test.YtbgienfcmdgaaaaGreatZ13
import Derived.Test.YtbgienfcmdgaaaaGreatZ10
set_option linter.unusedVariables false
namespace Go.Proofs.YtbgienfcmdgaaaaGreat
open Go.RowKit Go.MapKept
open Go.ChangeMaps (setBlock)

def bound5 (p : ProgV) (y : List Rat) : Option Rat :=
  if signedB p y then (leastQ p (listTo p.vars.length fun i => ((p.v i).co : Rat) - combA p y i)).map (combB p y + ·) else none
theorem bound5_eq {p : ProgV} (h : validB p = true) (y : List Rat) : boundQ p y = bound5 p y := by
  unfold boundQ bound5
  rw [h, Bool.true_and]
theorem CmSt.past {S : Nat → Prop} {w wr w' : World} {pb rb bb B n : Nat} {va vb : Value} {f : Nat → Rat} {q : Rat} (h : CmSt w wr pb rb bb B n va vb f q) (hx : Ext S wr w') (hn : ∀ k, S k → bb < k) (hr : ∀ v l, Rds wr v l → Rds w' v l) : CmSt w w' pb rb bb B n va vb f q := by
  obtain ⟨o1, o2, o3, o4⟩ := h.ord
  have hn' : ∀ k, k ≤ bb → ¬ S k := fun k hk hs => by have := hn k hs; omega
  exact ⟨h.ext.own hx (fun k e => by have := hn k e; omega), (hx.cell (p := ⟨pb, 0, none⟩) (World.block_lt_of_cell? _ _ h.p0) (hn' pb (by omega))).trans h.p0, (hx.cell (p := ⟨pb, 1, none⟩) (World.block_lt_of_cell? _ _ h.p1) (hn' pb (by omega))).trans h.p1, h.res.ext hx (hn' _ (by omega)),
    (by obtain ⟨sn, s1, sm1, sc1, s2, sm2, sc2, h1, h2⟩ := h.acc; exact ⟨sn, s1, sm1, sc1, s2, sm2, sc2, h1.ext hx (hn' _ (Nat.le_refl _)), h2.past hr⟩), h.arr.past hx (hn' _ (by omega)) hr, h.ord⟩
set_option maxRecDepth 100000 in
set_option maxHeartbeats 8000000 in
theorem Bound5_any (w : World) (pv yv : Value) (p : ProgV) (y : List Rat) (L T : Nat) (hp : IsPrg w pv p) (hy : Rats w yv y L) (hs : Small p T L) :
    Calls Tryz.prog 144 #[pv, yv] w (OptPost w (bound5 p y)) := by
  have h1 := hs.room.one
  obtain ⟨r1, r2, r3, r4, r5, r6, r7, r8, r9⟩ := hs.room.all
  have HP := Lib.hid hp
  obtain ⟨vv, rv, rfl, hv, hr⟩ := hp
  obtain ⟨vo, vc, rfl, -, hn, -⟩ := hv.shape
  obtain ⟨ro, rc, rfl, -, hrn, -⟩ := hr.shape
  have HV := Lib.hid hv
  have HSig := Lib.hid (fun W (hW : Ext (fun _ => False) w W) => Signed4_any W _ _ p y L (HP.out.keep hW) (hy.keep hW) h1 (by omega))
  have HCom := Lib.hid (fun W (hW : Ext (fun _ => False) w W) => Combine4_any W _ _ p y L T (HP.out.keep hW) (hy.keep hW) h1 hs.terms r1 r2 r8 r3)
  have hyz := hy.sz h1
  have hA := combA_sz hr hyz hs.terms
  have hB := combB_sz hr hyz
  have hD : ∀ i, i < p.vars.length → Sz (((p.v i).co : Rat) - combA p y i) (sizeA p.rows.length T L + 3) := fun i hi => ((Sz.int (hv.ok i hi).co).sub (hA i)).mono (by omega)
  have HLa := Lib.hid (fun W (hW : Ext (fun _ => False) w W) v (ha : Rats W v (listTo p.vars.length fun i => ((p.v i).co : Rat) - combA p y i) (sizeA p.rows.length T L + 3)) =>
    Least4_any W _ _ p (listTo p.vars.length fun i => ((p.v i).co : Rat) - combA p y i) (sizeA p.rows.length T L + 3) (HP.out.keep hW) ha (by omega) (by omega) (by omega))
  have hlz := leastS_sz (c := listTo p.vars.length fun i => ((p.v i).co : Rat) - combA p y i) hv (atQ_listTo_sz hD (by omega))
  have HAd := Lib.hid (fun W u u' q (hu : IsRat W u (combB p y)) (hu' : IsRat W u' q) (hq : Sz q (1 + p.vars.length * (sizeA p.rows.length T L + 3 + 3))) => Rradd_any W u u' _ q (1 + p.vars.length * (sizeA p.rows.length T L + 3 + 3) + (1 + p.rows.length * (L + 3))) (hu.reads (hB.mono (by omega))) (hu'.reads (hq.mono (by omega))) (by omega) (by omega))
  have HQ := Lib.hid (show bound5 p y = if signedB p y then (leastQ p (listTo p.vars.length fun i => ((p.v i).co : Rat) - combA p y i)).map (combB p y + ·) else none from rfl)
  have HLz : Hid (∀ q, leastQ p (listTo p.vars.length fun i => ((p.v i).co : Rat) - combA p y i) = some q → Sz q (1 + p.vars.length * (sizeA p.rows.length T L + 3 + 3))) := Lib.hid (fun q hq => by
    obtain ⟨_, _, e⟩ := least_some hq
    rw [e]; exact hlz)
  have HSs := Lib.hid (fun W u i (hi : i < p.vars.length) v (hu : IsRat W u ((p.v i).co : Rat)) (hv' : IsRat W v (combA p y i)) => Rrsub_any W u v _ _ (sizeA p.rows.length T L + 3) (hu.reads ((Sz.int (HV.out.ok i hi).co).mono (by omega))) (hv'.reads ((hA i).mono (by omega))) (by omega) (by omega))
  have HDz := Lib.hid hD
  clear hv hr hy hyz hA hB hD hlz HP hs r1 r2 r5 r6 r7 r8 r9 h1
  obtain ⟨n, hn'⟩ : ∃ n, p.vars.length = n := ⟨_, rfl⟩
  have HNn := Lib.hid hn'
  rw [hn'] at hn r3 HV HSig HCom HLa HAd HQ HLz HSs HDz ⊢
  clear hn'
  obtain ⟨m, hm'⟩ : ∃ m, p.rows.length = m := ⟨_, rfl⟩
  rw [hm'] at hrn r4 HSig HCom HAd HLz HLa HDz ⊢
  clear hm'
  generalize (1 + n * (sizeA m T L + 3 + 3)) = szl at *
  generalize hszd : sizeA m T L + 3 = szd at *
  clear hszd
  obtain ⟨f, hf⟩ : ∃ f, (fun i => ((p.v i).co : Rat) - combA p y i) = f := ⟨_, rfl⟩
  have HFi := Lib.hid (fun i => (congrFun hf i : ((p.v i).co : Rat) - combA p y i = f i))
  rw [hf] at HLa HQ HLz
  replace HDz : Hid (∀ i, i < n → Sz (f i) szd) := Lib.hid (fun i hi => by rw [← HFi.out]; exact HDz.out i hi)
  clear hf
  generalize leastQ p (listTo n f) = lq at *
  obtain ⟨b0, b1⟩ : blk ((w.alloc (.cells #[.slice vo n vc, .slice ro m rc] 25)).alloc (.cells #[.bool false, .slice none 0 0, .slice none 0 0] 31)) w.heap.size = some (.cells #[.slice vo n vc, .slice ro m rc] 25 (0, 0)) ∧ BoxR ((w.alloc (.cells #[.slice vo n vc, .slice ro m rc] 25)).alloc (.cells #[.bool false, .slice none 0 0, .slice none 0 0] 31)) (w.heap.size + 1) false (.slice none 0 0) (.slice none 0 0) := by
    refine ⟨(blk_alloc_past _ _ _ (by simp)).trans (blk_alloc_at _ _), ?_⟩
    have := boxR_new (W := w.alloc (.cells #[.slice vo n vc, .slice ro m rc] 25)) rfl false none 0 0 none 0 0
    rwa [World.size_alloc] at this
  have HB := Lib.hid (And.intro b0 (And.intro b1 (((Ext.refl (fun _ => False) w).alloc (.cells #[.slice vo n vc, .slice ro m rc] 25)).alloc (.cells #[.bool false, .slice none 0 0, .slice none 0 0] 31))))
  clear b0 b1
  go_enter Tryz.func144, Tryz.ntmps144
  go_upto_region 1 with fail
  generalize hw1 : (w.alloc (.cells #[.slice vo n vc, .slice ro m rc] 25)).alloc (.cells #[.bool false, .slice none 0 0, .slice none 0 0] 31) = w1 at *
  clear hw1
  obtain ⟨pb, hpb⟩ : ∃ pb, w.heap.size = pb := ⟨_, rfl⟩
  have hpw : w.heap.size ≤ pb := Nat.le_of_eq hpb
  rw [hpb] at HB ⊢
  clear hpb
  obtain ⟨rb, hrb⟩ : ∃ rb, pb + 1 = rb := ⟨_, rfl⟩
  have hpr : pb < rb := by omega
  rw [hrb] at HB ⊢
  clear hrb
  have z0 := cellq HB.out.1 0 rfl
  have z1 := cellq HB.out.1 1 rfl
  go_wp2_with fail
  refine (HSig.out w1 HB.out.2.2).mono ?_
  rintro r2 w2 ⟨rfl, hx2⟩
  have HB2 := Lib.hid (And.intro (blk_keep HB.out.1 hx2) (And.intro (HB.out.2.1.keep hx2) (HB.out.2.2.trans hx2)))
  clear hx2 HB z0 z1 HSig
  obtain ⟨sg, hsg⟩ : ∃ sg, signedB p y = sg := ⟨_, rfl⟩
  rw [hsg] at HQ ⊢
  clear hsg
  cases sg with
  | false =>
    have HE := Lib.hid (show bound5 p y = none from HQ.out)
    have hbr := HB2.out.2.1
    obtain ⟨d0, d1, d2, d3, d4, d5⟩ := hbr.facts
    have hp := hbr.put (neg := false) (no_int none 0 0) (no_int none 0 0)
    have HR := Lib.hid (And.intro hp.box (HB2.out.2.2.own hp.ext (fun k e => by omega)))
    clear hp hbr
    go_wp2
    generalize ((w2.setCell ⟨rb, 0, none⟩ (.bool false)).setCell ⟨rb, 1, none⟩ (.slice none 0 0)).setCell ⟨rb, 2, none⟩ (.slice none 0 0) = w9 at *
    obtain ⟨g0, g1, g2, _⟩ := HR.out.1.facts
    exact bodyPost_ret (v := .tuple #[.agg #[.bool false, .slice none 0 0, .slice none 0 0], .bool false]) (by simp [results, Tryz.results144, go_sem, g0, g1, g2]) rfl (by rw [HE.out]; exact ⟨HR.out.2, _, rfl, IsRat.zero _⟩)
  | true =>
  replace HQ := Lib.hid (show bound5 p y = lq.map (combB p y + ·) from HQ.out)
  have z0 := cellq HB2.out.1 0 rfl
  have z1 := cellq HB2.out.1 1 rfl
  go_wp2_with fail
  refine (HCom.out _ HB2.out.2.2).mono ?_
  rintro r5 w5 ⟨B, cv, rfl, hBw, hA5, hb5, hx5⟩
  obtain ⟨cn, ca, cl, cc, ca2, cl2, cc2, rfl⟩ := hb5.shape
  clear z0 z1
  have hrbB : rb < B := by have := HB2.out.2.1.lt; omega
  have hBB := hA5.lt
  have hxa := (Ext.refl (fun _ => False) w5).alloc (.cells #[.bool cn, .slice ca cl cc, .slice ca2 cl2 cc2] 31)
  have hxb := hxa.alloc (.cells #[] 31)
  have hb52 := blk_keep HB2.out.1 (hx5.trans hxb)
  have hbox := (boxR_new (W := w5) rfl cn ca cl cc ca2 cl2 cc2).alloc (.cells #[] 31)
  have HC := Lib.hid (show CmSt w ((w5.alloc (.cells #[.bool cn, .slice ca cl cc, .slice ca2 cl2 cc2] 31)).alloc (.cells #[] 31)) pb rb w5.heap.size B n (.slice vo n vc) (.slice ro m rc) (combA p y) (combB p y) from
    ⟨(HB2.out.2.2.trans hx5).trans hxb, cellq hb52 0 rfl, cellq hb52 1 rfl, (HB2.out.2.1.keep hx5).keep hxb, ⟨_, _, _, _, _, _, _, hbox, hb5.keep hxb⟩, hA5.keep hxb, by omega⟩)
  have hbe := blk_alloc_at (w5.alloc (.cells #[.bool cn, .slice ca cl cc, .slice ca2 cl2 cc2] 31)) (.cells #[] 31)
  rw [World.size_alloc] at hbe
  have HE := Lib.hid (ROwn.empty (base := w5.heap.size + 1) szd hbe (Nat.le_refl _))
  clear hxa hxb hb52 hbox hA5 hb5 hx5 HB2 hbe
  go_upto_region 5 with fail
  generalize (w5.alloc (.cells #[.bool cn, .slice ca cl cc, .slice ca2 cl2 cc2] 31)).alloc (.cells #[] 31) = w6 at *
  generalize w5.heap.size = bb at *
  have z0 := HC.out.p0
  go_wp2_with fail
  go_loopg [9, 8] n (fun gg v9 v8 wr => ∃ (i : Nat) (v : Value), i ≤ n ∧ gg = n - i ∧ v9 = .int .i64 i ∧ v8 = v ∧ ROwn wr (bb + 1) v (listTo i f) szd ∧ CmSt w wr pb rb bb B n (.slice vo n vc) (.slice ro m rc) (combA p y) (combB p y))
  case atStart => exact ⟨0, _, Nat.zero_le _, rfl, rfl, rfl, HE.out, HC.out⟩
  case round =>
    clear z0 HE HC
    obtain ⟨i, v, hi, rfl, rfl, rfl, ho, hst⟩ := hrel
    have HCm := Lib.hid hst
    obtain ⟨ao, cap, rfl⟩ := ho.shape
    have hll : (listTo i f).length = i := listTo_length _ _
    rw [hll] at ho ⊢
    have HLl := Lib.hid hll
    have HO := Lib.hid ho
    clear hst ho hll
    have z0 := HCm.out.p0
    by_cases hin : i < n
    · have i0 : (i : Int) < (n : Int) := by omega
      have i1 : (0 : Int) ≤ (i : Int) := by omega
      obtain ⟨b, off, rfl, hblt, -, -, -, -, e4, hok⟩ := HV.out.atp i (by rw [HNn.out]; exact hin)
      obtain ⟨on, oa, ol, oc, oa2, ol2, oc2, o0, o1, o2, hoq⟩ := HCm.out.arr.cells i hin
      replace e4 := cell_keep e4 HCm.out.ext
      have HF := Lib.hid (fun W => Rrfrom_any W (p.v i).co hok.co.1 hok.co.2)
      have HSub := Lib.hid (fun W u (hW : Ext (fun _ => False) wr W) (hu : IsRat W u ((p.v i).co : Rat)) => HSs.out W u i hin _ hu (hoq.keep hW))
      rw [HFi.out] at HSub
      have HSz := Lib.hid (HDz.out i hin)
      have ord := HCm.out.ord
      have hgl : ∀ g, (Value.slice ao i cap).ownBlock = some g → bb < g := fun g e => by have := (HO.out.lt g e).1; omega
      have HGl := Lib.hid hgl
      have hle : ∀ k, k ≤ bb → ¬ (fun k => (Value.slice ao i cap).ownBlock = some k) k := fun k hk e => by have := hgl k e; omega
      go_upto_region 8 with fail
      replace e4 := cqo (S := fun k => (Value.slice ao i cap).ownBlock = some k) e4 (hle b (by omega))
      replace o0 := cqo (S := fun k => (Value.slice ao i cap).ownBlock = some k) o0 (hle B (by omega))
      replace o1 := cqo (S := fun k => (Value.slice ao i cap).ownBlock = some k) o1 (hle B (by omega))
      replace o2 := cqo (S := fun k => (Value.slice ao i cap).ownBlock = some k) o2 (hle B (by omega))
      replace z0 := cqo (S := fun k => (Value.slice ao i cap).ownBlock = some k) z0 (hle pb (by omega))
      clear hgl hle hok hoq HSs
      generalize ((p.v i).co : Rat) = coq at *
      generalize (p.v i).co = co at *
      refine wp_region_held_drew (S := (Ext (fun k => (Value.slice ao i cap).ownBlock = some k) wr)) (by kernel_rfl) ((Ext.refl _ wr).drew) (fun hHeld => ?_)
      refine ht 0 (h := (ht 1 (h := (ht 2 (h := (ht 3 (h := (ht 4 (h := (ht 5 (h := (ht 6 (h := (ht 8 (h := (ht 9 (h := (ht 10 (h := (ht 11 (h := ?_)))))))))))))))))))))
      (try simp only [Act.put, List.setIfInBounds_toArray, List.set_cons_zero, List.set_cons_succ])
      refine hst 7 (h := fun K hK => ?_)
      (go_simp; go_at_call 32; (with_reducible refine (HF.out _).mono ?_); rintro q1 w11 ⟨v11, rfl, h11, hx11⟩; have hX1 := (Ext.refl (fun _ => False) wr).drew.trans hx11; have hT := HSub.out w11 _ hX1 h11; obtain ⟨n11, a11, l11, c11, a11', l11', c11', rfl⟩ := h11.shape)
      refine hK.out _ _ (hX1.none) (fun hHeld => ?_)
      clear hK K
      (try simp only [Act.put, List.setIfInBounds_toArray, List.set_cons_zero, List.set_cons_succ])
      refine hst 12 (h := fun K hK => ?_)
      (go_simp; go_at_call 70; (with_reducible refine hT.mono ?_); rintro q2 w12 ⟨v12, rfl, h12, hx12⟩; have hX2 := hX1.trans hx12; obtain ⟨n12, a12, l12, c12, a12', l12', c12', rfl⟩ := h12.shape; have hXa := hX2.alloc (.cells #[.bool n12, .slice a12 l12 c12, .slice a12' l12' c12'] 31); have hha := (Ext.refl (fun _ => False) w12).alloc (.cells #[.bool n12, .slice a12 l12 c12, .slice a12' l12' c12'] 31); have HO2 := Lib.hid (And.intro (HO.out.keep hXa) (And.intro ((h12.keep hha).reads HSz.out) (HCm.out.keep hXa))); have HSw := Lib.hid (show bb + 1 ≤ (w12.alloc (.cells #[.bool n12, .slice a12 l12 c12, .slice a12' l12' c12'] 31)).heap.size from (by obtain ⟨_, _, _, _, _, _, _, hh, _⟩ := HO2.out.2.2.acc; exact hh.lt)))
      refine hK.out _ _ (hX2.none) (fun hHeld => ?_)
      clear hK K
      (try simp only [Act.put, List.setIfInBounds_toArray, List.set_cons_zero, List.set_cons_succ])
      refine hst 13 (h := fun K hK => ?_)
      go_simp
      refine hK.out _ _ (hXa.none) (fun hHeld => ?_)
      clear hK K
      (try simp only [Act.put, List.setIfInBounds_toArray, List.set_cons_zero, List.set_cons_succ])
      refine hst 14 (h := fun K hK => ?_)
      refine step_append_rat rfl (.tmp 31) (.tmp 44) rfl (bb + 1) _ _ szd rfl HO2.out.1 ⟨n12, a12, l12, c12, a12', l12', c12'⟩ (f i) HO2.out.2.1 ⟨w12.heap.size, 0, none⟩ 1 rfl (cells_new (RatC.cells ⟨n12, a12, l12, c12, a12', l12', c12'⟩) _ rfl) (by rw [HLl.out]; omega) HSw.out (fun v15 w15 hown5 hx5 hrd5 => ?_)
      refine hK.out _ _ (hXa.none.trans hx5) (fun hHeld => ?_)
      clear hK K
      (try simp only [Act.put, List.setIfInBounds_toArray, List.set_cons_zero, List.set_cons_succ])
      refine ht 15 (h := ?_)
      (try simp only [Act.put, List.setIfInBounds_toArray, List.set_cons_zero, List.set_cons_succ])
      refine wpAnyH_done (by kernel_rfl) ?_ _
      have HN5 := Lib.hid (show ROwn w15 (bb + 1) v15 (listTo (i + 1) f) szd from by rw [listTo_succ]; exact hown5)
      have HC5 := Lib.hid (HO2.out.2.2.past hx5 (fun k e => HGl.out k e) hrd5)
      clear hown5 hx5 hrd5 hX1 hX2 hXa hha h11 h12 hx11 hx12 hT HSub HF HO2 HSw z0 e4 o0 o1 o2 hHeld
      go_wp2
      go_roundg (n - (i + 1))
      case measure => omega
      case rel => exact ⟨i + 1, _, by omega, rfl, by go_num, rfl, HN5.out, HC5.out⟩
    · obtain rfl : i = n := by omega
      have z1 := HCm.out.p1
      have ord := HCm.out.ord
      go_wp2_with fail
      refine (HLa.out _ HCm.out.ext _ (by have := HO.out.rats; exact this)).mono ?_
      rintro r7 w7 hopt
      obtain ⟨n7, a7, l7, c7, a7', l7', c7', rfl, h7, hx7⟩ := OptPost.open hopt
      have hx8 := (Ext.refl (fun _ => False) w7).alloc (.cells #[.bool n7, .slice a7 l7 c7, .slice a7' l7' c7'] 31)
      have HC8 := Lib.hid (And.intro ((HCm.out.keep hx7).keep hx8) (And.intro (boxR_new (W := w7) rfl n7 a7 l7 c7 a7' l7' c7') (h7.keep hx8)))
      clear hopt h7 hx7 hx8 z0 z1
      go_upto_region 10 with fail
      generalize w7.alloc (.cells #[.bool n7, .slice a7 l7 c7, .slice a7' l7' c7'] 31) = w8 at *
      generalize w7.heap.size = xb at *
      cases lq with
      | none =>
        have HE := Lib.hid (show bound5 p y = none from HQ.out)
        have hbr := HC8.out.1.res
        obtain ⟨d0, d1, d2, d3, d4, d5⟩ := hbr.facts
        have hp := hbr.put (neg := false) (no_int none 0 0) (no_int none 0 0)
        have HR := Lib.hid (And.intro hp.box (HC8.out.1.ext.own hp.ext (fun k e => by omega)))
        clear hp hbr
        go_wp2
        generalize ((w8.setCell ⟨rb, 0, none⟩ (.bool false)).setCell ⟨rb, 1, none⟩ (.slice none 0 0)).setCell ⟨rb, 2, none⟩ (.slice none 0 0) = w9 at *
        obtain ⟨g0, g1, g2, _⟩ := HR.out.1.facts
        exact bodyPost_ret (v := .tuple #[.agg #[.bool false, .slice none 0 0, .slice none 0 0], .bool false]) (by simp [results, Tryz.results144, go_sem, g0, g1, g2]) rfl (by rw [HE.out]; exact ⟨HR.out.2, _, rfl, IsRat.zero _⟩)
      | some q =>
        have HE := Lib.hid (show bound5 p y = some (combB p y + q) from HQ.out)
        obtain ⟨sn, s1, sm1, sc1, s2, sm2, sc2, hsb, hsq⟩ := HC8.out.1.acc
        obtain ⟨t0, t1, t2, -⟩ := hsb.facts
        obtain ⟨x0, x1, x2, -⟩ := HC8.out.2.1.facts
        have HA9 := Lib.hid (HAd.out w8 _ _ q hsq HC8.out.2.2 (HLz.out q rfl))
        clear hsb hsq
        go_wp2_with fail
        refine HA9.out.mono ?_
        rintro r9 w9 ⟨v9, rfl, h9, hx9⟩
        obtain ⟨n9, a9, l9, c9, a9', l9', c9', rfl⟩ := h9.shape
        have hbr := HC8.out.1.res.keep hx9
        obtain ⟨d0, d1, d2, d3, d4, d5⟩ := hbr.facts
        have hp := hbr.put (neg := n9) (no_int a9 l9 c9) (no_int a9' l9' c9')
        have HR := Lib.hid (And.intro (hp.rat h9) (And.intro ((HC8.out.1.ext.trans hx9).own hp.ext (fun k e => by omega)) hp.box))
        clear hp hbr h9 hx9 t0 t1 t2 x0 x1 x2 HA9
        go_wp2
        generalize ((w9.setCell ⟨rb, 0, none⟩ (.bool n9)).setCell ⟨rb, 1, none⟩ (.slice a9 l9 c9)).setCell ⟨rb, 2, none⟩ (.slice a9' l9' c9') = w10 at *
        obtain ⟨g0, g1, g2, _⟩ := HR.out.2.2.facts
        exact bodyPost_ret (v := .tuple #[.agg #[.bool n9, .slice a9 l9 c9, .slice a9' l9' c9'], .bool true]) (by simp [results, Tryz.results144, go_sem, g0, g1, g2]) rfl (by rw [HE.out]; exact ⟨HR.out.2.1, _, rfl, HR.out.1⟩)
def feas5 (p : ProgV) (x : List Rat) : Bool := insideB p x && decide (violQ p x = [])
theorem feas5_eq {p : ProgV} (h : validB p = true) (x : List Rat) : feasB p x = feas5 p x := by
  unfold feasB feas5
  rw [h, Bool.true_and]
theorem Room.more {n m T L : Nat} (h : Room n m T L) : 1 + T * (L + 3) + (L + 3) ≤ 1000000 ∧ m ≤ 1000000 ∧ 1 + n * (L + 3) + (L + 3) ≤ 1000000 := by
  have h1 := h.sum
  have h2 : 7 ≤ (n + 1) * (m * (T * (L + 3) + 2) + 7) := Nat.le_trans (Nat.le_add_left 7 _) (Nat.le_mul_of_pos_left _ (by omega))
  have h3 : m ≤ m * (L + 3) := Nat.le_mul_of_pos_right m (by omega)
  omega
set_option maxRecDepth 100000 in
set_option maxHeartbeats 8000000 in
theorem IsFeasible5_any (w : World) (pv xv : Value) (p : ProgV) (x : List Rat) (L T : Nat) (hp : IsPrg w pv p) (hx : Rats w xv x L) (hs : Small p T L) :
    Calls Tryz.prog 48 #[pv, xv] w (BoolPost w (feas5 p x)) := by
  have h1 := hs.room.one
  obtain ⟨r1, r2, r3, r4, r5, r6, r7, r8, r9⟩ := hs.room.all
  obtain ⟨r10, r11, r12⟩ := hs.room.more
  have HI := Lib.hid (fun W (hW : Ext (fun _ => False) w W) => Inside4_any W _ _ p x L (hp.keep hW) (hx.keep hW) h1 r8)
  have HVi := Lib.hid (fun W (hW : Ext (fun _ => False) w W) => Violated4_any W _ _ p x L T (hp.keep hW) (hx.keep hW) h1 hs.terms r10 r3 r11)
  obtain ⟨vv, rv, rfl, -, -⟩ := hp
  have HQ := Lib.hid (show feas5 p x = (insideB p x && decide (violQ p x = [])) from rfl)
  clear hx hs r1 r2 r3 r4 r5 r6 r7 r8 r9 r10 r11 r12
  generalize violQ p x = vl at *
  generalize insideB p x = ib at *
  have HB := Lib.hid (And.intro (blk_alloc_at w (.cells #[vv, rv] 25)) ((Ext.refl (fun _ => False) w).alloc (.cells #[vv, rv] 25)))
  go_enter Tryz.func48, Tryz.ntmps48
  go_upto_region 1 with fail
  generalize w.alloc (.cells #[vv, rv] 25) = w1 at *
  generalize w.heap.size = pb at *
  have z0 := cellq HB.out.1 0 rfl
  have z1 := cellq HB.out.1 1 rfl
  go_wp2_with fail
  refine (HI.out _ HB.out.2).mono ?_
  rintro r2 w2 ⟨rfl, hx2⟩
  have HX2 := Lib.hid (HB.out.2.trans hx2)
  replace z0 := cell_keep z0 hx2
  replace z1 := cell_keep z1 hx2
  clear hx2 HI
  cases ib with
  | false =>
    go_wp2
    go_ret
    exact ⟨ret_bool (by rw [HQ.out]; rfl), HX2.out⟩
  | true =>
    go_wp2_with fail
    refine (HVi.out _ HX2.out).mono ?_
    rintro r3 w3 ⟨v3, rfl, ho3, hx3⟩
    obtain ⟨ao, cap, rfl⟩ := ho3.shape
    have HX3 := Lib.hid (HX2.out.trans hx3)
    obtain ⟨ln, hln⟩ : ∃ ln, vl.length = ln := ⟨_, rfl⟩
    have HL := Lib.hid hln
    rw [hln]
    clear hx3 ho3 hln HVi
    by_cases h0 : ln = 0
    · subst h0
      have HE := Lib.hid (List.eq_nil_of_length_eq_zero HL.out)
      go_wp2
      go_ret
      exact ⟨ret_bool (by rw [HQ.out, HE.out]; simp), HX3.out⟩
    · have HE := Lib.hid (show vl ≠ [] from fun e => h0 (by rw [← HL.out, e]; rfl))
      have h0' : ((ln : Int) == 0) = false := by simpa using h0
      have h0'' : ¬ (ln : Int) = 0 := by omega
      go_wp2
      go_ret
      exact ⟨ret_bool (by rw [HQ.out, decide_eq_false HE.out]; rfl), HX3.out⟩
/-- what the loop of Infeasible keeps -/
structure InSt (w wr : World) (pb bb B n : Nat) (va vb : Value) (f : Nat → Rat) (q : Rat) : Prop where
  ext : Ext (fun _ => False) w wr
  p0 : wr.cell? ⟨pb, 0, none⟩ = some va
  p1 : wr.cell? ⟨pb, 1, none⟩ = some vb
  acc : ∃ sn s1 sm1 sc1 s2 sm2 sc2, BoxR wr bb sn (.slice s1 sm1 sc1) (.slice s2 sm2 sc2) ∧ IsRat wr (.agg #[.bool sn, .slice s1 sm1 sc1, .slice s2 sm2 sc2]) q
  arr : RArr wr B n f
  ord : w.heap.size ≤ pb ∧ pb < B ∧ B < bb
section
variable {w wr w' : World} {pb bb B n : Nat} {va vb : Value} {f g : Nat → Rat} {q : Rat}
theorem InSt.keep (h : InSt w wr pb bb B n va vb f q) (hx : Ext (fun _ => False) wr w') : InSt w w' pb bb B n va vb f q :=
  ⟨h.ext.trans hx, cell_keep h.p0 hx, cell_keep h.p1 hx, (by obtain ⟨sn, s1, sm1, sc1, s2, sm2, sc2, h1, h2⟩ := h.acc; exact ⟨sn, s1, sm1, sc1, s2, sm2, sc2, h1.keep hx, h2.keep hx⟩), h.arr.keep hx, h.ord⟩
theorem InSt.congr (h : InSt w wr pb bb B n va vb f q) (hg : ∀ i, i < n → f i = g i) : InSt w wr pb bb B n va vb g q :=
  ⟨h.ext, h.p0, h.p1, h.acc, h.arr.congr hg, h.ord⟩
theorem InSt.setArr (h : InSt w wr pb bb B n va vb f q) {j : Nat} (hj : j < n) {neg : Bool} {a1 a2 : Option Addr} {m1 c1 m2 c2 : Nat} {u : Rat} (hu : IsRat wr (.agg #[.bool neg, .slice a1 m1 c1, .slice a2 m2 c2]) u) :
    InSt w (((wr.setCell ⟨B, j * 3, none⟩ (.bool neg)).setCell ⟨B, j * 3 + 1, none⟩ (.slice a1 m1 c1)).setCell ⟨B, j * 3 + 2, none⟩ (.slice a2 m2 c2)) pb bb B n va vb (fun k => if k = j then u else f k) q := by
  obtain ⟨p1, p2, p3⟩ := h.arr.put hj hu
  obtain ⟨o1, o2, o3⟩ := h.ord
  refine ⟨h.ext.own p2 (fun k e => by omega), (p2.cell (p := ⟨pb, 0, none⟩) (World.block_lt_of_cell? _ _ h.p0) (fun e => by have : pb = B := e; omega)).trans h.p0, (p2.cell (p := ⟨pb, 1, none⟩) (World.block_lt_of_cell? _ _ h.p1) (fun e => by have : pb = B := e; omega)).trans h.p1, ?_, p1, h.ord⟩
  obtain ⟨sn, s1, sm1, sc1, s2, sm2, sc2, h1, h2⟩ := h.acc
  exact ⟨sn, s1, sm1, sc1, s2, sm2, sc2, h1.ext p2 (fun e => by omega), h2.past p3⟩
end
def inf5 (p : ProgV) (y : List Rat) : Bool := signedB p y && (emptyB p || match leastQ p (listTo p.vars.length fun i => -combA p y i) with | some l => decide (0 < combB p y + l) | none => false)
theorem inf5_eq {p : ProgV} (h : validB p = true) (y : List Rat) : infB p y = inf5 p y := by
  unfold infB inf5
  rw [h, Bool.true_and]
  congr 2
  cases leastQ p (listTo p.vars.length fun i => -combA p y i) with
  | none => rfl
  | some l => exact decide_eq_decide.2 (by constructor <;> intro h <;> grind)
set_option maxRecDepth 100000 in
set_option maxHeartbeats 8000000 in
theorem Infeasible5_any (w : World) (pv yv : Value) (p : ProgV) (y : List Rat) (L T : Nat) (hp : IsPrg w pv p) (hy : Rats w yv y L) (hs : Small p T L) :
    Calls Tryz.prog 92 #[pv, yv] w (BoolPost w (inf5 p y)) := by
  have h1 := hs.room.one
  obtain ⟨r1, r2, r3, r4, r5, r6, r7, r8, r9⟩ := hs.room.all
  have HP := Lib.hid hp
  obtain ⟨vv, rv, rfl, hv, hr⟩ := hp
  obtain ⟨vo, vc, rfl, -, hn, -⟩ := hv.shape
  obtain ⟨ro, rc, rfl, -, hrn, -⟩ := hr.shape
  have HSig := Lib.hid (fun W (hW : Ext (fun _ => False) w W) => Signed4_any W _ _ p y L (HP.out.keep hW) (hy.keep hW) h1 (by omega))
  have HEm := Lib.hid (fun W (hW : Ext (fun _ => False) w W) => Empty4_any W _ p (HP.out.keep hW))
  have HCom := Lib.hid (fun W (hW : Ext (fun _ => False) w W) => Combine4_any W _ _ p y L T (HP.out.keep hW) (hy.keep hW) h1 hs.terms r1 r2 r8 r3)
  have hyz := hy.sz h1
  have hA := combA_sz hr hyz hs.terms
  have hB := combB_sz hr hyz
  have hD : ∀ i, i < p.vars.length → Sz (-combA p y i) (sizeA p.rows.length T L + 3) := fun i hi => (hA i).neg.mono (by omega)
  have HLa := Lib.hid (fun W (hW : Ext (fun _ => False) w W) B (ha : RArr W B p.vars.length (fun i => -combA p y i)) =>
    Least4_any W _ _ p (listTo p.vars.length fun i => -combA p y i) (sizeA p.rows.length T L + 3) (HP.out.keep hW) (ha.rats hD (Nat.le_refl _) (by unfold maxLen; omega)) (by omega) (by omega) (by omega))
  have hlz := leastS_sz (c := listTo p.vars.length fun i => -combA p y i) hv (atQ_listTo_sz hD (by omega))
  have HAd := Lib.hid (fun W u u' q (hu : IsRat W u (combB p y)) (hu' : IsRat W u' q) (hq : Sz q (1 + p.vars.length * (sizeA p.rows.length T L + 3 + 3))) => Rradd_any W u u' _ q (1 + p.vars.length * (sizeA p.rows.length T L + 3 + 3) + (1 + p.rows.length * (L + 3))) (hu.reads (hB.mono (by omega))) (hu'.reads (hq.mono (by omega))) (by omega) (by omega))
  have HSg := Lib.hid (fun W u q (hu : IsRat W u (combB p y + q)) (hq : Sz q (1 + p.vars.length * (sizeA p.rows.length T L + 3 + 3))) => Rrsign_any W u _ 4000000 (hu.reads ((hB.add hq).mono (by omega))) (by omega))
  have HNg := Lib.hid (fun W u i (hu : IsRat W u (combA p y i)) => Rrneg_any W u _ (sizeA p.rows.length T L + 3) (hu.reads ((hA i).mono (by omega))) (by omega) (by omega))
  have HQ := Lib.hid (show inf5 p y = (signedB p y && (emptyB p || match leastQ p (listTo p.vars.length fun i => -combA p y i) with | some l => decide (0 < combB p y + l) | none => false)) from rfl)
  have HLz : Hid (∀ q, leastQ p (listTo p.vars.length fun i => -combA p y i) = some q → Sz q (1 + p.vars.length * (sizeA p.rows.length T L + 3 + 3))) := Lib.hid (fun q hq => by
    obtain ⟨_, _, e⟩ := least_some hq
    rw [e]; exact hlz)
  clear hv hr hy hyz hA hB hD hlz HP hs r1 r2 r4 r5 r6 r7 r8 r9 h1
  obtain ⟨n, hn'⟩ : ∃ n, p.vars.length = n := ⟨_, rfl⟩
  rw [hn'] at hn r3 HSig HEm HCom HLa HAd HSg HQ HLz ⊢
  clear hn'
  obtain ⟨m, hm'⟩ : ∃ m, p.rows.length = m := ⟨_, rfl⟩
  rw [hm'] at hrn HSig HEm HCom HAd HSg HLz HLa ⊢
  clear hm'
  generalize (1 + n * (sizeA m T L + 3 + 3)) = szl at *
  generalize leastQ p (listTo n fun i => -combA p y i) = lq at *
  generalize combB p y = cb at *
  have HB := Lib.hid (And.intro (blk_alloc_at w (.cells #[.slice vo n vc, .slice ro m rc] 25)) ((Ext.refl (fun _ => False) w).alloc (.cells #[.slice vo n vc, .slice ro m rc] 25)))
  go_enter Tryz.func92, Tryz.ntmps92
  go_upto_region 1 with fail
  generalize w.alloc (.cells #[.slice vo n vc, .slice ro m rc] 25) = w1 at *
  obtain ⟨pb, hpb⟩ : ∃ pb, w.heap.size = pb := ⟨_, rfl⟩
  have hpw : w.heap.size ≤ pb := Nat.le_of_eq hpb
  rw [hpb] at HB ⊢
  clear hpb
  have z0 := cellq HB.out.1 0 rfl
  have z1 := cellq HB.out.1 1 rfl
  go_wp2_with fail
  refine (HSig.out w1 HB.out.2).mono ?_
  rintro r2 w2 ⟨rfl, hx2⟩
  have HB2 := Lib.hid (And.intro (blk_keep HB.out.1 hx2) (HB.out.2.trans hx2))
  clear hx2 HB z0 z1 HSig
  generalize signedB p y = sg at *
  cases sg with
  | false =>
    go_wp2
    go_ret
    exact ⟨ret_bool (by rw [HQ.out]; rfl), HB2.out.2⟩
  | true =>
  have z0 := cellq HB2.out.1 0 rfl
  have z1 := cellq HB2.out.1 1 rfl
  go_wp2_with fail
  refine (HEm.out _ HB2.out.2).mono ?_
  rintro r3 w3 ⟨rfl, hx3⟩
  have HB3 := Lib.hid (And.intro (blk_keep HB2.out.1 hx3) (HB2.out.2.trans hx3))
  clear hx3 HB2 z0 z1 HEm
  generalize emptyB p = eb at *
  cases eb with
  | true =>
    go_wp2
    go_ret
    exact ⟨ret_bool (by rw [HQ.out]; rfl), HB3.out.2⟩
  | false =>
  have z0 := cellq HB3.out.1 0 rfl
  have z1 := cellq HB3.out.1 1 rfl
  go_wp2_with fail
  refine (HCom.out _ HB3.out.2).mono ?_
  rintro r5 w5 ⟨B, cv, rfl, hBw, hA5, hb5, hx5⟩
  obtain ⟨cn, ca, cl, cc, ca2, cl2, cc2, rfl⟩ := hb5.shape
  clear z0 z1
  have hpB : pb < B := by have := blk_lt HB3.out.1; omega
  have hBB := hA5.lt
  have hxa := (Ext.refl (fun _ => False) w5).alloc (.cells #[.bool cn, .slice ca cl cc, .slice ca2 cl2 cc2] 31)
  have hb52 := blk_keep HB3.out.1 (hx5.trans hxa)
  have HC := Lib.hid (show InSt w (w5.alloc (.cells #[.bool cn, .slice ca cl cc, .slice ca2 cl2 cc2] 31)) pb w5.heap.size B n (.slice vo n vc) (.slice ro m rc) (combA p y) cb from
    ⟨(HB3.out.2.trans hx5).trans hxa, cellq hb52 0 rfl, cellq hb52 1 rfl, ⟨_, _, _, _, _, _, _, boxR_new (W := w5) rfl cn ca cl cc ca2 cl2 cc2, hb5.keep hxa⟩, hA5.keep hxa, by omega⟩)
  clear hxa hb52 hA5 hb5 hx5 HB3
  go_upto_region 6 with fail
  generalize w5.alloc (.cells #[.bool cn, .slice ca cl cc, .slice ca2 cl2 cc2] 31) = w6 at *
  generalize w5.heap.size = bb at *
  go_wp2_with fail
  go_loopg [7] n (fun gg v7 wr => ∃ i : Nat, i ≤ n ∧ gg = n - i ∧ v7 = .int .i64 i ∧ InSt w wr pb bb B n (.slice vo n vc) (.slice ro m rc) (fun k => if k < i then -combA p y k else combA p y k) cb)
  case atStart => exact ⟨0, Nat.zero_le _, rfl, rfl, HC.out.congr (fun k _ => (if_neg (Nat.not_lt_zero k)).symm)⟩
  case round =>
    clear HC
    obtain ⟨i, hi, rfl, rfl, hst⟩ := hrel
    have HCm := Lib.hid hst
    clear hst
    by_cases hin : i < n
    · have i0 : (i : Int) < (n : Int) := by omega
      have i1 : (0 : Int) ≤ (i : Int) := by omega
      obtain ⟨on, oa, ol, oc, oa2, ol2, oc2, o0, o1, o2, hoq⟩ := HCm.out.arr.cells i hin
      rw [if_neg (Nat.lt_irrefl i)] at hoq
      have HN1 := Lib.hid (HNg.out _ _ i hoq)
      have HI := Lib.hid hin
      clear hoq hin
      go_wp2_with fail
      refine HN1.out.mono ?_
      rintro r7 w7 ⟨v7, rfl, h7, hx7⟩
      obtain ⟨n7, a7, l7, c7, a7', l7', c7', rfl⟩ := h7.shape
      have HC7 := Lib.hid (HCm.out.keep hx7)
      replace o0 := cell_keep o0 hx7
      replace o1 := cell_keep o1 hx7
      replace o2 := cell_keep o2 hx7
      have f0 := HC7.out.arr.free (i * 3)
      have f1 := HC7.out.arr.free (i * 3 + 1)
      have f2 := HC7.out.arr.free (i * 3 + 2)
      have HP := Lib.hid ((HC7.out.setArr HI.out h7).congr (g := fun k => if k < i + 1 then -combA p y k else combA p y k) (fun k hk => by
        show (if k = i then -combA p y i else if k < i then -combA p y k else combA p y k) = _
        by_cases e : k = i
        · rw [if_pos e, if_pos (by omega), e]
        · rw [if_neg e]
          by_cases e2 : k < i
          · rw [if_pos e2, if_pos (by omega)]
          · rw [if_neg e2, if_neg (by omega)]))
      have hin := HI.out
      clear h7 hx7 HC7 HCm HN1
      go_upto_region 8 with fail
      clear o0 o1 o2 f0 f1 f2
      generalize ((w7.setCell ⟨B, i * 3, none⟩ (.bool n7)).setCell ⟨B, i * 3 + 1, none⟩ (.slice a7 l7 c7)).setCell ⟨B, i * 3 + 2, none⟩ (.slice a7' l7' c7') = w9 at *
      go_wp2
      go_roundg (n - (i + 1))
      case measure => omega
      case rel => exact ⟨i + 1, by omega, rfl, by go_num, HP.out⟩
    · obtain rfl : i = n := by omega
      have z0 := HCm.out.p0
      have z1 := HCm.out.p1
      have HArr := Lib.hid (HCm.out.arr.congr (g := fun k => -combA p y k) (fun k hk => if_pos hk))
      go_wp2_with fail
      refine (HLa.out _ HCm.out.ext B HArr.out).mono ?_
      rintro r7 w7 hopt
      obtain ⟨n7, a7, l7, c7, a7', l7', c7', rfl, h7, hx7⟩ := OptPost.open hopt
      have hx8 := (Ext.refl (fun _ => False) w7).alloc (.cells #[.bool n7, .slice a7 l7 c7, .slice a7' l7' c7'] 31)
      have HC8 := Lib.hid (And.intro ((HCm.out.keep hx7).keep hx8) (And.intro (boxR_new (W := w7) rfl n7 a7 l7 c7 a7' l7' c7') (h7.keep hx8)))
      clear hopt h7 hx7 hx8 z0 z1 HArr
      go_upto_region 11 with fail
      generalize w7.alloc (.cells #[.bool n7, .slice a7 l7 c7, .slice a7' l7' c7'] 31) = w8 at *
      generalize w7.heap.size = xb at *
      cases lq with
      | none =>
        go_wp2
        go_ret
        exact ⟨ret_bool (by rw [HQ.out]; rfl), HC8.out.1.ext⟩
      | some q =>
        obtain ⟨sn, s1, sm1, sc1, s2, sm2, sc2, hsb, hsq⟩ := HC8.out.1.acc
        obtain ⟨t0, t1, t2, -⟩ := hsb.facts
        obtain ⟨x0, x1, x2, -⟩ := HC8.out.2.1.facts
        have HA9 := Lib.hid (HAd.out w8 _ _ q hsq HC8.out.2.2 (HLz.out q rfl))
        have HQ2 := Lib.hid (show inf5 p y = decide (0 < cb + q) from HQ.out)
        clear hsb hsq
        go_wp2_with fail
        refine HA9.out.mono ?_
        rintro r9 w9 ⟨v9, rfl, h9, hx9⟩
        have HS9 := Lib.hid (HSg.out w9 _ _ h9 (HLz.out q rfl))
        have HX9 := Lib.hid (HC8.out.1.ext.trans hx9)
        obtain ⟨n9, a9, l9, c9, a9', l9', c9', rfl⟩ := h9.shape
        clear h9 hx9 HA9
        go_wp2_with fail
        refine HS9.out.mono ?_
        rintro r10 w10 ⟨rfl, hx10⟩
        have HX10 := Lib.hid (HX9.out.trans hx10)
        have HG := Lib.hid (sign_gt (cb + q))
        clear hx10 HS9
        generalize (cb + q).num.sign = sg at *
        by_cases hs : 0 < sg
        · have HE := Lib.hid (decide_eq_true (HG.out.1 hs))
          go_wp2
          go_ret
          exact ⟨ret_bool (by rw [HQ2.out, HE.out]), HX10.out⟩
        · have HE := Lib.hid (And.intro (decide_eq_false (fun h => hs (HG.out.2 h))) (decide_eq_false hs))
          go_wp2
          go_ret
          exact ⟨ret_bool (by rw [HQ2.out, HE.out.1]; exact HE.out.2), HX10.out⟩
end Go.Proofs.YtbgienfcmdgaaaaGreat
/-
  Package exodusref05: Optimal, Unbounded. Conditions: the arguments read as programs, lists of fractions, sizes bounded.
-/
namespace Go.Proofs.YtbgienfcmdgaaaaGreat
open Go.RowKit Go.MapKept
open Go.ChangeMaps (setBlock)

theorem bound5_sz {p : ProgV} {y : List Rat} {w : World} {vv rv : Value} {L T : Nat} (hv : Vrs w vv p.vars) (hr : Rws w rv p.rows) (hyz : ∀ i : Int, Sz (atQ y i) L) (hs : Small p T L) {b : Rat} (hb : bound5 p y = some b) : Sz b 4000000 := by
  obtain ⟨r1, r2, r3, r4, r5, r6, r7, r8, r9⟩ := hs.room.all
  have hA := combA_sz hr hyz hs.terms
  have hB := combB_sz hr hyz
  have hD : ∀ i, i < p.vars.length → Sz (((p.v i).co : Rat) - combA p y i) (sizeA p.rows.length T L + 3) := fun i hi => ((Sz.int (hv.ok i hi).co).sub (hA i)).mono (by omega)
  have hlz := leastS_sz (c := listTo p.vars.length fun i => ((p.v i).co : Rat) - combA p y i) hv (atQ_listTo_sz hD (by omega))
  unfold bound5 at hb
  split at hb
  · obtain ⟨q, hq, rfl⟩ := Option.map_eq_some_iff.1 hb
    obtain ⟨_, _, e⟩ := least_some hq
    rw [e]
    exact (hB.add hlz).mono (by omega)
  · cases hb
def opt5 (p : ProgV) (x y : List Rat) : Bool := match bound5 p y with | some b => feas5 p x && decide ((b - costQ p x).num.sign = 0) | none => false
theorem opt5_eq {p : ProgV} (h : validB p = true) (x y : List Rat) : optB p x y = opt5 p x y := by
  unfold optB opt5
  rw [feas5_eq h, bound5_eq h]
  cases bound5 p y with
  | none => simp
  | some b =>
    show _ = (feas5 p x && decide ((b - costQ p x).num.sign = 0))
    congr 1
    refine decide_eq_decide.2 ?_
    rw [sign_zero, Option.some.injEq]
    constructor <;> intro h <;> grind
set_option maxRecDepth 100000 in
set_option maxHeartbeats 8000000 in
theorem Optimal5_any (w : World) (pv xv yv : Value) (p : ProgV) (x y : List Rat) (L T : Nat) (hp : IsPrg w pv p) (hx : Rats w xv x L) (hy : Rats w yv y L) (hs : Small p T L) :
    Calls Tryz.prog 91 #[pv, xv, yv] w (BoolPost w (opt5 p x y)) := by
  have h1 := hs.room.one
  obtain ⟨r10, r11, r12⟩ := hs.room.more
  have r7 := hs.room.all.2.2.2.2.2.2.1
  have HBo := Lib.hid (fun W (hW : Ext (fun _ => False) w W) => Bound5_any W _ _ p y L T (hp.keep hW) (hy.keep hW) hs)
  have HIs := Lib.hid (fun W (hW : Ext (fun _ => False) w W) => IsFeasible5_any W _ _ p x L T (hp.keep hW) (hx.keep hW) hs)
  have HCo := Lib.hid (fun W (hW : Ext (fun _ => False) w W) => Cost4_any W _ _ p x L (hp.keep hW) (hx.keep hW) h1 r12)
  obtain ⟨vv, rv, rfl, hv, hr⟩ := hp
  have hcz := costQ_sz hv (hx.sz h1)
  have HCm := Lib.hid (fun W u u' b (hb : bound5 p y = some b) (hu : IsRat W u b) (hu' : IsRat W u' (costQ p x)) => Rrcmp_any W u u' _ _ 4000000 (hu.reads (bound5_sz hv hr (hy.sz h1) hs hb)) (hu'.reads (hcz.mono (by omega))) (by omega) (by omega))
  have HQ := Lib.hid (show opt5 p x y = match bound5 p y with | some b => feas5 p x && decide ((b - costQ p x).num.sign = 0) | none => false from rfl)
  clear hx hy hv hr hs hcz r7 r10 r11 r12 h1
  generalize bound5 p y = bo at *
  generalize feas5 p x = fe at *
  have HB := Lib.hid (And.intro (blk_alloc_at w (.cells #[vv, rv] 25)) ((Ext.refl (fun _ => False) w).alloc (.cells #[vv, rv] 25)))
  go_enter Tryz.func91, Tryz.ntmps91
  go_upto_region 1 with fail
  generalize w.alloc (.cells #[vv, rv] 25) = w1 at *
  generalize w.heap.size = pb at *
  have z0 := cellq HB.out.1 0 rfl
  have z1 := cellq HB.out.1 1 rfl
  go_wp2_with fail
  refine (HBo.out _ HB.out.2).mono ?_
  rintro r7 w7 hopt
  obtain ⟨n7, a7, l7, c7, a7', l7', c7', rfl, h7, hx7⟩ := OptPost.open hopt
  have hx8 := (Ext.refl (fun _ => False) w7).alloc (.cells #[.bool n7, .slice a7 l7 c7, .slice a7' l7' c7'] 31)
  have hq8 := h7.keep hx8
  have hb8 := boxR_new (W := w7) rfl n7 a7 l7 c7 a7' l7' c7'
  have HX8 := Lib.hid ((HB.out.2.trans hx7).trans hx8)
  replace z0 := cell_keep z0 (hx7.trans hx8)
  replace z1 := cell_keep z1 (hx7.trans hx8)
  have Z := Lib.hid (And.intro z0 z1)
  clear z0 z1 hopt h7 hx7 hx8 HBo
  go_upto_region 2 with fail
  generalize w7.alloc (.cells #[.bool n7, .slice a7 l7 c7, .slice a7' l7' c7'] 31) = w8 at *
  generalize w7.heap.size = xb at *
  obtain ⟨t0, t1, t2, -⟩ := hb8.facts
  replace t0 := cq t0
  replace t1 := cq t1
  replace t2 := cq t2
  have z0 := cq Z.out.1
  have z1 := cq Z.out.2
  clear hb8
  cases bo with
  | none =>
    refine wp_region_held_drew (S := (Ext (fun _ => False) w8)) (by kernel_rfl) ((Ext.refl _ w8).drew) (fun hHeld => ?_)
    refine ht 0 (h := (ht 1 (h := ?_)))
    (try simp only [Act.put, List.setIfInBounds_toArray, List.set_cons_zero, List.set_cons_succ])
    refine hk 2 (h := ?_)
    (try simp only [Act.put, List.setIfInBounds_toArray, List.set_cons_zero, List.set_cons_succ])
    refine hk 3 (h := ?_)
    (try simp only [Act.put, List.setIfInBounds_toArray, List.set_cons_zero, List.set_cons_succ])
    refine hk 4 (h := (ht 5 (h := (ht 6 (h := ?_)))))
    (try simp only [Act.put, List.setIfInBounds_toArray, List.set_cons_zero, List.set_cons_succ])
    refine hk 7 (h := ?_)
    (try simp only [Act.put, List.setIfInBounds_toArray, List.set_cons_zero, List.set_cons_succ])
    refine hk 8 (h := ?_)
    (try simp only [Act.put, List.setIfInBounds_toArray, List.set_cons_zero, List.set_cons_succ])
    refine hk 9 (h := ?_)
    (try simp only [Act.put, List.setIfInBounds_toArray, List.set_cons_zero, List.set_cons_succ])
    refine hk 10 (h := ?_)
    (try simp only [Act.put, List.setIfInBounds_toArray, List.set_cons_zero, List.set_cons_succ])
    refine hk 11 (h := ?_)
    (try simp only [Act.put, List.setIfInBounds_toArray, List.set_cons_zero, List.set_cons_succ])
    refine hk 12 (h := (ht 13 (h := (ht 14 (h := ?_)))))
    (try simp only [Act.put, List.setIfInBounds_toArray, List.set_cons_zero, List.set_cons_succ])
    refine wpAnyH_done (by kernel_rfl) ?_ _
    have HXr := Lib.hid (HX8.out.trans hHeld)
    clear z0 z1 t0 t1 t2 hHeld
    go_wp2
    go_ret
    exact ⟨ret_bool (by rw [HQ.out]), HXr.out⟩
  | some b =>
    replace HCm := Lib.hid (fun W u u' hu hu' => HCm.out W u u' b rfl hu hu')
    replace HQ : Hid (opt5 p x y = (fe && decide ((b - costQ p x).num.sign = 0))) := Lib.hid HQ.out
    replace hq8 : IsRat w8 _ b := hq8
    generalize (b - costQ p x).num.sign = sg at *
    cases fe with
    | false =>
      refine wp_region_held_drew (S := (Ext (fun _ => False) w8)) (by kernel_rfl) ((Ext.refl _ w8).drew) (fun hHeld => ?_)
      refine ht 0 (h := (ht 1 (h := ?_)))
      (try simp only [Act.put, List.setIfInBounds_toArray, List.set_cons_zero, List.set_cons_succ])
      refine ht 2 (h := ?_)
      (try simp only [Act.put, List.setIfInBounds_toArray, List.set_cons_zero, List.set_cons_succ])
      refine ht 3 (h := ?_)
      (try simp only [Act.put, List.setIfInBounds_toArray, List.set_cons_zero, List.set_cons_succ])
      refine hst 4 (h := fun K hK => ?_)
      (go_simp; go_at_call 48; (with_reducible refine (HIs.out _ (HX8.out.trans hHeld)).mono ?_); rintro q1 w11 ⟨rfl, hx11⟩; have hX1 := hHeld.trans hx11)
      refine hK.out _ _ (hX1) (fun hHeld => ?_)
      clear hK K
      (try simp only [Act.put, List.setIfInBounds_toArray, List.set_cons_zero, List.set_cons_succ])
      refine ht 5 (h := (ht 6 (h := ?_)))
      (try simp only [Act.put, List.setIfInBounds_toArray, List.set_cons_zero, List.set_cons_succ])
      refine hk 7 (h := ?_)
      (try simp only [Act.put, List.setIfInBounds_toArray, List.set_cons_zero, List.set_cons_succ])
      refine hk 8 (h := ?_)
      (try simp only [Act.put, List.setIfInBounds_toArray, List.set_cons_zero, List.set_cons_succ])
      refine hk 9 (h := ?_)
      (try simp only [Act.put, List.setIfInBounds_toArray, List.set_cons_zero, List.set_cons_succ])
      refine hk 10 (h := ?_)
      (try simp only [Act.put, List.setIfInBounds_toArray, List.set_cons_zero, List.set_cons_succ])
      refine hk 11 (h := ?_)
      (try simp only [Act.put, List.setIfInBounds_toArray, List.set_cons_zero, List.set_cons_succ])
      refine hk 12 (h := (ht 13 (h := (ht 14 (h := ?_)))))
      (try simp only [Act.put, List.setIfInBounds_toArray, List.set_cons_zero, List.set_cons_succ])
      refine wpAnyH_done (by kernel_rfl) ?_ _
      have HXr := Lib.hid (HX8.out.trans hX1)
      clear z0 z1 t0 t1 t2 hHeld hX1 hx11
      go_wp2
      go_ret
      exact ⟨ret_bool (by rw [HQ.out]; rfl), HXr.out⟩
    | true =>
      refine wp_region_held_drew (S := (Ext (fun _ => False) w8)) (by kernel_rfl) ((Ext.refl _ w8).drew) (fun hHeld => ?_)
      refine ht 0 (h := (ht 1 (h := ?_)))
      (try simp only [Act.put, List.setIfInBounds_toArray, List.set_cons_zero, List.set_cons_succ])
      refine ht 2 (h := ?_)
      (try simp only [Act.put, List.setIfInBounds_toArray, List.set_cons_zero, List.set_cons_succ])
      refine ht 3 (h := ?_)
      (try simp only [Act.put, List.setIfInBounds_toArray, List.set_cons_zero, List.set_cons_succ])
      refine hst 4 (h := fun K hK => ?_)
      (go_simp; go_at_call 48; (with_reducible refine (HIs.out _ (HX8.out.trans hHeld)).mono ?_); rintro q1 w11 ⟨rfl, hx11⟩; have hX1 := hHeld.trans hx11)
      refine hK.out _ _ (hX1) (fun hHeld => ?_)
      clear hK K
      (try simp only [Act.put, List.setIfInBounds_toArray, List.set_cons_zero, List.set_cons_succ])
      refine ht 5 (h := (ht 6 (h := ?_)))
      (try simp only [Act.put, List.setIfInBounds_toArray, List.set_cons_zero, List.set_cons_succ])
      refine ht 7 (h := ?_)
      (try simp only [Act.put, List.setIfInBounds_toArray, List.set_cons_zero, List.set_cons_succ])
      refine ht 8 (h := ?_)
      (try simp only [Act.put, List.setIfInBounds_toArray, List.set_cons_zero, List.set_cons_succ])
      refine ht 9 (h := ?_)
      (try simp only [Act.put, List.setIfInBounds_toArray, List.set_cons_zero, List.set_cons_succ])
      refine hst 10 (h := fun K hK => ?_)
      (go_simp; go_at_call 26; (with_reducible refine (HCo.out _ (HX8.out.trans hX1)).mono ?_); rintro q2 w12 ⟨v12, rfl, h12, hx12⟩; have hX2 := hX1.trans hx12; have hC := HCm.out w12 _ _ (hq8.keep hX2) h12; obtain ⟨n12, a12, l12, c12, a12', l12', c12', rfl⟩ := h12.shape)
      refine hK.out _ _ (hX2) (fun hHeld => ?_)
      clear hK K
      (try simp only [Act.put, List.setIfInBounds_toArray, List.set_cons_zero, List.set_cons_succ])
      refine hst 11 (h := fun K hK => ?_)
      (go_simp; go_at_call 25; (with_reducible refine hC.mono ?_); rintro q3 w13 ⟨rfl, hx13⟩; have hX3 := hX2.trans hx13)
      refine hK.out _ _ (hX3) (fun hHeld => ?_)
      clear hK K
      (try simp only [Act.put, List.setIfInBounds_toArray, List.set_cons_zero, List.set_cons_succ])
      refine ht 12 (h := (ht 13 (h := (ht 14 (h := ?_)))))
      (try simp only [Act.put, List.setIfInBounds_toArray, List.set_cons_zero, List.set_cons_succ])
      refine wpAnyH_done (by kernel_rfl) ?_ _
      have HXr := Lib.hid (HX8.out.trans hX3)
      clear z0 z1 t0 t1 t2 hHeld hX1 hX2 hX3 hx11 hx12 hx13 h12 hC hq8
      by_cases h0 : sg = 0
      · subst h0
        go_wp2
        go_ret
        exact ⟨ret_bool (by rw [HQ.out]; rfl), HXr.out⟩
      · have h0' : (sg == 0) = false := by simpa using h0
        have HE := Lib.hid (decide_eq_false h0)
        go_wp2
        go_ret
        exact ⟨ret_bool (by rw [HQ.out, HE.out]; simpa using h0), HXr.out⟩
def unb5 (p : ProgV) (x z : List Rat) : Bool := feas5 p x && decide (costQ p z < 0) && allTo p.vars.length (rayI p z) && allTo p.rows.length (zeroI p z)
theorem unb5_eq {p : ProgV} (h : validB p = true) (x z : List Rat) : unbB p x z = unb5 p x z := by
  rw [show unbB p x z = (feasB p x && decide (costQ p z < 0) && allTo p.vars.length (rayI p z) && allTo p.rows.length (zeroI p z)) from rfl, feas5_eq h]
  rfl
set_option maxRecDepth 100000 in
set_option maxHeartbeats 8000000 in
theorem Unbounded5_any (w : World) (pv xv zv : Value) (p : ProgV) (x z : List Rat) (L T : Nat) (hp : IsPrg w pv p) (hx : Rats w xv x L) (hz : Rats w zv z L) (hs : Small p T L) :
    Calls Tryz.prog 93 #[pv, xv, zv] w (BoolPost w (unb5 p x z)) := by
  have h1 := hs.room.one
  obtain ⟨r10, r11, r12⟩ := hs.room.more
  obtain ⟨r1, r2, r3, r4, r5, r6, r7, r8, r9⟩ := hs.room.all
  have HP := Lib.hid hp
  have HIs := Lib.hid (fun W (hW : Ext (fun _ => False) w W) => IsFeasible5_any W _ _ p x L T (hp.keep hW) (hx.keep hW) hs)
  have HCo := Lib.hid (fun W (hW : Ext (fun _ => False) w W) => Cost4_any W _ _ p z L (hp.keep hW) (hz.keep hW) h1 r12)
  obtain ⟨vv, rv, rfl, hv, hr⟩ := hp
  obtain ⟨vo, vc, rfl, -, hvn, -⟩ := hv.shape
  obtain ⟨ro, rc, rfl, -, hrn, -⟩ := hr.shape
  have hcz := costQ_sz hv (hz.sz h1)
  have HSg := Lib.hid (fun W u (hu : IsRat W u (costQ p z)) => Rrsign_any W u _ 4000000 (hu.reads (hcz.mono (by omega))) (by omega))
  have HAt := Lib.hid (fun W (hW : Ext (fun _ => False) w W) (i : Nat) => At_any W _ z L (hz.keep hW) i)
  have HG := Lib.hid (fun W u q (hu : Rrat W u q L) => Rrsign_any W u q L hu (by omega))
  have HHo := Lib.hid (fun W (hW : Ext (fun _ => False) w W) i (hi : i < p.rows.length) ta tc (hok : RowOk (p.r i)) (htm : Tms w (.slice ta (p.r i).terms.length tc) (p.r i).terms) => Holds_any W _ _ p { p.r i with bound := 0 } z L T ta tc (HP.out.keep hW) ⟨hok.name, hok.group, hok.kind, (show InR 0 from ⟨by decide, by decide⟩)⟩ (htm.keep hW) (hz.keep hW) h1 (hs.terms i hi) r10 r3)
  have HQ := Lib.hid (show unb5 p x z = (feas5 p x && decide (costQ p z < 0) && allTo p.vars.length (rayI p z) && allTo p.rows.length (zeroI p z)) from rfl)
  have HV := Lib.hid (And.intro hv hr)
  clear hx hz hv hr hs hcz r1 r2 r3 r4 r5 r6 r7 r8 r9 r10 r11 r12 h1
  obtain ⟨n, hn'⟩ : ∃ n, p.vars.length = n := ⟨_, rfl⟩
  obtain ⟨m, hm'⟩ : ∃ m, p.rows.length = m := ⟨_, rfl⟩
  have HN := Lib.hid (And.intro hn' hm')
  rw [hn'] at hvn HV HIs HCo HQ HP HHo ⊢
  rw [hm'] at hrn HV HIs HCo HQ HP HHo ⊢
  clear hn' hm'
  have hcs : decide (costQ p z < 0) = decide ((costQ p z).num.sign < 0) := decide_eq_decide.2 (sign_lt _).symm
  rw [hcs] at HQ
  clear hcs
  generalize feas5 p x = fe at *
  generalize (costQ p z).num.sign = cs at *
  have HB := Lib.hid (And.intro (blk_alloc_at w (.cells #[.slice vo n vc, .slice ro m rc] 25)) ((Ext.refl (fun _ => False) w).alloc (.cells #[.slice vo n vc, .slice ro m rc] 25)))
  go_enter Tryz.func93, Tryz.ntmps93
  go_upto_region 1 with fail
  generalize w.alloc (.cells #[.slice vo n vc, .slice ro m rc] 25) = w1 at *
  obtain ⟨pb, hpb⟩ : ∃ pb, w.heap.size = pb := ⟨_, rfl⟩
  have hpw : w.heap.size ≤ pb := Nat.le_of_eq hpb
  rw [hpb] at HB ⊢
  clear hpb
  have z0 := cellq HB.out.1 0 rfl
  have z1 := cellq HB.out.1 1 rfl
  go_wp2_with fail
  refine (HIs.out _ HB.out.2).mono ?_
  rintro r2 w2 ⟨rfl, hx2⟩
  have HB2 := Lib.hid (And.intro (blk_keep HB.out.1 hx2) (HB.out.2.trans hx2))
  clear hx2 HB z0 z1 HIs
  cases fe with
  | false =>
    go_wp2
    go_ret
    exact ⟨ret_bool (by rw [HQ.out]; rfl), HB2.out.2⟩
  | true =>
  have z0 := cellq HB2.out.1 0 rfl
  have z1 := cellq HB2.out.1 1 rfl
  go_wp2_with fail
  refine (HCo.out _ HB2.out.2).mono ?_
  rintro r3 w3 ⟨v3, rfl, h3, hx3⟩
  have HS3 := Lib.hid (HSg.out w3 _ h3)
  obtain ⟨n3, a3, l3, c3, a3', l3', c3', rfl⟩ := h3.shape
  have HB3 := Lib.hid (And.intro (blk_keep HB2.out.1 hx3) (HB2.out.2.trans hx3))
  clear hx3 HB2 z0 z1 HCo h3
  go_wp2_with fail
  refine HS3.out.mono ?_
  rintro r4 w4 ⟨rfl, hx4⟩
  have HB4 := Lib.hid (And.intro (blk_keep HB3.out.1 hx4) (HB3.out.2.trans hx4))
  clear hx4 HB3 HS3
  by_cases hc : 0 ≤ cs
  · have HE := Lib.hid (decide_eq_false (p := cs < 0) (by omega))
    go_wp2
    go_ret
    exact ⟨ret_bool (by rw [HQ.out, HE.out]; rfl), HB4.out.2⟩
  replace HQ : Hid (unb5 p x z = (allTo n (rayI p z) && allTo m (zeroI p z))) := Lib.hid (by rw [HQ.out, decide_eq_true (p := cs < 0) (by omega)]; simp)
  have z0 := cellq HB4.out.1 0 rfl
  go_wp2_with fail
  go_loopg [7, 8] n (fun gg v7 v8 wr => ∃ i : Nat, i ≤ n ∧ gg = n - i ∧ v7 = .int .i64 i ∧ allTo i (rayI p z) = true ∧ blk wr pb = some (.cells #[.slice vo n vc, .slice ro m rc] 25 (0, 0)) ∧ Ext (fun _ => False) w wr)
  case atStart => exact ⟨0, Nat.zero_le _, rfl, rfl, rfl, HB4.out⟩
  case round =>
    clear z0
    obtain ⟨i, hi, rfl, rfl, hall, hbx⟩ := hrel
    have HX := Lib.hid (And.intro hall hbx)
    clear hall hbx HB4
    have z0 := cellq HX.out.2.1 0 rfl
    by_cases hin : i < n
    · have i0 : (i : Int) < (n : Int) := by omega
      have i1 : (0 : Int) ≤ (i : Int) := by omega
      obtain ⟨b, off, rfl, -, -, -, e2, -, -, -⟩ := HV.out.1.atp i (by rw [HN.out.1]; exact hin)
      have E2 := Lib.hid e2
      clear e2
      have HR := Lib.hid (rayI_sign p z i)
      generalize (p.v i).op = o at *
      go_wp2_with fail
      refine (HAt.out _ HX.out.2.2 i).mono ?_
      rintro r5 w5 ⟨v5, rfl, h5, hx5⟩
      obtain ⟨n5, a5, l5, c5, a5', l5', c5', rfl⟩ := h5.shape
      have HG5 := Lib.hid (HG.out w5 _ _ h5)
      have HX5 := Lib.hid hx5
      clear h5 hx5 z0
      go_wp2_with fail
      refine HG5.out.mono ?_
      rintro r6 w6 ⟨rfl, hx6⟩
      have HX6 := Lib.hid (And.intro (blk_keep HX.out.2.1 (HX5.out.trans hx6)) (HX.out.2.2.trans (HX5.out.trans hx6)))
      have e2 := cell_keep E2.out HX6.out.2
      have z0 := cellq HX6.out.1 0 rfl
      clear hx6 HX5 HG5 E2
      generalize (atQ z i).num.sign = sg at *
      by_cases hs1 : sg < 0
      · have HE := Lib.hid (show rayI p z i = false from by rw [HR.out, decide_eq_true hs1]; rfl)
        go_wp2
        go_ret
        exact ⟨ret_bool (by rw [HQ.out, allTo_false (i := i) hin HE.out]; rfl), HX6.out.2⟩
      by_cases hs2 : 0 < sg
      · cases o with
        | false =>
          have HE := Lib.hid (show rayI p z i = false from by rw [HR.out, decide_eq_true hs2]; simp)
          go_wp2
          go_ret
          exact ⟨ret_bool (by rw [HQ.out, allTo_false (i := i) hin HE.out]; rfl), HX6.out.2⟩
        | true =>
          have HE := Lib.hid (show rayI p z i = true from by rw [HR.out, decide_eq_false hs1]; simp)
          go_wp2
          go_roundg (n - (i + 1))
          case measure => omega
          case rel => exact ⟨i + 1, by omega, rfl, by go_num, allTo_next HX.out.1 HE.out, HX6.out⟩
      · have HE := Lib.hid (show rayI p z i = true from by rw [HR.out, decide_eq_false hs1, decide_eq_false hs2]; simp)
        go_wp2
        go_roundg (n - (i + 1))
        case measure => omega
        case rel => exact ⟨i + 1, by omega, rfl, by go_num, allTo_next HX.out.1 HE.out, HX6.out⟩
    · obtain rfl : n = i := by omega
      replace HQ : Hid (unb5 p x z = allTo m (zeroI p z)) := Lib.hid (by rw [HQ.out, HX.out.1]; rfl)
      have z1 := cellq HX.out.2.1 1 rfl
      have HX2 := Lib.hid HX.out.2
      clear hin hi HX
      go_wp2_with fail
      go_loopg [9, 10] m (fun gg v9 v10 wr => ∃ i : Nat, i ≤ m ∧ gg = m - i ∧ v9 = .int .i64 i ∧ allTo i (zeroI p z) = true ∧ blk wr pb = some (.cells #[.slice vo n vc, .slice ro m rc] 25 (0, 0)) ∧ Ext (fun _ => False) w wr)
      case atStart => exact ⟨0, Nat.zero_le _, rfl, rfl, rfl, HX2.out⟩
      case round =>
        clear z0 z1 HX2
        obtain ⟨i, hi, rfl, rfl, hall, hbx⟩ := hrel
        have HX := Lib.hid (And.intro hall hbx)
        clear hall hbx
        have z0 := cellq HX.out.2.1 0 rfl
        have z1 := cellq HX.out.2.1 1 rfl
        by_cases hin : i < m
        · have i0 : (i : Int) < (m : Int) := by omega
          have i1 : (0 : Int) ≤ (i : Int) := by omega
          obtain ⟨b, off, ta, tc, rfl, -, e0, e1, e2, e3, e4, hrok, htm⟩ := HV.out.2.atp i (by rw [HN.out.2]; exact hin)
          replace e0 := cell_keep e0 HX.out.2.2
          replace e1 := cell_keep e1 HX.out.2.2
          replace e2 := cell_keep e2 HX.out.2.2
          replace e3 := cell_keep e3 HX.out.2.2
          replace e4 := cell_keep e4 HX.out.2.2
          have HH := Lib.hid (fun W (hW : Ext (fun _ => False) w W) => HHo.out W hW i hin ta tc hrok htm)
          have HZ := Lib.hid (show holdsB { p.r i with bound := 0 } (clipQ p z) = zeroI p z i from rfl)
          rw [HZ.out] at HH
          clear hrok htm HZ
          obtain ⟨zi, hzi⟩ : ∃ zi, zeroI p z i = zi := ⟨_, rfl⟩
          have HZi := Lib.hid hzi
          rw [hzi] at HH
          clear hzi
          generalize (p.r i).terms.length = tl at *
          generalize (p.r i).name = nm at *
          generalize (p.r i).group = gr at *
          generalize (p.r i).kind = k at *
          generalize (p.r i).bound = bd at *
          have hb3 := blk_alloc_at wr (.cells #[.string nm, .int .i64 gr, .int .i64 k, .slice ta tl tc, .int .i64 bd] 58)
          have hx3 := (Ext.refl (fun _ => False) wr).alloc (.cells #[.string nm, .int .i64 gr, .int .i64 k, .slice ta tl tc, .int .i64 bd] 58)
          have HB3 := Lib.hid (And.intro hb3 (And.intro (blk_keep HX.out.2.1 hx3) (And.intro (HX.out.2.2.trans hx3) (show pb < wr.heap.size ∧ w.heap.size ≤ wr.heap.size from ⟨blk_lt HX.out.2.1, HX.out.2.2.size⟩))))
          clear hb3 hx3
          go_upto_region 13 with fail
          generalize wr.alloc (.cells #[.string nm, .int .i64 gr, .int .i64 k, .slice ta tl tc, .int .i64 bd] 58) = w3 at *
          generalize wr.heap.size = rx at *
          clear e0 e1 e2 e3 e4 z0 z1
          have hxs := (Ext.refl (fun i => i = rx) w3).setCell (p := ⟨rx, 4, none⟩) (.int .i64 0) (fun _ => rfl)
          have HB4 := Lib.hid (And.intro (blk_setCell_same HB3.out.1 4 (.int .i64 0)) (And.intro ((hxs.blk (blk_lt HB3.out.2.1) (fun e => by have := HB3.out.2.2.2.1; omega)).trans HB3.out.2.1) (HB3.out.2.2.1.own hxs (fun k e => by have := HB3.out.2.2.2.2; omega))))
          have e4 := cellq HB3.out.1 4 rfl
          have f4 := free_of_cells HB3.out.1 4
          clear hxs
          go_upto_region 14 with fail
          clear e4 f4 HB3
          generalize w3.setCell ⟨rx, 4, none⟩ (.int .i64 0) = w4 at *
          have z0 := cellq HB4.out.2.1 0 rfl
          have z1 := cellq HB4.out.2.1 1 rfl
          have e0 := cellq HB4.out.1 0 rfl
          have e1 := cellq HB4.out.1 1 rfl
          have e2 := cellq HB4.out.1 2 rfl
          have e3 := cellq HB4.out.1 3 rfl
          have e4 := cellq HB4.out.1 4 rfl
          go_wp2_with fail
          refine (HH.out _ HB4.out.2.2).mono ?_
          rintro r5 w5 ⟨rfl, hx5⟩
          have HX5 := Lib.hid (And.intro (blk_keep HB4.out.2.1 hx5) (HB4.out.2.2.trans hx5))
          clear hx5 HB4 HH z0 z1 e0 e1 e2 e3 e4
          cases zi with
          | true =>
            go_wp2
            go_roundg (m - (i + 1))
            case measure => omega
            case rel => exact ⟨i + 1, by omega, rfl, by go_num, allTo_next HX.out.1 HZi.out, HX5.out⟩
          | false =>
            go_wp2
            go_ret
            exact ⟨ret_bool (by rw [HQ.out, allTo_false (i := i) hin HZi.out]), HX5.out.2⟩
        · obtain rfl : i = m := by omega
          go_wp2
          go_ret
          exact ⟨ret_bool (by rw [HQ.out, HX.out.1]), HX.out.2.2⟩
end Go.Proofs.YtbgienfcmdgaaaaGreat
