/-
  NamesSafe: append inside a region that draws, with no element or more. Conditions: the law's own.
-/
import Derived.Test.YtgmopnbejjfbjaaS6
import Derived.Maps.AppendAt
import Derived.Deep.RegionLaw
namespace Go.Proofs.Ytgmopnbejjfbjaa
open Go.RowKit Go.MapKept
theorem step_append_at {P : Program} {w : World} {ops : Array Oper} {o : Oper} {a : Act} {K : Act → World → Prop} {Q : Exit → Act → World → Prop} {E : Prop} (hgd : o.guard = none) (s x : Operand) (t : TypeId)
    (ho : o.op = .call { callee := .builtin .append, args := #[s, x], argTypes := #[t, t] })
    (base : Nat) (e : TypeId) (i : TypeInfo) (z : Value) (size bytes : Nat) (ht : P.underlying t = some (.slice e)) (hi : P.info? e = some i) (hz : i.zero = some z)
    (hsize : i.size = size) (hby : i.bytes = bytes) (hzs : z.cells.size = size) (hsz : 0 < size)
    (v : Value) (n : Nat) (xs : List Value) (hs : a.eval s = v) (hown : w.ownsRow base e size v n xs)
    (ad : Addr) (m c : Nat) (news : List Value) (hx : a.eval x = .slice (some ad) m c) (hl : news.length = m * size) (hnews : ∀ j u, news[j]? = some u → w.cell? (ad.add j) = some u) (h1 : ∀ u ∈ news, u.oneCell' = true)
    (h63 : n + m ≤ maxLen) (hbytes : (n + m) * bytes ≤ 140737488355328) (hbase : base ≤ w.heap.size)
    (h : ∀ v' w', w'.ownsRow base e size v' (n + m) (xs ++ news) → w.grownBy w' v.ownBlock → K (a.put o.dst v') w') :
    if Region.wanted o (yielded ops a.tmps) = true then Oper.wp P o a w K Q else E := by
  have hw : Region.wanted o (yielded ops a.tmps) = true := by simp [Region.wanted, hgd]
  rw [if_pos hw]
  obtain ⟨v', w', hr, h2, h3, h4, h5⟩ := run_append_own_at (P := P) w base t o.type e i z size bytes ht hi hz hsize hby hzs hsz v n xs hown ad m c news hl hnews h1 h63 hbytes hbase
  unfold Oper.wp execOp
  simp only [ho, resolve, invoke, builtin, Sem.run_bind, Sem.run_pure, Result.andThen_ok, List.map_toArray, List.map_cons, List.map_nil, hs, hx, hr]
  exact h v' w' h2 h3
/-- the cells of some of the questions -/
theorem qs_cells {w : World} {g c : Nat} {l : List Qn} (h : w.ownsRow 0 56 7 (.slice (some ⟨g, 0, none⟩) l.length c) l.length (qs l)) (i : Nat) (l' : List Qn) (hl : ∀ k, k < l'.length → ∃ hk : i + k < l.length, l'[k]? = some (l[i + k])) :
    ∀ j u, (qs l')[j]? = some u → w.cell? ((⟨g, i * 7, none⟩ : Addr).add j) = some u := by
  intro j u hu
  have hj : j < (qs l').length := (List.getElem?_eq_some_iff.1 hu).1
  rw [qs_length] at hj
  obtain ⟨hk, he⟩ := hl (j / 7) (by omega)
  have hj7 : j = j / 7 * 7 + j % 7 := by omega
  obtain ⟨hk', he'⟩ := List.getElem?_eq_some_iff.1 he
  rw [hj7, qs_get l' (j / 7) hk' (j % 7) (by omega), he'] at hu
  have := h.cells (g := g) rfl ((i + j / 7) * 7 + j % 7) u (by rw [qs_get l (i + j / 7) hk (j % 7) (by omega)]; exact hu)
  rw [Addr.add_lit] at this ⊢
  rw [show i * 7 + j = 0 + ((i + j / 7) * 7 + j % 7) by omega]
  exact this
theorem qs_one (l : List Qn) : ∀ u ∈ qs l, u.oneCell' = true := by
  intro u hu
  unfold qs at hu
  obtain ⟨y, _, hy⟩ := List.mem_flatMap.1 hu
  simp [Qn.cs] at hy
  rcases hy with rfl | rfl | rfl | rfl | rfl | rfl | rfl <;> rfl
/-- a local of the round is stored into -/
theorem Rep.aside {w0 w1 w w' : World} {B : Bk} {L1 L : List (ByteArray × Slot)} {tag1 tag : Nat → Nat} {pv1 pv : Value} {s1 s : SS} (h1 : Rep w0 w1 B L1 tag1 pv1 s1) {x : Nat} (hx1 : w1.heap.size ≤ x)
    (h : Rep w0 w B L tag pv s) (hfp : ¬ fpR B.rb B.mb L x) (hp : pv.ownBlock ≠ some x) (hx : Ext (fun b => b = x) w w') : Rep w0 w' B L tag pv s := by
  obtain ⟨es1, cl1, hm1, _⟩ := h1.cmb
  have lcm := blk_lt hm1
  have lcs := blk_lt h1.csb
  have lrs := blk_lt h1.rsb
  refine ⟨h.reg.ext hx (fun b hb e => hfp (e ▸ hb)), h.hl, fun k hk => ?_, fun k hk => ?_, (hx.blk (blk_lt h.csb) (by omega)).trans h.csb, (hx.blk (blk_lt h.rsb) (by omega)).trans h.rsb, ?_, ownsRow_ext h.pend hx (fun g hg e => hp (e ▸ hg)), h.t_reg, h.t_clk, h.t_res, h.t_cs, h.t_rs, h.t_cm, h.t_pend, h.ext.trans' hx (fun b hb e => ?_), h.t_old⟩
  · have := blk_lt (h1.clk k hk)
    exact (hx.blk (blk_lt (h.clk k hk)) (by omega)).trans (h.clk k hk)
  · have := (h1.res k hk).lt
    exact (h.res k hk).ext hx (by omega) (by omega)
  · obtain ⟨es, cl, hm, hi⟩ := h.cmb
    exact ⟨es, cl, (hx.blk (blk_lt hm) (by omega)).trans hm, hi⟩
  · have := h1.ext.size
    omega
end Go.Proofs.Ytgmopnbejjfbjaa
