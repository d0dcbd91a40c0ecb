/-
  Package names: Names returns the names in increasing order, in memory of its own. Conditions: the registry stands as IsReg says.
-/
import Derived.Test.YtgmopnbejjfbjaaR9
namespace Go.Proofs.Ytgmopnbejjfbjaa
open Go.RowKit Go.MapKept
open Go.ChangeMaps (setBlock)

set_option maxRecDepth 100000 in
set_option maxHeartbeats 4000000 in
theorem names_any (w : World) (rb mb : Nat) (L : List (ByteArray × Slot)) (hR : IsReg w rb mb L) (hlen : L.length ≤ 1000000) :
    Calls Try.prog 25 #[.pointer (some ⟨rb, 0, none⟩)] w (NamesPost w (namesM (regM L))) := by
  have hne := hR.ne
  have ⟨hc, ⟨es, clock, hm, hl, hst⟩, _⟩ := hR
  have hrb := blk_lt hc
  have hmb := blk_lt hm
  have hc0 := cell_of_cells hc 0
  simp at hc0
  have hperm : ∀ ks, (L.map Prod.fst).Perm ks → ks.Perm (namesM (regM L)) := fun ks h => by
    refine h.symm.trans ((namesM_perm (regM L)).trans ?_).symm
    rw [regM, List.map_map]; exact List.Perm.refl _
  have hsort := namesM_sorted (regM L)
  have Hperm := Lib.hid hperm
  have Hsort := Lib.hid hsort
  have Hlen := Lib.hid hlen
  generalize namesM (regM L) = S at *
  obtain ⟨i0, hi, hz0, hz1, hz2⟩ := info_parts Try.infoStr
  have Hst := Lib.hid hst
  have Hl := Lib.hid hl
  have hstart := leftIs_start hl
  have Hstart := Lib.hid hstart
  have Hhm := Lib.hid hm
  clear hR hperm hsort hlen hst hl hstart hc
  go_enter Try.func25, Try.ntmps25
  go_wp2_with (first | (at_range; refine wpList_range_str rfl _ _ rfl Try.underlying94 Hhm.out rfl ?_; intro hI))
  go_frame
  have HI := Lib.hid hI
  have hx1 : Ext (fun _ => False) w (w.alloc (.mapIter (some mb) clock #[] clock)) := (Ext.refl _ w).alloc _
  have Hx1 := Lib.hid hx1
  clear hI hx1 hm hc0
  generalize w.alloc (.mapIter (some mb) clock #[] clock) = w1 at *
  go_loopg [3] L.length (fun g v3 wr => ∃ (ks : List ByteArray) (l : List (ByteArray × Value)) (seen : Array Nat), g = l.length ∧ LeftIs es seen l ∧ Iter wr w.heap.size mb es clock seen ∧ wr.ownsRow 0 9 1 v3 ks.length (ks.map Value.string) ∧ (∀ g, v3.ownBlock = some g → w.heap.size ≤ g) ∧ (L.map Prod.fst).Perm (ks ++ l.map Prod.fst) ∧ Ext (fun _ => False) w wr)
  case atStart => exact ⟨[], L.map fun p => (p.1, p.2.v), #[], by simp, Hstart.out, HI.out, World.ownsRow_nil _ _ _ _, (fun g e => by cases e), by rw [List.map_map]; exact List.Perm.refl _, Hx1.out⟩
  case round =>
    obtain ⟨ks, l, seen, rfl, hleft, hI, hown, hv, hp, hx⟩ := hrel
    obtain ⟨a3, c3, rfl⟩ := ownsRow_shape hown
    have hkl : ks.length + l.length ≤ 1000000 := by
      have := hp.length_eq
      simp at this
      have := Hlen.out
      omega
    have Hleft := Lib.hid hleft
    have Hit := Lib.hid hI
    have Hown := Lib.hid hown
    have Hv := Lib.hid hv
    have Hp := Lib.hid hp
    have Hx := Lib.hid hx
    clear hleft hI hown hv hp hx HI Hx1 Hstart
    go_wp2_with (first | (at_next; refine wpList_next_str rfl _ rfl Hst.out Hleft.out Hit.out rfl ?_ ?_))
    · intro hl0
      subst hl0
      have hsort := fun (W : World) (hW : W = wr) => sortnames_any W (.slice a3 ks.length c3) ks S (by rw [hW]; exact Hown.out) (by omega) (Hperm.out ks (by simpa using Hp.out)) Hsort.out
      have Hs := Lib.hid hsort
      clear hsort
      go_wp2_with fail
      refine (Hs.out wr rfl).mono ?_
      rintro r w5 ⟨rfl, hown5, hx5⟩
      have Hown5 := Lib.hid hown5
      have Hx5 := Lib.hid (Hx.out.trans' hx5 (fun k hk e => absurd hk (by have := Hv.out k e; omega)))
      clear hown5 hx5
      go_wp2
      go_ret
      exact ⟨_, rfl, Hown5.out, Hx5.out, Hv.out⟩
    · intro k v l' seen' w2 hp2 hl2 hI2 hx2 hen
      have hown2 : w2.ownsRow 0 9 1 (.slice a3 ks.length c3) ks.length (ks.map Value.string) := ownsRow_ext Hown.out hx2 (fun g hg e => by
        subst e
        obtain ⟨cur, hcur⟩ := row_type Hown.out hg
        rw [Hit.out.1] at hcur; cases hcur)
      have hx2' : Ext (fun _ => False) w w2 := Hx.out.trans' hx2 (fun k hk e => absurd hk (by show ¬ k < w.heap.size; omega))
      have hpl := hp2.length_eq
      simp only [List.length_cons] at hpl
      have Hown2 := Lib.hid hown2
      have Hx2 := Lib.hid hx2'
      have Hp2 := Lib.hid hp2
      have Hl2 := Lib.hid hl2
      have HI2 := Lib.hid hI2
      have Hpl := Lib.hid hpl
      have hkk : ks.length + 1 ≤ 1000000 := by omega
      clear hown2 hx2' hp2 hl2 hI2 hx2 hpl Hown Hx Hit Hleft
      generalize hK : ks.length = K at *
      have HK := Lib.hid hK
      clear hK
      go_wp2_with (first | (at_builtin; refine wpList_append_any rfl (.tmp 14) (.tmp 16) 69 rfl 0 9 i0 _ 1 16 Try.underlying69 hi hz0 hz1 hz2 rfl (by decide) _ _ _ rfl (Hown2.out.alloc _) _ 1 1 (fun e => (by cases e)) [.string k] rfl rfl (.inr ⟨_, rfl, cells_new [Value.string k] _ rfl⟩) (by simp [Value.oneCell']) (by simp only [maxLen]; omega) (by omega) (Nat.zero_le _) ?_; intro v5 w5 hown5 hgrow5 hat5; have Hown5 := Lib.hid hown5; have Hgrow5 := Lib.hid hgrow5; have Hat5 := Lib.hid hat5; clear hown5 hgrow5 hat5))
      have hx5 : Ext (fun b => (Value.slice a3 K c3).ownBlock = some b) w2 w5 := ((Ext.refl _ w2).alloc _).grown Hgrow5.out (fun k e _ => e)
      have hsz := Hx2.out.size
      have hrI := blk_lt HI2.out.1
      have hmI := blk_lt HI2.out.2
      have hI5 : Iter w5 w.heap.size mb es clock seen' := ⟨(hx5.blk hrI (fun e => (by
        obtain ⟨cur, hcur⟩ := row_type Hown2.out e
        rw [HI2.out.1] at hcur; cases hcur))).trans HI2.out.1, (hx5.blk hmI (fun e => (by
        have := Hv.out _ e; omega))).trans HI2.out.2⟩
      have hv5 : ∀ g, v5.ownBlock = some g → w.heap.size ≤ g := own_step Hat5.out Hv.out (by simp; omega)
      have hxf : Ext (fun _ => False) w w5 := Hx2.out.trans' hx5 (fun k hk e => absurd hk (by have := Hv.out k e; omega))
      have HI5 := Lib.hid hI5
      have Hv5 := Lib.hid hv5
      have Hxf := Lib.hid hxf
      clear hI5 hv5 hxf hx5 hsz hrI hmI
      go_wp2
      go_roundg l'.length
      case measure => have := Hpl.out; omega
      case rel =>
        refine ⟨ks ++ [k], l', seen', rfl, Hl2.out, HI5.out, ?_, Hv5.out, ?_, Hxf.out⟩
        · have := Hown5.out
          rw [List.map_append, List.length_append, HK.out]
          exact this
        · refine Hp.out.trans ?_
          rw [List.append_assoc]
          exact (Hp2.out.map Prod.fst).append_left ks
end Go.Proofs.Ytgmopnbejjfbjaa
