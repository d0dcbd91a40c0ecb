/-
  The reference of package wire: Text, Int append the same encodings, in new memory. Conditions: the slice reads as bytes; lengths bounded.
-/
import Derived.Test.YtgmopnbejjfbjaaWR
namespace Go.Proofs.Ytgmopnbejjfbjaa
open Go.RowKit Go.MapKept
open Go.ChangeMaps (setBlock)

theorem Ext.own {w0 w w' : World} {S : Nat → Prop} (h : Ext (fun _ => False) w0 w) (hx : Ext S w w') (hb : ∀ k, S k → w0.heap.size ≤ k) : Ext (fun _ => False) w0 w' :=
  h.trans' hx (fun k hk e => absurd hk (by have := hb k e; omega))

set_option maxRecDepth 100000 in
set_option maxHeartbeats 1000000 in
theorem rtext_any (w : World) (v : Value) (l : List UInt8) (s : ByteArray) (hb : IsBytes w v l) (hs : s.size ≤ 1073741824) (hl : l.length ≤ 1073741800) :
    Calls Try.prog 74 #[v, .string s] w (FreshPost w (l ++ (encNum s.size ++ s.data.toList))) := by
  have Hb := Lib.hid hb
  clear hb
  go_enter Try.func74, Try.ntmps74
  go_wp2_with fail
  refine (rnumber_any _ _ _ s.size Hb.out (by omega) (by omega)).mono ?_
  rintro r w' ⟨v', rfl, hb', hx, ha⟩
  obtain ⟨g, c, rfl⟩ : ∃ g c, v' = .slice (some ⟨g, 0, none⟩) (l ++ encNum s.size).length c := by
    rcases hb'.2 with ⟨_, h2⟩ | ⟨g, c, cur, h1, _⟩
    · simp [encNum] at h2
    · exact ⟨_, _, h1⟩
  have hle : (l ++ encNum s.size).length ≤ 1073741824 := by
    have := nbytes_le s.size (by omega)
    simp [encNum, beB_length]; omega
  obtain ⟨N, hN⟩ : ∃ N, (l ++ encNum s.size).length = N := ⟨_, rfl⟩
  rw [hN] at hb' hle ha ⊢
  have HN := Lib.hid hN
  have Hb' := Lib.hid hb'
  have Hx' := Lib.hid hx
  have Ha' := Lib.hid ha
  clear hN hb' hx ha
  go_wp2_with (at_builtin; refine wpList_append_string rfl _ _ rfl g c N _ HN.out rfl Hb'.out s rfl (by omega) ?_; intro g' cap' w4 hb4 hx4 hg4)
  have HB : Hid (IsBytes w4 (.slice (some ⟨g', 0, none⟩) (N + s.size) cap') (l ++ (encNum s.size ++ s.data.toList))) := Lib.hid (by rw [← List.append_assoc]; exact hb4)
  have HX : Hid (Ext (fun _ => False) w w4) := Lib.hid (Hx'.out.own hx4 (fun k e => by subst e; exact Ha'.out g rfl))
  have HA : Hid (w.heap.size ≤ g') := Lib.hid (by
    have := Hx'.out.size
    rcases hg4 with rfl | rfl
    · exact Ha'.out _ rfl
    · exact this)
  clear hb4 hx4 hg4
  go_ret
  exact ⟨_, rfl, HB.out, HX.out, fun y hy => by have e : g' = y := Option.some.inj hy; subst e; exact HA.out⟩
end Go.Proofs.Ytgmopnbejjfbjaa
