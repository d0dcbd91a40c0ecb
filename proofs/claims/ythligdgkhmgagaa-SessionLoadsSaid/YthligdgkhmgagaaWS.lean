/-
  The reference of package wire: Text, Int append the same encodings, in new memory. Conditions: the slice reads as bytes; lengths bounded.
-/
import Derived.Test.YthligdgkhmgagaaWR
namespace Go.Proofs.Ythligdgkhmgagaa
open Go.RowKit Go.MapKept
open Go.ChangeMaps (setBlock)

set_option maxRecDepth 100000 in
set_option maxHeartbeats 1000000 in
theorem rtext_any (w : World) (v : Value) (l : List UInt8) (s : ByteArray) (hb : IsBytes w v l) (hs : s.size ≤ 1073741824) (hl : l.length ≤ 1073741800) :
    Calls Try.prog 63 #[v, .string s] w (FreshPost w (l ++ (encNum s.size ++ s.data.toList))) := by
  have Hb := Lib.hid hb
  clear hb
  go_enter Try.func63, Try.ntmps63
  go_wp2_with fail
  refine (rnumber_any _ _ _ s.size Hb.out (by omega) (by omega)).mono ?_
  rintro r w' ⟨v', rfl, hb', hx, ha⟩
  obtain ⟨g, c, rfl⟩ : ∃ g c, v' = .slice (some ⟨g, 0, none⟩) (l ++ encNum s.size).length c := by
    rcases hb'.2 with ⟨_, h2⟩ | ⟨g, c, cur, h1, _⟩
    · simp [encNum] at h2
    · exact ⟨_, _, h1⟩
  have hle : (l ++ encNum s.size).length ≤ 1073741824 := by
    have := nbytes_le s.size (by omega)
    simp [encNum, beB_length]; omega
  obtain ⟨N, hN⟩ : ∃ N, (l ++ encNum s.size).length = N := ⟨_, rfl⟩
  rw [hN] at hb' hle ha ⊢
  have HN := Lib.hid hN
  have Hb' := Lib.hid hb'
  have Hx' := Lib.hid hx
  have Ha' := Lib.hid ha
  clear hN hb' hx ha
  go_wp2_with (at_builtin; refine wpList_append_string rfl _ _ rfl g c N _ HN.out rfl Hb'.out s rfl (by omega) ?_; intro g' cap' w4 hb4 hx4 hg4)
  have HB : Hid (IsBytes w4 (.slice (some ⟨g', 0, none⟩) (N + s.size) cap') (l ++ (encNum s.size ++ s.data.toList))) := Lib.hid (by rw [← List.append_assoc]; exact hb4)
  have HX : Hid (Ext (fun _ => False) w w4) := Lib.hid (Hx'.out.own hx4 (fun k e => by subst e; exact Ha'.out g rfl))
  have HA : Hid (w.heap.size ≤ g') := Lib.hid (by
    have := Hx'.out.size
    rcases hg4 with rfl | rfl
    · exact Ha'.out _ rfl
    · exact this)
  clear hb4 hx4 hg4
  go_ret
  exact ⟨_, rfl, HB.out, HX.out, fun y hy => by have e : g' = y := Option.some.inj hy; subst e; exact HA.out⟩
set_option maxRecDepth 100000 in
set_option maxHeartbeats 1000000 in
theorem rint_any (w : World) (v : Value) (l : List UInt8) (n : Int) (hb : IsBytes w v l) (h1 : -9223372036854775808 ≤ n) (h2 : n ≤ 9223372036854775807) (hl : l.length ≤ 1073741824) :
    Calls Try.prog 64 #[v, .int .i64 n] w (FreshPost w (l ++ encInt n)) := by
  have hz := zz_le n h1 h2
  have hcall := rnumber_any w v l (zz n) hb hz hl
  by_cases hn : 0 ≤ n
  · have e : ((zz n : Nat) : Int) = 2 * n := by unfold zz; rw [if_pos hn]; omega
    have Hcall := Lib.hid hcall
    have He := Lib.hid e
    have hw : IntKind.u64.wrap n = n := IntWalk.u64_in n (by omega)
    have Hw := Lib.hid hw
    clear hcall e hb hz hw
    go_enter Try.func64, Try.ntmps64
    go_wp2_with fail
    rw [He.out] at Hcall
    refine Hcall.out.mono ?_
    rintro r w1 ⟨v', rfl, h⟩
    have H := Lib.hid h
    clear h
    go_wp2
    go_ret
    exact ⟨v', rfl, H.out⟩
  · have e : ((zz n : Nat) : Int) = 2 * (-(n + 1)) + 1 := by unfold zz; rw [if_neg hn]; omega
    have Hcall := Lib.hid hcall
    have He := Lib.hid e
    clear hcall e hb hz
    go_enter Try.func64, Try.ntmps64
    go_wp2_with fail
    rw [He.out] at Hcall
    refine Hcall.out.mono ?_
    rintro r w1 ⟨v', rfl, h⟩
    have H := Lib.hid h
    clear h
    go_wp2
    go_ret
    exact ⟨v', rfl, H.out⟩
end Go.Proofs.Ythligdgkhmgagaa
