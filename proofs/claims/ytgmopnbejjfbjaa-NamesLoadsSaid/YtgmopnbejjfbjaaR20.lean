/-
  The laws on package names: run. Conditions: the arguments' cells are as given.
-/
import Derived.Test.YtgmopnbejjfbjaaR19
namespace Go.Proofs.Ytgmopnbejjfbjaa
open Go.RowKit Go.MapKept
open Go.ChangeMaps (setBlock)

def InR (x : Int) : Prop := -9223372036854775808 ≤ x ∧ x ≤ 9223372036854775807
def runM (l : List NOp) : List (ByteArray × List Ep) := l.foldl stepM []
def RunPost (w : World) (l : List NOp) (r : Ending) (w' : World) : Prop :=
  ∃ rb mb L v, r = .returned (.tuple #[.pointer (some ⟨rb, 0, none⟩), v, .bool true]) ∧ IsReg w' rb mb L ∧ regM L = runM l ∧ IsRef45 w' v (runM l) ∧ Inv (runM l) l.length ∧ Ext (fun _ => False) w w' ∧ ∀ b, fpR rb mb L b → w.heap.size ≤ b
set_option maxRecDepth 100000 in
set_option maxHeartbeats 4000000 in
theorem run_any (w : World) (ao : Option Addr) (n cap : Nat) (l : List NOp) (hok : ∀ x ∈ l, InR x.a) (hbody : ∀ x ∈ l, x.n.size ≤ 1000) (hl40 : l.length ≤ 40)
    (hn : n = l.length) (hcells : 0 < l.length → ∃ b off, ao = some ⟨b, off, none⟩ ∧ Ops w b off l ∧ b < w.heap.size) :
    Calls Try.prog 24 #[.slice ao n cap] w (RunPost w l) := by
  subst hn
  have Hcells := Lib.hid hcells
  have Hok := Lib.hid hok
  have Hbody := Lib.hid hbody
  clear hcells hok hbody
  go_enter Try.func24, Try.ntmps24
  go_wp2_with fail
  refine (new_any w).mono ?_
  rintro r w2 ⟨rb, mb, rfl, hR2, hx2, h1, h2⟩
  have hfp2 : ∀ b, fpR rb mb ([] : List (ByteArray × Slot)) b → w.heap.size ≤ b := fun b hb => by
    rcases hb with rfl | rfl | ⟨p, hp, _⟩
    · exact h1
    · exact h2
    · cases hp
  have hr3 : IsRef45 (w2.alloc (.cells #[] 122)) (.slice (some ⟨w2.heap.size, 0, none⟩) 0 0) [] := ref_zero _ _ (ownsRow_empty 2 (blk_alloc_at w2 (.cells #[] 122)))
  have hR3 := hR2.ext ((Ext.refl (fun _ => False) w2).alloc (.cells #[] 122)) (fun _ _ h => h)
  have hx3 := hx2.alloc (.cells #[] 122)
  have Hr3 := Lib.hid hr3
  have HR3 := Lib.hid hR3
  have Hx3 := Lib.hid hx3
  have Hfp2 := Lib.hid hfp2
  clear hr3 hR3 hx3 hfp2 hR2 hx2 h1 h2
  go_wp2_with fail
  generalize w2.alloc (.cells #[] 122) = w3 at *
  generalize (Value.slice (some ⟨w2.heap.size, 0, none⟩) 0 0) = v3 at *
  go_loopg [6, 18] l.length (fun g v6 v18 wr => ∃ (j : Nat) (L : List (ByteArray × Slot)), j ≤ l.length ∧ g = l.length - j ∧ v18 = .int .i64 j ∧ IsReg wr rb mb L ∧ regM L = runM (l.take j) ∧ IsRef45 wr v6 (regM L) ∧ Inv (regM L) j ∧ Ext (fun _ => False) w wr ∧ ∀ b, fpR rb mb L b → w.heap.size ≤ b)
  case atStart => exact ⟨0, [], Nat.zero_le _, rfl, rfl, HR3.out, rfl, Hr3.out, Inv.zero, Hx3.out, Hfp2.out⟩
  case round =>
    obtain ⟨j, L, hj, rfl, rfl, hR, hM, hr, hinv, hx, hfp⟩ := hrel
    clear HR3 Hr3 Hx3 Hfp2
    by_cases hjl : j < l.length
    · obtain ⟨b, off, rfl, ho, hb⟩ := Hcells.out (by omega)
      obtain ⟨x, hxe⟩ : ∃ x, l[j] = x := ⟨_, rfl⟩
      have hxm : x ∈ l := by rw [← hxe]; exact List.getElem_mem hjl
      have hlr := (ho.ext hx (fun _ => ⟨hb, id⟩)).at j hjl
      rw [hxe] at hlr
      obtain ⟨c0, c1, c2, c3, c4⟩ := hlr
      have hinv' := hinv.step x
      have hM' : stepM (regM L) x = runM (l.take (j + 1)) := by
        unfold runM
        rw [List.take_add_one, List.getElem?_eq_getElem hjl, hxe, List.foldl_append, hM]; rfl
      have hstep := step_any wr rb mb L u6 hR hr (hinv.small (by omega)) x (by have := Hbody.out x hxm; omega) (Hok.out x hxm).1
      have j0 : (0 : Int) ≤ (j : Int) := by omega
      have j1 : (j : Int) < (l.length : Int) := by omega
      have Hstep := Lib.hid hstep
      have Hinv := Lib.hid hinv'
      have HM := Lib.hid hM'
      have Hx := Lib.hid hx
      have Hfp := Lib.hid hfp
      clear hR hr hinv hinv' hM hM' hx hxe hxm ho hstep hfp
      go_wp2_with fail
      refine Hstep.out.mono ?_
      rintro r w5 ⟨L5, v5, rfl, hR5, hM5, hr5, hx5, hfp5⟩
      have hxw5 : Ext (fun _ => False) w w5 := Hx.out.trans' hx5 (fun k hk e => absurd hk (by have := Hfp.out k e; omega))
      have hfp5' : ∀ b, fpR rb mb L5 b → w.heap.size ≤ b := fun b hb => (hfp5 b hb).elim (Hfp.out b) (fun h => Nat.le_trans Hx.out.size h)
      rw [← hM5] at hr5
      have hinv5 := Hinv.out
      rw [← hM5] at hinv5
      have hsame := same_any w5 rb mb L5 v5 hR5 hr5 (hinv5.small (by omega))
      have HM5 := Lib.hid (hM5.trans HM.out)
      have Hsame := Lib.hid hsame
      have HR5 := Lib.hid hR5
      have Hr5 := Lib.hid hr5
      have Hinv5 := Lib.hid hinv5
      have Hx5 := Lib.hid hxw5
      have Hfp5 := Lib.hid hfp5'
      clear hsame hR5 hr5 hinv5 hM5 hx5 hfp5 hfp5' hxw5 c0 c1 c2 c3 c4
      go_wp2_with fail
      refine Hsame.out.mono ?_
      rintro r w6 ⟨rfl, hx6⟩
      have Hx6 := Lib.hid hx6
      clear hx6
      go_wp2
      go_roundg (l.length - (j + 1))
      case measure => omega
      case rel => exact ⟨j + 1, L5, by omega, rfl, by go_num, HR5.out.ext Hx6.out (fun _ _ h => h), HM5.out, Hr5.out.keep Hx6.out, Hinv5.out, Hx5.out.trans Hx6.out, Hfp5.out⟩
    · have e : j = l.length := by omega
      subst e
      rw [List.take_of_length_le (Nat.le_refl _)] at hM
      have hfin : RunPost w l (.returned (.tuple #[.pointer (some ⟨rb, 0, none⟩), u6, .bool true])) wr := ⟨rb, mb, L, u6, rfl, hR, hM, by rw [← hM]; exact hr, by rw [← hM]; exact hinv, hx, hfp⟩
      have Hfin := Lib.hid hfin
      clear hfin hR hM hr hinv hx hfp
      go_wp2
      exact bodyPost_ret (v := .tuple #[.pointer (some ⟨rb, 0, none⟩), u6, .bool true]) (by simp [results, Try.results24, go_sem]) rfl Hfin.out
end Go.Proofs.Ytgmopnbejjfbjaa
