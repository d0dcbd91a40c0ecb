/-
  No cell of these rows narrows 'for every input' (looked for: loops, veiled, ifaces, maps, wideKeys, modest, calm, conditions, laid).
  DERIVED. THE GIVEN ROWS OF THIS SEAT. 6 by the template 'for every input the law returns true; each argument reads behind the call as it read before'; 0 by the template 'total and deterministic' (their statements: YtjaldknfeojjkaaGreatTotals.lean).
  GIVEN WITH THE SEED: the statements are not yours to turn. If you find one false, say at which input.
  Laid BY PROGRAM, IN A SANDBOX (cutbox-rows.mjs): the forced cells as the released guide's own fill.sh prints them over the translation d6a94444ba5cbf30… (all of the seat's roots in one cut). By AI agents, Wed Nov 11 2026. No macro, syntax, notation, axiom, sorry.
-/
import Derived.Test.YtjaldknfeojjkaaGreatChecked
import GoSem.Claim
import GoSem.ClaimJoined
import GoSem.ClaimMapViews
import Derived.JoinedTies
import Derived.KernelRfl
namespace Go.Proofs.YtjaldknfeojjkaaGreat
/- THE CELL 'sum', in the pinned program and in every row, IS THE sha256 OF THE DUMP (.gsa) THAT YtjaldknfeojjkaaGreatProg.lean LOADS. Nothing in Lean hashes anything: it is a label: what it is worth is what the hold of that sum in a sandbox is worth. -/
noncomputable def Tryz.pinned : Pinned := { name := "ytjaldknfeojjkaagreat", sum := "d6a94444ba5cbf3030234d61fbe87959938e74cedbe3602f432d4f96f71beeda", checked := Tryz.checked }
namespace Rows
def none {H : Type} : Left H := { results := [], args := [] }

/-- 'exoduslaw07.CutsSound': WHATEVER THE INPUT: true; the input reads as it did. -/
def cutsSoundSpec : ChangeSpec := { name := "cutsSound", fn := fun _ => fun
  | [d1, d2] => { results := [.lit (.bool true)], args := [d1, d2] }
  | _ => none }
def cutsSoundRow : OpenClaim := { program := "ytjaldknfeojjkaagreat", sum := "d6a94444ba5cbf3030234d61fbe87959938e74cedbe3602f432d4f96f71beeda", func := "exodus/exoduslaw07.CutsSound", spec := "cutsSound", unfollowed := true, recurses := true, apart := false }
def CutsSoundSaid : Prop := cutsSoundRow.holds Tryz.pinned (OpenSpec.ofChange cutsSoundSpec)

/-- ITS FALSE NEIGHBOUR: 'it returns false'. Refute it at one input. -/
def cutsSoundWrong : ChangeSpec := { name := "cutsSound", fn := fun _ => fun
  | [d1, d2] => { results := [.lit (.bool false)], args := [d1, d2] }
  | _ => none }
def CutsSoundWrongFalsely : Prop := cutsSoundRow.holds Tryz.pinned (OpenSpec.ofChange cutsSoundWrong)

/-- 'exoduslaw07.CutsMixed': WHATEVER THE INPUT: true; the input reads as it did. -/
def cutsMixedSpec : ChangeSpec := { name := "cutsMixed", fn := fun _ => fun
  | [d1, d2, d3] => { results := [.lit (.bool true)], args := [d1, d2, d3] }
  | _ => none }
def cutsMixedRow : OpenClaim := { program := "ytjaldknfeojjkaagreat", sum := "d6a94444ba5cbf3030234d61fbe87959938e74cedbe3602f432d4f96f71beeda", func := "exodus/exoduslaw07.CutsMixed", spec := "cutsMixed", unfollowed := true, recurses := true, apart := false }
def CutsMixedSaid : Prop := cutsMixedRow.holds Tryz.pinned (OpenSpec.ofChange cutsMixedSpec)

/-- ITS FALSE NEIGHBOUR: 'it returns false'. Refute it at one input. -/
def cutsMixedWrong : ChangeSpec := { name := "cutsMixed", fn := fun _ => fun
  | [d1, d2, d3] => { results := [.lit (.bool false)], args := [d1, d2, d3] }
  | _ => none }
def CutsMixedWrongFalsely : Prop := cutsMixedRow.holds Tryz.pinned (OpenSpec.ofChange cutsMixedWrong)

/-- 'exoduslaw07.CutsCover': WHATEVER THE INPUT: true; the input reads as it did. -/
def cutsCoverSpec : ChangeSpec := { name := "cutsCover", fn := fun _ => fun
  | [d1, d2, d3] => { results := [.lit (.bool true)], args := [d1, d2, d3] }
  | _ => none }
def cutsCoverRow : OpenClaim := { program := "ytjaldknfeojjkaagreat", sum := "d6a94444ba5cbf3030234d61fbe87959938e74cedbe3602f432d4f96f71beeda", func := "exodus/exoduslaw07.CutsCover", spec := "cutsCover", unfollowed := true, recurses := true, apart := false }
def CutsCoverSaid : Prop := cutsCoverRow.holds Tryz.pinned (OpenSpec.ofChange cutsCoverSpec)

/-- ITS FALSE NEIGHBOUR: 'it returns false'. Refute it at one input. -/
def cutsCoverWrong : ChangeSpec := { name := "cutsCover", fn := fun _ => fun
  | [d1, d2, d3] => { results := [.lit (.bool false)], args := [d1, d2, d3] }
  | _ => none }
def CutsCoverWrongFalsely : Prop := cutsCoverRow.holds Tryz.pinned (OpenSpec.ofChange cutsCoverWrong)

/-- 'exoduslaw07.CutsMinimal': WHATEVER THE INPUT: true; the input reads as it did. -/
def cutsMinimalSpec : ChangeSpec := { name := "cutsMinimal", fn := fun _ => fun
  | [d1, d2, d3] => { results := [.lit (.bool true)], args := [d1, d2, d3] }
  | _ => none }
def cutsMinimalRow : OpenClaim := { program := "ytjaldknfeojjkaagreat", sum := "d6a94444ba5cbf3030234d61fbe87959938e74cedbe3602f432d4f96f71beeda", func := "exodus/exoduslaw07.CutsMinimal", spec := "cutsMinimal", unfollowed := true, recurses := true, apart := false }
def CutsMinimalSaid : Prop := cutsMinimalRow.holds Tryz.pinned (OpenSpec.ofChange cutsMinimalSpec)

/-- ITS FALSE NEIGHBOUR: 'it returns false'. Refute it at one input. -/
def cutsMinimalWrong : ChangeSpec := { name := "cutsMinimal", fn := fun _ => fun
  | [d1, d2, d3] => { results := [.lit (.bool false)], args := [d1, d2, d3] }
  | _ => none }
def CutsMinimalWrongFalsely : Prop := cutsMinimalRow.holds Tryz.pinned (OpenSpec.ofChange cutsMinimalWrong)

/-- 'exoduslaw07.CutsViolated': WHATEVER THE INPUT: true; the input reads as it did. -/
def cutsViolatedSpec : ChangeSpec := { name := "cutsViolated", fn := fun _ => fun
  | [d1, d2] => { results := [.lit (.bool true)], args := [d1, d2] }
  | _ => none }
def cutsViolatedRow : OpenClaim := { program := "ytjaldknfeojjkaagreat", sum := "d6a94444ba5cbf3030234d61fbe87959938e74cedbe3602f432d4f96f71beeda", func := "exodus/exoduslaw07.CutsViolated", spec := "cutsViolated", unfollowed := true, recurses := true, apart := false }
def CutsViolatedSaid : Prop := cutsViolatedRow.holds Tryz.pinned (OpenSpec.ofChange cutsViolatedSpec)

/-- ITS FALSE NEIGHBOUR: 'it returns false'. Refute it at one input. -/
def cutsViolatedWrong : ChangeSpec := { name := "cutsViolated", fn := fun _ => fun
  | [d1, d2] => { results := [.lit (.bool false)], args := [d1, d2] }
  | _ => none }
def CutsViolatedWrongFalsely : Prop := cutsViolatedRow.holds Tryz.pinned (OpenSpec.ofChange cutsViolatedWrong)

/-- 'exoduslaw07.CutsDerive': WHATEVER THE INPUT: true; the input reads as it did. -/
def cutsDeriveSpec : ChangeSpec := { name := "cutsDerive", fn := fun _ => fun
  | [d1, d2] => { results := [.lit (.bool true)], args := [d1, d2] }
  | _ => none }
def cutsDeriveRow : OpenClaim := { program := "ytjaldknfeojjkaagreat", sum := "d6a94444ba5cbf3030234d61fbe87959938e74cedbe3602f432d4f96f71beeda", func := "exodus/exoduslaw07.CutsDerive", spec := "cutsDerive", unfollowed := true, recurses := true, apart := false }
def CutsDeriveSaid : Prop := cutsDeriveRow.holds Tryz.pinned (OpenSpec.ofChange cutsDeriveSpec)

/-- ITS FALSE NEIGHBOUR: 'it returns false'. Refute it at one input. -/
def cutsDeriveWrong : ChangeSpec := { name := "cutsDerive", fn := fun _ => fun
  | [d1, d2] => { results := [.lit (.bool false)], args := [d1, d2] }
  | _ => none }
def CutsDeriveWrongFalsely : Prop := cutsDeriveRow.holds Tryz.pinned (OpenSpec.ofChange cutsDeriveWrong)

/- THE SECOND FORM. 'bulk': how many values and letters a reading holds, each counted each time it is reached (what is shared counts as often as it is met; a slice's spare places count too). A statement '..UptoSaid' is the law's where the arguments, and the package variables that the reading takes, are together of bulk at most 1048576: NARROWER than '..Said'. Prove '..Said' where nothing that the law and all that it calls make is longer than what came in: it says more and counts as full. Else prove '..UptoSaid'. A law counts once. -/
mutual
def uptoBulk {H : Type} : DataW H → Nat
  | .lit (.string bytes) => bytes.length + 1
  | .lit _ => 1
  | .nil => 1
  | .ptr d => uptoBulk d + 1
  | .slice elems spare => uptoBulkAll elems + uptoBulkAll spare + 1
  | .agg parts => uptoBulkAll parts + 1
  | .iface _ d => uptoBulk d + 1
  | .map entries => uptoBulkEntries entries + 1
  | .held _ => 1
def uptoBulkAll {H : Type} : List (DataW H) → Nat
  | [] => 0
  | d :: r => uptoBulk d + uptoBulkAll r
def uptoBulkEntries {H : Type} : List (Lit × DataW H) → Nat
  | [] => 0
  | x :: r => uptoBulkEntry x + uptoBulkEntries r
def uptoBulkEntry {H : Type} : Lit × DataW H → Nat
  | (.string bytes, d) => bytes.length + uptoBulk d + 1
  | (_, d) => uptoBulk d + 1
 end
def uptoSmall : (H : Type) → List (DataW H) → Bool := fun _ ds => decide (uptoBulkAll ds ≤ 1048576)
def OpenSpec.upto (s : _root_.Go.ChangeSpec) : _root_.Go.OpenSpec := { _root_.Go.OpenSpec.ofChange s with cond := some uptoSmall }

/-- 'exoduslaw07.CutsSound', WHERE WHAT IT READS IS OF BULK AT MOST 1048576: true; the input reads as it did. -/
def cutsSoundUptoRow : OpenClaim := { program := "ytjaldknfeojjkaagreat", sum := "d6a94444ba5cbf3030234d61fbe87959938e74cedbe3602f432d4f96f71beeda", func := "exodus/exoduslaw07.CutsSound", spec := "cutsSound", unfollowed := true, recurses := true, apart := false, narrowed := true }
def CutsSoundUptoSaid : Prop := cutsSoundUptoRow.holds Tryz.pinned (OpenSpec.upto cutsSoundSpec)

/-- 'exoduslaw07.CutsMixed', WHERE WHAT IT READS IS OF BULK AT MOST 1048576: true; the input reads as it did. -/
def cutsMixedUptoRow : OpenClaim := { program := "ytjaldknfeojjkaagreat", sum := "d6a94444ba5cbf3030234d61fbe87959938e74cedbe3602f432d4f96f71beeda", func := "exodus/exoduslaw07.CutsMixed", spec := "cutsMixed", unfollowed := true, recurses := true, apart := false, narrowed := true }
def CutsMixedUptoSaid : Prop := cutsMixedUptoRow.holds Tryz.pinned (OpenSpec.upto cutsMixedSpec)

/-- 'exoduslaw07.CutsCover', WHERE WHAT IT READS IS OF BULK AT MOST 1048576: true; the input reads as it did. -/
def cutsCoverUptoRow : OpenClaim := { program := "ytjaldknfeojjkaagreat", sum := "d6a94444ba5cbf3030234d61fbe87959938e74cedbe3602f432d4f96f71beeda", func := "exodus/exoduslaw07.CutsCover", spec := "cutsCover", unfollowed := true, recurses := true, apart := false, narrowed := true }
def CutsCoverUptoSaid : Prop := cutsCoverUptoRow.holds Tryz.pinned (OpenSpec.upto cutsCoverSpec)

/-- 'exoduslaw07.CutsMinimal', WHERE WHAT IT READS IS OF BULK AT MOST 1048576: true; the input reads as it did. -/
def cutsMinimalUptoRow : OpenClaim := { program := "ytjaldknfeojjkaagreat", sum := "d6a94444ba5cbf3030234d61fbe87959938e74cedbe3602f432d4f96f71beeda", func := "exodus/exoduslaw07.CutsMinimal", spec := "cutsMinimal", unfollowed := true, recurses := true, apart := false, narrowed := true }
def CutsMinimalUptoSaid : Prop := cutsMinimalUptoRow.holds Tryz.pinned (OpenSpec.upto cutsMinimalSpec)

/-- 'exoduslaw07.CutsViolated', WHERE WHAT IT READS IS OF BULK AT MOST 1048576: true; the input reads as it did. -/
def cutsViolatedUptoRow : OpenClaim := { program := "ytjaldknfeojjkaagreat", sum := "d6a94444ba5cbf3030234d61fbe87959938e74cedbe3602f432d4f96f71beeda", func := "exodus/exoduslaw07.CutsViolated", spec := "cutsViolated", unfollowed := true, recurses := true, apart := false, narrowed := true }
def CutsViolatedUptoSaid : Prop := cutsViolatedUptoRow.holds Tryz.pinned (OpenSpec.upto cutsViolatedSpec)

/-- 'exoduslaw07.CutsDerive', WHERE WHAT IT READS IS OF BULK AT MOST 1048576: true; the input reads as it did. -/
def cutsDeriveUptoRow : OpenClaim := { program := "ytjaldknfeojjkaagreat", sum := "d6a94444ba5cbf3030234d61fbe87959938e74cedbe3602f432d4f96f71beeda", func := "exodus/exoduslaw07.CutsDerive", spec := "cutsDerive", unfollowed := true, recurses := true, apart := false, narrowed := true }
def CutsDeriveUptoSaid : Prop := cutsDeriveUptoRow.holds Tryz.pinned (OpenSpec.upto cutsDeriveSpec)

end Rows
end Go.Proofs.YtjaldknfeojjkaaGreat
