/-
  No cell of these rows narrows 'for every input' (looked for: loops, veiled, ifaces, maps, wideKeys, modest, calm, conditions, laid).
  DERIVED. THE GIVEN ROWS OF THIS SEAT. 6 by the template 'for every input the law returns true; each argument reads behind the call as it read before'; 0 by the template 'total and deterministic' (their statements: YtgmopnbejjfbjaaTotals.lean).
  GIVEN WITH THE SEED: the statements are not yours to turn. If you find one false, say at which input.
  Laid BY PROGRAM, IN A SANDBOX (cutbox-rows.mjs): the forced cells as the released guide's own fill.sh prints them over the translation 3dd97e0597bcd0f7… (all of the seat's roots in one cut). By AI agents, Wed Nov 11 2026. No macro, syntax, notation, axiom, sorry.
-/
import Derived.Test.YtgmopnbejjfbjaaChecked
import GoSem.Claim
import GoSem.ClaimJoined
import GoSem.ClaimMapViews
import Derived.JoinedTies
import Derived.KernelRfl
namespace Go.Proofs.Ytgmopnbejjfbjaa
/- THE CELL 'sum', in the pinned program and in every row, IS THE sha256 OF THE DUMP (.gsa) THAT YtgmopnbejjfbjaaProg.lean LOADS. Nothing in Lean hashes anything: it is a label: what it is worth is what the hold of that sum in a sandbox is worth. -/
noncomputable def Try.pinned : Pinned := { name := "ytgmopnbejjfbjaa", sum := "3dd97e0597bcd0f7bc5296b272459a1d1cd33790888e6bc19e91ad111f8467ea", checked := Try.checked }
namespace Rows
def none {H : Type} : Left H := { results := [], args := [] }

/-- 'exoduslaw45.NamesResolves': WHATEVER THE INPUT: true; the input reads as it did. -/
def namesResolvesSpec : ChangeSpec := { name := "namesResolves", fn := fun _ => fun
  | [d1, d2, d3] => { results := [.lit (.bool true)], args := [d1, d2, d3] }
  | _ => none }
def namesResolvesRow : OpenClaim := { program := "ytgmopnbejjfbjaa", sum := "3dd97e0597bcd0f7bc5296b272459a1d1cd33790888e6bc19e91ad111f8467ea", func := "exodus/exoduslaw45.NamesResolves", spec := "namesResolves", apart := false }
def NamesResolvesSaid : Prop := namesResolvesRow.holds Try.pinned (OpenSpec.ofChange namesResolvesSpec)

/-- ITS FALSE NEIGHBOUR: 'it returns false'. Refute it at one input. -/
def namesResolvesWrong : ChangeSpec := { name := "namesResolves", fn := fun _ => fun
  | [d1, d2, d3] => { results := [.lit (.bool false)], args := [d1, d2, d3] }
  | _ => none }
def NamesResolvesWrongFalsely : Prop := namesResolvesRow.holds Try.pinned (OpenSpec.ofChange namesResolvesWrong)

/-- 'exoduslaw45.NamesSafe': WHATEVER THE INPUT: true; the input reads as it did. -/
def namesSafeSpec : ChangeSpec := { name := "namesSafe", fn := fun _ => fun
  | [d] => { results := [.lit (.bool true)], args := [d] }
  | _ => none }
def namesSafeRow : OpenClaim := { program := "ytgmopnbejjfbjaa", sum := "3dd97e0597bcd0f7bc5296b272459a1d1cd33790888e6bc19e91ad111f8467ea", func := "exodus/exoduslaw45.NamesSafe", spec := "namesSafe", apart := false }
def NamesSafeSaid : Prop := namesSafeRow.holds Try.pinned (OpenSpec.ofChange namesSafeSpec)

/-- ITS FALSE NEIGHBOUR: 'it returns false'. Refute it at one input. -/
def namesSafeWrong : ChangeSpec := { name := "namesSafe", fn := fun _ => fun
  | [d] => { results := [.lit (.bool false)], args := [d] }
  | _ => none }
def NamesSafeWrongFalsely : Prop := namesSafeRow.holds Try.pinned (OpenSpec.ofChange namesSafeWrong)

/-- 'exoduslaw45.NamesCalls': WHATEVER THE INPUT: true; the input reads as it did. -/
def namesCallsSpec : ChangeSpec := { name := "namesCalls", fn := fun _ => fun
  | [d] => { results := [.lit (.bool true)], args := [d] }
  | _ => none }
def namesCallsRow : OpenClaim := { program := "ytgmopnbejjfbjaa", sum := "3dd97e0597bcd0f7bc5296b272459a1d1cd33790888e6bc19e91ad111f8467ea", func := "exodus/exoduslaw45.NamesCalls", spec := "namesCalls", unfollowed := true, recurses := true, apart := false }
def NamesCallsSaid : Prop := namesCallsRow.holds Try.pinned (OpenSpec.ofChange namesCallsSpec)

/-- ITS FALSE NEIGHBOUR: 'it returns false'. Refute it at one input. -/
def namesCallsWrong : ChangeSpec := { name := "namesCalls", fn := fun _ => fun
  | [d] => { results := [.lit (.bool false)], args := [d] }
  | _ => none }
def NamesCallsWrongFalsely : Prop := namesCallsRow.holds Try.pinned (OpenSpec.ofChange namesCallsWrong)

/-- 'exoduslaw45.NamesEpochs': WHATEVER THE INPUT: true; the input reads as it did. -/
def namesEpochsSpec : ChangeSpec := { name := "namesEpochs", fn := fun _ => fun
  | [d1, d2, d3, d4, d5] => { results := [.lit (.bool true)], args := [d1, d2, d3, d4, d5] }
  | _ => none }
def namesEpochsRow : OpenClaim := { program := "ytgmopnbejjfbjaa", sum := "3dd97e0597bcd0f7bc5296b272459a1d1cd33790888e6bc19e91ad111f8467ea", func := "exodus/exoduslaw45.NamesEpochs", spec := "namesEpochs", unfollowed := true, recurses := true, apart := false }
def NamesEpochsSaid : Prop := namesEpochsRow.holds Try.pinned (OpenSpec.ofChange namesEpochsSpec)

/-- ITS FALSE NEIGHBOUR: 'it returns false'. Refute it at one input. -/
def namesEpochsWrong : ChangeSpec := { name := "namesEpochs", fn := fun _ => fun
  | [d1, d2, d3, d4, d5] => { results := [.lit (.bool false)], args := [d1, d2, d3, d4, d5] }
  | _ => none }
def NamesEpochsWrongFalsely : Prop := namesEpochsRow.holds Try.pinned (OpenSpec.ofChange namesEpochsWrong)

/-- 'exoduslaw45.NamesCuts': WHATEVER THE INPUT: true; the input reads as it did. -/
def namesCutsSpec : ChangeSpec := { name := "namesCuts", fn := fun _ => fun
  | [d1, d2, d3, d4] => { results := [.lit (.bool true)], args := [d1, d2, d3, d4] }
  | _ => none }
def namesCutsRow : OpenClaim := { program := "ytgmopnbejjfbjaa", sum := "3dd97e0597bcd0f7bc5296b272459a1d1cd33790888e6bc19e91ad111f8467ea", func := "exodus/exoduslaw45.NamesCuts", spec := "namesCuts", unfollowed := true, recurses := true, apart := false }
def NamesCutsSaid : Prop := namesCutsRow.holds Try.pinned (OpenSpec.ofChange namesCutsSpec)

/-- ITS FALSE NEIGHBOUR: 'it returns false'. Refute it at one input. -/
def namesCutsWrong : ChangeSpec := { name := "namesCuts", fn := fun _ => fun
  | [d1, d2, d3, d4] => { results := [.lit (.bool false)], args := [d1, d2, d3, d4] }
  | _ => none }
def NamesCutsWrongFalsely : Prop := namesCutsRow.holds Try.pinned (OpenSpec.ofChange namesCutsWrong)

/-- 'exoduslaw45.NamesLoads': WHATEVER THE INPUT: true; the input reads as it did. -/
def namesLoadsSpec : ChangeSpec := { name := "namesLoads", fn := fun _ => fun
  | [d1, d2, d3] => { results := [.lit (.bool true)], args := [d1, d2, d3] }
  | _ => none }
def namesLoadsRow : OpenClaim := { program := "ytgmopnbejjfbjaa", sum := "3dd97e0597bcd0f7bc5296b272459a1d1cd33790888e6bc19e91ad111f8467ea", func := "exodus/exoduslaw45.NamesLoads", spec := "namesLoads", unfollowed := true, recurses := true, apart := false }
def NamesLoadsSaid : Prop := namesLoadsRow.holds Try.pinned (OpenSpec.ofChange namesLoadsSpec)

/-- ITS FALSE NEIGHBOUR: 'it returns false'. Refute it at one input. -/
def namesLoadsWrong : ChangeSpec := { name := "namesLoads", fn := fun _ => fun
  | [d1, d2, d3] => { results := [.lit (.bool false)], args := [d1, d2, d3] }
  | _ => none }
def NamesLoadsWrongFalsely : Prop := namesLoadsRow.holds Try.pinned (OpenSpec.ofChange namesLoadsWrong)

/- THE SECOND FORM. 'bulk': how many values and letters a reading holds, each counted each time it is reached (what is shared counts as often as it is met; a slice's spare places count too). A statement '..UptoSaid' is the law's where the arguments, and the package variables that the reading takes, are together of bulk at most 1048576: NARROWER than '..Said'. Prove '..Said' where nothing that the law and all that it calls make is longer than what came in: it says more and counts as full. Else prove '..UptoSaid'. A law counts once. -/
mutual
def uptoBulk {H : Type} : DataW H → Nat
  | .lit (.string bytes) => bytes.length + 1
  | .lit _ => 1
  | .nil => 1
  | .ptr d => uptoBulk d + 1
  | .slice elems spare => uptoBulkAll elems + uptoBulkAll spare + 1
  | .agg parts => uptoBulkAll parts + 1
  | .iface _ d => uptoBulk d + 1
  | .map entries => uptoBulkEntries entries + 1
  | .held _ => 1
def uptoBulkAll {H : Type} : List (DataW H) → Nat
  | [] => 0
  | d :: r => uptoBulk d + uptoBulkAll r
def uptoBulkEntries {H : Type} : List (Lit × DataW H) → Nat
  | [] => 0
  | x :: r => uptoBulkEntry x + uptoBulkEntries r
def uptoBulkEntry {H : Type} : Lit × DataW H → Nat
  | (.string bytes, d) => bytes.length + uptoBulk d + 1
  | (_, d) => uptoBulk d + 1
 end
def uptoSmall : (H : Type) → List (DataW H) → Bool := fun _ ds => decide (uptoBulkAll ds ≤ 1048576)
def OpenSpec.upto (s : _root_.Go.ChangeSpec) : _root_.Go.OpenSpec := { _root_.Go.OpenSpec.ofChange s with cond := some uptoSmall }

/-- 'exoduslaw45.NamesResolves', WHERE WHAT IT READS IS OF BULK AT MOST 1048576: true; the input reads as it did. -/
def namesResolvesUptoRow : OpenClaim := { program := "ytgmopnbejjfbjaa", sum := "3dd97e0597bcd0f7bc5296b272459a1d1cd33790888e6bc19e91ad111f8467ea", func := "exodus/exoduslaw45.NamesResolves", spec := "namesResolves", apart := false, narrowed := true }
def NamesResolvesUptoSaid : Prop := namesResolvesUptoRow.holds Try.pinned (OpenSpec.upto namesResolvesSpec)

/-- 'exoduslaw45.NamesSafe', WHERE WHAT IT READS IS OF BULK AT MOST 1048576: true; the input reads as it did. -/
def namesSafeUptoRow : OpenClaim := { program := "ytgmopnbejjfbjaa", sum := "3dd97e0597bcd0f7bc5296b272459a1d1cd33790888e6bc19e91ad111f8467ea", func := "exodus/exoduslaw45.NamesSafe", spec := "namesSafe", apart := false, narrowed := true }
def NamesSafeUptoSaid : Prop := namesSafeUptoRow.holds Try.pinned (OpenSpec.upto namesSafeSpec)

/-- 'exoduslaw45.NamesCalls', WHERE WHAT IT READS IS OF BULK AT MOST 1048576: true; the input reads as it did. -/
def namesCallsUptoRow : OpenClaim := { program := "ytgmopnbejjfbjaa", sum := "3dd97e0597bcd0f7bc5296b272459a1d1cd33790888e6bc19e91ad111f8467ea", func := "exodus/exoduslaw45.NamesCalls", spec := "namesCalls", unfollowed := true, recurses := true, apart := false, narrowed := true }
def NamesCallsUptoSaid : Prop := namesCallsUptoRow.holds Try.pinned (OpenSpec.upto namesCallsSpec)

/-- 'exoduslaw45.NamesEpochs', WHERE WHAT IT READS IS OF BULK AT MOST 1048576: true; the input reads as it did. -/
def namesEpochsUptoRow : OpenClaim := { program := "ytgmopnbejjfbjaa", sum := "3dd97e0597bcd0f7bc5296b272459a1d1cd33790888e6bc19e91ad111f8467ea", func := "exodus/exoduslaw45.NamesEpochs", spec := "namesEpochs", unfollowed := true, recurses := true, apart := false, narrowed := true }
def NamesEpochsUptoSaid : Prop := namesEpochsUptoRow.holds Try.pinned (OpenSpec.upto namesEpochsSpec)

/-- 'exoduslaw45.NamesCuts', WHERE WHAT IT READS IS OF BULK AT MOST 1048576: true; the input reads as it did. -/
def namesCutsUptoRow : OpenClaim := { program := "ytgmopnbejjfbjaa", sum := "3dd97e0597bcd0f7bc5296b272459a1d1cd33790888e6bc19e91ad111f8467ea", func := "exodus/exoduslaw45.NamesCuts", spec := "namesCuts", unfollowed := true, recurses := true, apart := false, narrowed := true }
def NamesCutsUptoSaid : Prop := namesCutsUptoRow.holds Try.pinned (OpenSpec.upto namesCutsSpec)

/-- 'exoduslaw45.NamesLoads', WHERE WHAT IT READS IS OF BULK AT MOST 1048576: true; the input reads as it did. -/
def namesLoadsUptoRow : OpenClaim := { program := "ytgmopnbejjfbjaa", sum := "3dd97e0597bcd0f7bc5296b272459a1d1cd33790888e6bc19e91ad111f8467ea", func := "exodus/exoduslaw45.NamesLoads", spec := "namesLoads", unfollowed := true, recurses := true, apart := false, narrowed := true }
def NamesLoadsUptoSaid : Prop := namesLoadsUptoRow.holds Try.pinned (OpenSpec.upto namesLoadsSpec)

end Rows
end Go.Proofs.Ytgmopnbejjfbjaa
