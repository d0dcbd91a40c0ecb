/-
  No cell of these rows narrows 'for every input' (looked for: loops, veiled, ifaces, maps, wideKeys, modest, calm, conditions, laid).
  DERIVED. THE GIVEN ROWS OF THIS SEAT. 7 by the template 'for every input the law returns true; each argument reads behind the call as it read before'; 0 by the template 'total and deterministic' (their statements: YthipbmppmgkklaaTotals.lean).
  GIVEN WITH THE SEED: the statements are not yours to turn. If you find one false, say at which input.
  Laid BY PROGRAM, IN A SANDBOX (cutbox-rows.mjs): the forced cells as the released guide's own fill.sh prints them over the translation 3d899eaa7c20b4c0… (all of the seat's roots in one cut). By AI agents, Wed Nov 11 2026. No macro, syntax, notation, axiom, sorry.
-/
import Derived.Test.YthipbmppmgkklaaChecked
import GoSem.Claim
import GoSem.ClaimJoined
import GoSem.ClaimMapViews
import Derived.JoinedTies
import Derived.KernelRfl
namespace Go.Proofs.Ythipbmppmgkklaa
/- THE CELL 'sum', in the pinned program and in every row, IS THE sha256 OF THE DUMP (.gsa) THAT YthipbmppmgkklaaProg.lean LOADS. Nothing in Lean hashes anything: it is a label: what it is worth is what the hold of that sum in a sandbox is worth. -/
noncomputable def Try.pinned : Pinned := { name := "ythipbmppmgkklaa", sum := "3d899eaa7c20b4c018ae0167d14840451c19c1c9664a7920d7deff3b61b539f7", checked := Try.checked }
namespace Rows
def none {H : Type} : Left H := { results := [], args := [] }

/-- 'exoduslaw34.StoreSwaps': WHATEVER THE INPUT: true; the input reads as it did. -/
def storeSwapsSpec : ChangeSpec := { name := "storeSwaps", fn := fun _ => fun
  | [d1, d2, d3] => { results := [.lit (.bool true)], args := [d1, d2, d3] }
  | _ => none }
def storeSwapsRow : OpenClaim := { program := "ythipbmppmgkklaa", sum := "3d899eaa7c20b4c018ae0167d14840451c19c1c9664a7920d7deff3b61b539f7", func := "exodus/exoduslaw34.StoreSwaps", spec := "storeSwaps", unfollowed := true, recurses := true, apart := false }
def StoreSwapsSaid : Prop := storeSwapsRow.holds Try.pinned (OpenSpec.ofChange storeSwapsSpec)

/-- ITS FALSE NEIGHBOUR: 'it returns false'. Refute it at one input. -/
def storeSwapsWrong : ChangeSpec := { name := "storeSwaps", fn := fun _ => fun
  | [d1, d2, d3] => { results := [.lit (.bool false)], args := [d1, d2, d3] }
  | _ => none }
def StoreSwapsWrongFalsely : Prop := storeSwapsRow.holds Try.pinned (OpenSpec.ofChange storeSwapsWrong)

/-- 'exoduslaw34.StoreFull': WHATEVER THE INPUT: true; the input reads as it did. -/
def storeFullSpec : ChangeSpec := { name := "storeFull", fn := fun _ => fun
  | [d1, d2, d3] => { results := [.lit (.bool true)], args := [d1, d2, d3] }
  | _ => none }
def storeFullRow : OpenClaim := { program := "ythipbmppmgkklaa", sum := "3d899eaa7c20b4c018ae0167d14840451c19c1c9664a7920d7deff3b61b539f7", func := "exodus/exoduslaw34.StoreFull", spec := "storeFull", unfollowed := true, recurses := true, apart := false }
def StoreFullSaid : Prop := storeFullRow.holds Try.pinned (OpenSpec.ofChange storeFullSpec)

/-- ITS FALSE NEIGHBOUR: 'it returns false'. Refute it at one input. -/
def storeFullWrong : ChangeSpec := { name := "storeFull", fn := fun _ => fun
  | [d1, d2, d3] => { results := [.lit (.bool false)], args := [d1, d2, d3] }
  | _ => none }
def StoreFullWrongFalsely : Prop := storeFullRow.holds Try.pinned (OpenSpec.ofChange storeFullWrong)

/-- 'exoduslaw34.StoreKeys': WHATEVER THE INPUT: true; the input reads as it did. -/
def storeKeysSpec : ChangeSpec := { name := "storeKeys", fn := fun _ => fun
  | [d1, d2] => { results := [.lit (.bool true)], args := [d1, d2] }
  | _ => none }
def storeKeysRow : OpenClaim := { program := "ythipbmppmgkklaa", sum := "3d899eaa7c20b4c018ae0167d14840451c19c1c9664a7920d7deff3b61b539f7", func := "exodus/exoduslaw34.StoreKeys", spec := "storeKeys", unfollowed := true, recurses := true, apart := false }
def StoreKeysSaid : Prop := storeKeysRow.holds Try.pinned (OpenSpec.ofChange storeKeysSpec)

/-- ITS FALSE NEIGHBOUR: 'it returns false'. Refute it at one input. -/
def storeKeysWrong : ChangeSpec := { name := "storeKeys", fn := fun _ => fun
  | [d1, d2] => { results := [.lit (.bool false)], args := [d1, d2] }
  | _ => none }
def StoreKeysWrongFalsely : Prop := storeKeysRow.holds Try.pinned (OpenSpec.ofChange storeKeysWrong)

/-- 'exoduslaw34.StoreCalls': WHATEVER THE INPUT: true; the input reads as it did. -/
def storeCallsSpec : ChangeSpec := { name := "storeCalls", fn := fun _ => fun
  | [d] => { results := [.lit (.bool true)], args := [d] }
  | _ => none }
def storeCallsRow : OpenClaim := { program := "ythipbmppmgkklaa", sum := "3d899eaa7c20b4c018ae0167d14840451c19c1c9664a7920d7deff3b61b539f7", func := "exodus/exoduslaw34.StoreCalls", spec := "storeCalls", unfollowed := true, recurses := true, apart := false }
def StoreCallsSaid : Prop := storeCallsRow.holds Try.pinned (OpenSpec.ofChange storeCallsSpec)

/-- ITS FALSE NEIGHBOUR: 'it returns false'. Refute it at one input. -/
def storeCallsWrong : ChangeSpec := { name := "storeCalls", fn := fun _ => fun
  | [d] => { results := [.lit (.bool false)], args := [d] }
  | _ => none }
def StoreCallsWrongFalsely : Prop := storeCallsRow.holds Try.pinned (OpenSpec.ofChange storeCallsWrong)

/-- 'exoduslaw34.StoreLoads': WHATEVER THE INPUT: true; the input reads as it did. -/
def storeLoadsSpec : ChangeSpec := { name := "storeLoads", fn := fun _ => fun
  | [d1, d2, d3] => { results := [.lit (.bool true)], args := [d1, d2, d3] }
  | _ => none }
def storeLoadsRow : OpenClaim := { program := "ythipbmppmgkklaa", sum := "3d899eaa7c20b4c018ae0167d14840451c19c1c9664a7920d7deff3b61b539f7", func := "exodus/exoduslaw34.StoreLoads", spec := "storeLoads", unfollowed := true, recurses := true, apart := false }
def StoreLoadsSaid : Prop := storeLoadsRow.holds Try.pinned (OpenSpec.ofChange storeLoadsSpec)

/-- ITS FALSE NEIGHBOUR: 'it returns false'. Refute it at one input. -/
def storeLoadsWrong : ChangeSpec := { name := "storeLoads", fn := fun _ => fun
  | [d1, d2, d3] => { results := [.lit (.bool false)], args := [d1, d2, d3] }
  | _ => none }
def StoreLoadsWrongFalsely : Prop := storeLoadsRow.holds Try.pinned (OpenSpec.ofChange storeLoadsWrong)

/-- 'exoduslaw34.StoreInverts': WHATEVER THE INPUT: true; the input reads as it did. -/
def storeInvertsSpec : ChangeSpec := { name := "storeInverts", fn := fun _ => fun
  | [d1, d2] => { results := [.lit (.bool true)], args := [d1, d2] }
  | _ => none }
def storeInvertsRow : OpenClaim := { program := "ythipbmppmgkklaa", sum := "3d899eaa7c20b4c018ae0167d14840451c19c1c9664a7920d7deff3b61b539f7", func := "exodus/exoduslaw34.StoreInverts", spec := "storeInverts", unfollowed := true, recurses := true, apart := false }
def StoreInvertsSaid : Prop := storeInvertsRow.holds Try.pinned (OpenSpec.ofChange storeInvertsSpec)

/-- ITS FALSE NEIGHBOUR: 'it returns false'. Refute it at one input. -/
def storeInvertsWrong : ChangeSpec := { name := "storeInverts", fn := fun _ => fun
  | [d1, d2] => { results := [.lit (.bool false)], args := [d1, d2] }
  | _ => none }
def StoreInvertsWrongFalsely : Prop := storeInvertsRow.holds Try.pinned (OpenSpec.ofChange storeInvertsWrong)

/-- 'exoduslaw34.StoreBytes': WHATEVER THE INPUT: true; the input reads as it did. -/
def storeBytesSpec : ChangeSpec := { name := "storeBytes", fn := fun _ => fun
  | [d1, d2, d3] => { results := [.lit (.bool true)], args := [d1, d2, d3] }
  | _ => none }
def storeBytesRow : OpenClaim := { program := "ythipbmppmgkklaa", sum := "3d899eaa7c20b4c018ae0167d14840451c19c1c9664a7920d7deff3b61b539f7", func := "exodus/exoduslaw34.StoreBytes", spec := "storeBytes", unfollowed := true, recurses := true, apart := false }
def StoreBytesSaid : Prop := storeBytesRow.holds Try.pinned (OpenSpec.ofChange storeBytesSpec)

/-- ITS FALSE NEIGHBOUR: 'it returns false'. Refute it at one input. -/
def storeBytesWrong : ChangeSpec := { name := "storeBytes", fn := fun _ => fun
  | [d1, d2, d3] => { results := [.lit (.bool false)], args := [d1, d2, d3] }
  | _ => none }
def StoreBytesWrongFalsely : Prop := storeBytesRow.holds Try.pinned (OpenSpec.ofChange storeBytesWrong)

/- THE SECOND FORM. 'bulk': how many values and letters a reading holds, each counted each time it is reached (what is shared counts as often as it is met; a slice's spare places count too). A statement '..UptoSaid' is the law's where the arguments, and the package variables that the reading takes, are together of bulk at most 1048576: NARROWER than '..Said'. Prove '..Said' where nothing that the law and all that it calls make is longer than what came in: it says more and counts as full. Else prove '..UptoSaid'. A law counts once. -/
mutual
def uptoBulk {H : Type} : DataW H → Nat
  | .lit (.string bytes) => bytes.length + 1
  | .lit _ => 1
  | .nil => 1
  | .ptr d => uptoBulk d + 1
  | .slice elems spare => uptoBulkAll elems + uptoBulkAll spare + 1
  | .agg parts => uptoBulkAll parts + 1
  | .iface _ d => uptoBulk d + 1
  | .map entries => uptoBulkEntries entries + 1
  | .held _ => 1
def uptoBulkAll {H : Type} : List (DataW H) → Nat
  | [] => 0
  | d :: r => uptoBulk d + uptoBulkAll r
def uptoBulkEntries {H : Type} : List (Lit × DataW H) → Nat
  | [] => 0
  | x :: r => uptoBulkEntry x + uptoBulkEntries r
def uptoBulkEntry {H : Type} : Lit × DataW H → Nat
  | (.string bytes, d) => bytes.length + uptoBulk d + 1
  | (_, d) => uptoBulk d + 1
 end
def uptoSmall : (H : Type) → List (DataW H) → Bool := fun _ ds => decide (uptoBulkAll ds ≤ 1048576)
def OpenSpec.upto (s : _root_.Go.ChangeSpec) : _root_.Go.OpenSpec := { _root_.Go.OpenSpec.ofChange s with cond := some uptoSmall }

/-- 'exoduslaw34.StoreSwaps', WHERE WHAT IT READS IS OF BULK AT MOST 1048576: true; the input reads as it did. -/
def storeSwapsUptoRow : OpenClaim := { program := "ythipbmppmgkklaa", sum := "3d899eaa7c20b4c018ae0167d14840451c19c1c9664a7920d7deff3b61b539f7", func := "exodus/exoduslaw34.StoreSwaps", spec := "storeSwaps", unfollowed := true, recurses := true, apart := false, narrowed := true }
def StoreSwapsUptoSaid : Prop := storeSwapsUptoRow.holds Try.pinned (OpenSpec.upto storeSwapsSpec)

/-- 'exoduslaw34.StoreFull', WHERE WHAT IT READS IS OF BULK AT MOST 1048576: true; the input reads as it did. -/
def storeFullUptoRow : OpenClaim := { program := "ythipbmppmgkklaa", sum := "3d899eaa7c20b4c018ae0167d14840451c19c1c9664a7920d7deff3b61b539f7", func := "exodus/exoduslaw34.StoreFull", spec := "storeFull", unfollowed := true, recurses := true, apart := false, narrowed := true }
def StoreFullUptoSaid : Prop := storeFullUptoRow.holds Try.pinned (OpenSpec.upto storeFullSpec)

/-- 'exoduslaw34.StoreKeys', WHERE WHAT IT READS IS OF BULK AT MOST 1048576: true; the input reads as it did. -/
def storeKeysUptoRow : OpenClaim := { program := "ythipbmppmgkklaa", sum := "3d899eaa7c20b4c018ae0167d14840451c19c1c9664a7920d7deff3b61b539f7", func := "exodus/exoduslaw34.StoreKeys", spec := "storeKeys", unfollowed := true, recurses := true, apart := false, narrowed := true }
def StoreKeysUptoSaid : Prop := storeKeysUptoRow.holds Try.pinned (OpenSpec.upto storeKeysSpec)

/-- 'exoduslaw34.StoreCalls', WHERE WHAT IT READS IS OF BULK AT MOST 1048576: true; the input reads as it did. -/
def storeCallsUptoRow : OpenClaim := { program := "ythipbmppmgkklaa", sum := "3d899eaa7c20b4c018ae0167d14840451c19c1c9664a7920d7deff3b61b539f7", func := "exodus/exoduslaw34.StoreCalls", spec := "storeCalls", unfollowed := true, recurses := true, apart := false, narrowed := true }
def StoreCallsUptoSaid : Prop := storeCallsUptoRow.holds Try.pinned (OpenSpec.upto storeCallsSpec)

/-- 'exoduslaw34.StoreLoads', WHERE WHAT IT READS IS OF BULK AT MOST 1048576: true; the input reads as it did. -/
def storeLoadsUptoRow : OpenClaim := { program := "ythipbmppmgkklaa", sum := "3d899eaa7c20b4c018ae0167d14840451c19c1c9664a7920d7deff3b61b539f7", func := "exodus/exoduslaw34.StoreLoads", spec := "storeLoads", unfollowed := true, recurses := true, apart := false, narrowed := true }
def StoreLoadsUptoSaid : Prop := storeLoadsUptoRow.holds Try.pinned (OpenSpec.upto storeLoadsSpec)

/-- 'exoduslaw34.StoreInverts', WHERE WHAT IT READS IS OF BULK AT MOST 1048576: true; the input reads as it did. -/
def storeInvertsUptoRow : OpenClaim := { program := "ythipbmppmgkklaa", sum := "3d899eaa7c20b4c018ae0167d14840451c19c1c9664a7920d7deff3b61b539f7", func := "exodus/exoduslaw34.StoreInverts", spec := "storeInverts", unfollowed := true, recurses := true, apart := false, narrowed := true }
def StoreInvertsUptoSaid : Prop := storeInvertsUptoRow.holds Try.pinned (OpenSpec.upto storeInvertsSpec)

/-- 'exoduslaw34.StoreBytes', WHERE WHAT IT READS IS OF BULK AT MOST 1048576: true; the input reads as it did. -/
def storeBytesUptoRow : OpenClaim := { program := "ythipbmppmgkklaa", sum := "3d899eaa7c20b4c018ae0167d14840451c19c1c9664a7920d7deff3b61b539f7", func := "exodus/exoduslaw34.StoreBytes", spec := "storeBytes", unfollowed := true, recurses := true, apart := false, narrowed := true }
def StoreBytesUptoSaid : Prop := storeBytesUptoRow.holds Try.pinned (OpenSpec.upto storeBytesSpec)

end Rows
end Go.Proofs.Ythipbmppmgkklaa
