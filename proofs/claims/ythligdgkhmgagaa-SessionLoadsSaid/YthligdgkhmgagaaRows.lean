/-
  No cell of these rows narrows 'for every input' (looked for: loops, veiled, ifaces, maps, wideKeys, modest, calm, conditions, laid).
  DERIVED. THE GIVEN ROWS OF THIS SEAT. 5 by the template 'for every input the law returns true; each argument reads behind the call as it read before'; 0 by the template 'total and deterministic' (their statements: YthligdgkhmgagaaTotals.lean).
  GIVEN WITH THE SEED: the statements are not yours to turn. If you find one false, say at which input.
  Laid BY PROGRAM, IN A SANDBOX (cutbox-rows.mjs): the forced cells as the released guide's own fill.sh prints them over the translation 50d5e5c9146e3d3a… (all of the seat's roots in one cut). By AI agents, Wed Nov 11 2026. No macro, syntax, notation, axiom, sorry.
-/
import Derived.Test.YthligdgkhmgagaaChecked
import GoSem.Claim
import GoSem.ClaimJoined
import GoSem.ClaimMapViews
import Derived.JoinedTies
import Derived.KernelRfl
namespace Go.Proofs.Ythligdgkhmgagaa
/- THE CELL 'sum', in the pinned program and in every row, IS THE sha256 OF THE DUMP (.gsa) THAT YthligdgkhmgagaaProg.lean LOADS. Nothing in Lean hashes anything: it is a label: what it is worth is what the hold of that sum in a sandbox is worth. -/
noncomputable def Try.pinned : Pinned := { name := "ythligdgkhmgagaa", sum := "50d5e5c9146e3d3a59a5d79221221a6d01c1213d0dbfe7541c8be93487257dcd", checked := Try.checked }
namespace Rows
def none {H : Type} : Left H := { results := [], args := [] }

/-- 'exoduslaw35.SessionLists': WHATEVER THE INPUT: true; the input reads as it did. -/
def sessionListsSpec : ChangeSpec := { name := "sessionLists", fn := fun _ => fun
  | [d] => { results := [.lit (.bool true)], args := [d] }
  | _ => none }
def sessionListsRow : OpenClaim := { program := "ythligdgkhmgagaa", sum := "50d5e5c9146e3d3a59a5d79221221a6d01c1213d0dbfe7541c8be93487257dcd", func := "exodus/exoduslaw35.SessionLists", spec := "sessionLists", unfollowed := true, recurses := true, apart := false }
def SessionListsSaid : Prop := sessionListsRow.holds Try.pinned (OpenSpec.ofChange sessionListsSpec)

/-- ITS FALSE NEIGHBOUR: 'it returns false'. Refute it at one input. -/
def sessionListsWrong : ChangeSpec := { name := "sessionLists", fn := fun _ => fun
  | [d] => { results := [.lit (.bool false)], args := [d] }
  | _ => none }
def SessionListsWrongFalsely : Prop := sessionListsRow.holds Try.pinned (OpenSpec.ofChange sessionListsWrong)

/-- 'exoduslaw35.SessionCalls': WHATEVER THE INPUT: true; the input reads as it did. -/
def sessionCallsSpec : ChangeSpec := { name := "sessionCalls", fn := fun _ => fun
  | [d] => { results := [.lit (.bool true)], args := [d] }
  | _ => none }
def sessionCallsRow : OpenClaim := { program := "ythligdgkhmgagaa", sum := "50d5e5c9146e3d3a59a5d79221221a6d01c1213d0dbfe7541c8be93487257dcd", func := "exodus/exoduslaw35.SessionCalls", spec := "sessionCalls", unfollowed := true, recurses := true, apart := false }
def SessionCallsSaid : Prop := sessionCallsRow.holds Try.pinned (OpenSpec.ofChange sessionCallsSpec)

/-- ITS FALSE NEIGHBOUR: 'it returns false'. Refute it at one input. -/
def sessionCallsWrong : ChangeSpec := { name := "sessionCalls", fn := fun _ => fun
  | [d] => { results := [.lit (.bool false)], args := [d] }
  | _ => none }
def SessionCallsWrongFalsely : Prop := sessionCallsRow.holds Try.pinned (OpenSpec.ofChange sessionCallsWrong)

/-- 'exoduslaw35.SessionFences': WHATEVER THE INPUT: true; the input reads as it did. -/
def sessionFencesSpec : ChangeSpec := { name := "sessionFences", fn := fun _ => fun
  | [d1, d2, d3, d4] => { results := [.lit (.bool true)], args := [d1, d2, d3, d4] }
  | _ => none }
def sessionFencesRow : OpenClaim := { program := "ythligdgkhmgagaa", sum := "50d5e5c9146e3d3a59a5d79221221a6d01c1213d0dbfe7541c8be93487257dcd", func := "exodus/exoduslaw35.SessionFences", spec := "sessionFences", unfollowed := true, recurses := true, apart := false }
def SessionFencesSaid : Prop := sessionFencesRow.holds Try.pinned (OpenSpec.ofChange sessionFencesSpec)

/-- ITS FALSE NEIGHBOUR: 'it returns false'. Refute it at one input. -/
def sessionFencesWrong : ChangeSpec := { name := "sessionFences", fn := fun _ => fun
  | [d1, d2, d3, d4] => { results := [.lit (.bool false)], args := [d1, d2, d3, d4] }
  | _ => none }
def SessionFencesWrongFalsely : Prop := sessionFencesRow.holds Try.pinned (OpenSpec.ofChange sessionFencesWrong)

/-- 'exoduslaw35.SessionClients': WHATEVER THE INPUT: true; the input reads as it did. -/
def sessionClientsSpec : ChangeSpec := { name := "sessionClients", fn := fun _ => fun
  | [d1, d2, d3, d4] => { results := [.lit (.bool true)], args := [d1, d2, d3, d4] }
  | _ => none }
def sessionClientsRow : OpenClaim := { program := "ythligdgkhmgagaa", sum := "50d5e5c9146e3d3a59a5d79221221a6d01c1213d0dbfe7541c8be93487257dcd", func := "exodus/exoduslaw35.SessionClients", spec := "sessionClients", unfollowed := true, recurses := true, apart := false }
def SessionClientsSaid : Prop := sessionClientsRow.holds Try.pinned (OpenSpec.ofChange sessionClientsSpec)

/-- ITS FALSE NEIGHBOUR: 'it returns false'. Refute it at one input. -/
def sessionClientsWrong : ChangeSpec := { name := "sessionClients", fn := fun _ => fun
  | [d1, d2, d3, d4] => { results := [.lit (.bool false)], args := [d1, d2, d3, d4] }
  | _ => none }
def SessionClientsWrongFalsely : Prop := sessionClientsRow.holds Try.pinned (OpenSpec.ofChange sessionClientsWrong)

/-- 'exoduslaw35.SessionLoads': WHATEVER THE INPUT: true; the input reads as it did. -/
def sessionLoadsSpec : ChangeSpec := { name := "sessionLoads", fn := fun _ => fun
  | [d1, d2, d3] => { results := [.lit (.bool true)], args := [d1, d2, d3] }
  | _ => none }
def sessionLoadsRow : OpenClaim := { program := "ythligdgkhmgagaa", sum := "50d5e5c9146e3d3a59a5d79221221a6d01c1213d0dbfe7541c8be93487257dcd", func := "exodus/exoduslaw35.SessionLoads", spec := "sessionLoads", unfollowed := true, recurses := true, apart := false }
def SessionLoadsSaid : Prop := sessionLoadsRow.holds Try.pinned (OpenSpec.ofChange sessionLoadsSpec)

/-- ITS FALSE NEIGHBOUR: 'it returns false'. Refute it at one input. -/
def sessionLoadsWrong : ChangeSpec := { name := "sessionLoads", fn := fun _ => fun
  | [d1, d2, d3] => { results := [.lit (.bool false)], args := [d1, d2, d3] }
  | _ => none }
def SessionLoadsWrongFalsely : Prop := sessionLoadsRow.holds Try.pinned (OpenSpec.ofChange sessionLoadsWrong)

/- THE SECOND FORM. 'bulk': how many values and letters a reading holds, each counted each time it is reached (what is shared counts as often as it is met; a slice's spare places count too). A statement '..UptoSaid' is the law's where the arguments, and the package variables that the reading takes, are together of bulk at most 1048576: NARROWER than '..Said'. Prove '..Said' where nothing that the law and all that it calls make is longer than what came in: it says more and counts as full. Else prove '..UptoSaid'. A law counts once. -/
mutual
def uptoBulk {H : Type} : DataW H → Nat
  | .lit (.string bytes) => bytes.length + 1
  | .lit _ => 1
  | .nil => 1
  | .ptr d => uptoBulk d + 1
  | .slice elems spare => uptoBulkAll elems + uptoBulkAll spare + 1
  | .agg parts => uptoBulkAll parts + 1
  | .iface _ d => uptoBulk d + 1
  | .map entries => uptoBulkEntries entries + 1
  | .held _ => 1
def uptoBulkAll {H : Type} : List (DataW H) → Nat
  | [] => 0
  | d :: r => uptoBulk d + uptoBulkAll r
def uptoBulkEntries {H : Type} : List (Lit × DataW H) → Nat
  | [] => 0
  | x :: r => uptoBulkEntry x + uptoBulkEntries r
def uptoBulkEntry {H : Type} : Lit × DataW H → Nat
  | (.string bytes, d) => bytes.length + uptoBulk d + 1
  | (_, d) => uptoBulk d + 1
 end
def uptoSmall : (H : Type) → List (DataW H) → Bool := fun _ ds => decide (uptoBulkAll ds ≤ 1048576)
def OpenSpec.upto (s : _root_.Go.ChangeSpec) : _root_.Go.OpenSpec := { _root_.Go.OpenSpec.ofChange s with cond := some uptoSmall }

/-- 'exoduslaw35.SessionLists', WHERE WHAT IT READS IS OF BULK AT MOST 1048576: true; the input reads as it did. -/
def sessionListsUptoRow : OpenClaim := { program := "ythligdgkhmgagaa", sum := "50d5e5c9146e3d3a59a5d79221221a6d01c1213d0dbfe7541c8be93487257dcd", func := "exodus/exoduslaw35.SessionLists", spec := "sessionLists", unfollowed := true, recurses := true, apart := false, narrowed := true }
def SessionListsUptoSaid : Prop := sessionListsUptoRow.holds Try.pinned (OpenSpec.upto sessionListsSpec)

/-- 'exoduslaw35.SessionCalls', WHERE WHAT IT READS IS OF BULK AT MOST 1048576: true; the input reads as it did. -/
def sessionCallsUptoRow : OpenClaim := { program := "ythligdgkhmgagaa", sum := "50d5e5c9146e3d3a59a5d79221221a6d01c1213d0dbfe7541c8be93487257dcd", func := "exodus/exoduslaw35.SessionCalls", spec := "sessionCalls", unfollowed := true, recurses := true, apart := false, narrowed := true }
def SessionCallsUptoSaid : Prop := sessionCallsUptoRow.holds Try.pinned (OpenSpec.upto sessionCallsSpec)

/-- 'exoduslaw35.SessionFences', WHERE WHAT IT READS IS OF BULK AT MOST 1048576: true; the input reads as it did. -/
def sessionFencesUptoRow : OpenClaim := { program := "ythligdgkhmgagaa", sum := "50d5e5c9146e3d3a59a5d79221221a6d01c1213d0dbfe7541c8be93487257dcd", func := "exodus/exoduslaw35.SessionFences", spec := "sessionFences", unfollowed := true, recurses := true, apart := false, narrowed := true }
def SessionFencesUptoSaid : Prop := sessionFencesUptoRow.holds Try.pinned (OpenSpec.upto sessionFencesSpec)

/-- 'exoduslaw35.SessionClients', WHERE WHAT IT READS IS OF BULK AT MOST 1048576: true; the input reads as it did. -/
def sessionClientsUptoRow : OpenClaim := { program := "ythligdgkhmgagaa", sum := "50d5e5c9146e3d3a59a5d79221221a6d01c1213d0dbfe7541c8be93487257dcd", func := "exodus/exoduslaw35.SessionClients", spec := "sessionClients", unfollowed := true, recurses := true, apart := false, narrowed := true }
def SessionClientsUptoSaid : Prop := sessionClientsUptoRow.holds Try.pinned (OpenSpec.upto sessionClientsSpec)

/-- 'exoduslaw35.SessionLoads', WHERE WHAT IT READS IS OF BULK AT MOST 1048576: true; the input reads as it did. -/
def sessionLoadsUptoRow : OpenClaim := { program := "ythligdgkhmgagaa", sum := "50d5e5c9146e3d3a59a5d79221221a6d01c1213d0dbfe7541c8be93487257dcd", func := "exodus/exoduslaw35.SessionLoads", spec := "sessionLoads", unfollowed := true, recurses := true, apart := false, narrowed := true }
def SessionLoadsUptoSaid : Prop := sessionLoadsUptoRow.holds Try.pinned (OpenSpec.upto sessionLoadsSpec)

end Rows
end Go.Proofs.Ythligdgkhmgagaa
