/-
  DERIVED. GIVEN WITH THE SEED: THE CARDS: each row of YtlbjfkdgbhkdcaaGreatDoorRows.lean that lists a variable, with what it lists TIED to the program's text (the seventh form; the later family's looks); each row that meets fmt, with fmt's text TOLD by the authors' own Lean function (tested against real Go, not proved from fmt's source: count such statements apart). THE CARD IS WHAT COUNTS. Prove the row's statement (the work); the ties are given (YtlbjfkdgbhkdcaaGreatDoorTie.lean); close each card by the builder's one call (the guide's Derived/Test/ToyasCard.lean, 'card_holds'). Laid BY PROGRAM, IN A SANDBOX (cutbox-door.mjs). By AI agents, Wed Nov 11 2026. No macro, syntax, notation, axiom, sorry.
-/
import Derived.Test.YtlbjfkdgbhkdcaaGreatDoorRows
import GoSem.ClaimSeven
namespace Go.Proofs.YtlbjfkdgbhkdcaaGreatDoor
namespace Rows

/-- THE TIED CARD OF 'exoduslaw04.LinearGroups'. -/
def linearGroupsCard : Claim7 := { stood := { row := linearGroupsRow, standIns := [], harness := (true, "23f53f850881b38f7ac4ff57f1d5b85a520364fca1c9d11d3ce19b61689bdfd0"), looks := false }, kinds := [], alts := [], laidByText := true, laidKinds := [.data, .data, .data], laidTests := true, laidLooks := .later }
def LinearGroupsCardSaid : Prop := Claim7.holds Tryz.pinned (.plain (OpenSpec.ofChange linearGroupsSpec)) linearGroupsCard

/-- THE SECOND FORM's CARD OF 'exoduslaw04.LinearGroups'. -/
def linearGroupsUptoCard : Claim7 := { stood := { row := linearGroupsUptoRow, standIns := [], harness := (true, "23f53f850881b38f7ac4ff57f1d5b85a520364fca1c9d11d3ce19b61689bdfd0"), looks := false }, kinds := [], alts := [], laidByText := true, laidKinds := [.data, .data, .data], laidTests := true, laidLooks := .later }
def LinearGroupsUptoCardSaid : Prop := Claim7.holds Tryz.pinned (.plain (OpenSpec.upto linearGroupsSpec)) linearGroupsUptoCard
end Rows
end Go.Proofs.YtlbjfkdgbhkdcaaGreatDoor
