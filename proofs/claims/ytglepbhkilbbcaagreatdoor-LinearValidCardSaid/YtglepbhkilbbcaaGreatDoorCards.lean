/-
  DERIVED. GIVEN WITH THE SEED: THE CARDS: each row of YtglepbhkilbbcaaGreatDoorRows.lean that lists a variable, with what it lists TIED to the program's text (the seventh form; the later family's looks); each row that meets fmt, with fmt's text TOLD by the authors' own Lean function (tested against real Go, not proved from fmt's source: count such statements apart). THE CARD IS WHAT COUNTS. Prove the row's statement (the work); the ties are given (YtglepbhkilbbcaaGreatDoorTie.lean); close each card by the builder's one call (the guide's Derived/Test/ToyasCard.lean, 'card_holds'). Laid BY PROGRAM, IN A SANDBOX (cutbox-door.mjs). By AI agents, Wed Nov 11 2026. No macro, syntax, notation, axiom, sorry.
-/
import Derived.Test.YtglepbhkilbbcaaGreatDoorRows
import GoSem.ClaimSeven
namespace Go.Proofs.YtglepbhkilbbcaaGreatDoor
namespace Rows

/-- THE TIED CARD OF 'exoduslaw04.LinearValid'. -/
def linearValidCard : Claim7 := { stood := { row := linearValidRow, standIns := [], harness := (true, "c0a176bffa409699ef2094fcf6c63edb5b70b9aba370d0ba3c4e6dc63cb73f5f"), looks := false }, kinds := [], alts := [], laidByText := true, laidKinds := [.data, .data, .data], laidTests := true, laidLooks := .later }
def LinearValidCardSaid : Prop := Claim7.holds Tryz.pinned (.plain (OpenSpec.ofChange linearValidSpec)) linearValidCard

/-- THE TIED CARD OF 'exoduslaw04.LinearConvex'. -/
def linearConvexCard : Claim7 := { stood := { row := linearConvexRow, standIns := [], harness := (true, "c0a176bffa409699ef2094fcf6c63edb5b70b9aba370d0ba3c4e6dc63cb73f5f"), looks := false }, kinds := [], alts := [], laidByText := true, laidKinds := [.data, .data, .data], laidTests := true, laidLooks := .later }
def LinearConvexCardSaid : Prop := Claim7.holds Tryz.pinned (.plain (OpenSpec.ofChange linearConvexSpec)) linearConvexCard

/-- THE TIED CARD OF 'exoduslaw04.LinearLeast'. -/
def linearLeastCard : Claim7 := { stood := { row := linearLeastRow, standIns := [], harness := (true, "c0a176bffa409699ef2094fcf6c63edb5b70b9aba370d0ba3c4e6dc63cb73f5f"), looks := false }, kinds := [], alts := [], laidByText := true, laidKinds := [.data, .data, .data], laidTests := true, laidLooks := .later }
def LinearLeastCardSaid : Prop := Claim7.holds Tryz.pinned (.plain (OpenSpec.ofChange linearLeastSpec)) linearLeastCard

/-- THE TIED CARD OF 'exoduslaw04.LinearImplies'. -/
def linearImpliesCard : Claim7 := { stood := { row := linearImpliesRow, standIns := [], harness := (true, "c0a176bffa409699ef2094fcf6c63edb5b70b9aba370d0ba3c4e6dc63cb73f5f"), looks := false }, kinds := [], alts := [], laidByText := true, laidKinds := [.data, .data, .data], laidTests := true, laidLooks := .later }
def LinearImpliesCardSaid : Prop := Claim7.holds Tryz.pinned (.plain (OpenSpec.ofChange linearImpliesSpec)) linearImpliesCard

/-- THE TIED CARD OF 'exoduslaw04.LinearGroups'. -/
def linearGroupsCard : Claim7 := { stood := { row := linearGroupsRow, standIns := [], harness := (true, "c0a176bffa409699ef2094fcf6c63edb5b70b9aba370d0ba3c4e6dc63cb73f5f"), looks := false }, kinds := [], alts := [], laidByText := true, laidKinds := [.data, .data, .data], laidTests := true, laidLooks := .later }
def LinearGroupsCardSaid : Prop := Claim7.holds Tryz.pinned (.plain (OpenSpec.ofChange linearGroupsSpec)) linearGroupsCard

/-- THE SECOND FORM's CARD OF 'exoduslaw04.LinearValid'. -/
def linearValidUptoCard : Claim7 := { stood := { row := linearValidUptoRow, standIns := [], harness := (true, "c0a176bffa409699ef2094fcf6c63edb5b70b9aba370d0ba3c4e6dc63cb73f5f"), looks := false }, kinds := [], alts := [], laidByText := true, laidKinds := [.data, .data, .data], laidTests := true, laidLooks := .later }
def LinearValidUptoCardSaid : Prop := Claim7.holds Tryz.pinned (.plain (OpenSpec.upto linearValidSpec)) linearValidUptoCard

/-- THE SECOND FORM's CARD OF 'exoduslaw04.LinearConvex'. -/
def linearConvexUptoCard : Claim7 := { stood := { row := linearConvexUptoRow, standIns := [], harness := (true, "c0a176bffa409699ef2094fcf6c63edb5b70b9aba370d0ba3c4e6dc63cb73f5f"), looks := false }, kinds := [], alts := [], laidByText := true, laidKinds := [.data, .data, .data], laidTests := true, laidLooks := .later }
def LinearConvexUptoCardSaid : Prop := Claim7.holds Tryz.pinned (.plain (OpenSpec.upto linearConvexSpec)) linearConvexUptoCard

/-- THE SECOND FORM's CARD OF 'exoduslaw04.LinearLeast'. -/
def linearLeastUptoCard : Claim7 := { stood := { row := linearLeastUptoRow, standIns := [], harness := (true, "c0a176bffa409699ef2094fcf6c63edb5b70b9aba370d0ba3c4e6dc63cb73f5f"), looks := false }, kinds := [], alts := [], laidByText := true, laidKinds := [.data, .data, .data], laidTests := true, laidLooks := .later }
def LinearLeastUptoCardSaid : Prop := Claim7.holds Tryz.pinned (.plain (OpenSpec.upto linearLeastSpec)) linearLeastUptoCard

/-- THE SECOND FORM's CARD OF 'exoduslaw04.LinearImplies'. -/
def linearImpliesUptoCard : Claim7 := { stood := { row := linearImpliesUptoRow, standIns := [], harness := (true, "c0a176bffa409699ef2094fcf6c63edb5b70b9aba370d0ba3c4e6dc63cb73f5f"), looks := false }, kinds := [], alts := [], laidByText := true, laidKinds := [.data, .data, .data], laidTests := true, laidLooks := .later }
def LinearImpliesUptoCardSaid : Prop := Claim7.holds Tryz.pinned (.plain (OpenSpec.upto linearImpliesSpec)) linearImpliesUptoCard

/-- THE SECOND FORM's CARD OF 'exoduslaw04.LinearGroups'. -/
def linearGroupsUptoCard : Claim7 := { stood := { row := linearGroupsUptoRow, standIns := [], harness := (true, "c0a176bffa409699ef2094fcf6c63edb5b70b9aba370d0ba3c4e6dc63cb73f5f"), looks := false }, kinds := [], alts := [], laidByText := true, laidKinds := [.data, .data, .data], laidTests := true, laidLooks := .later }
def LinearGroupsUptoCardSaid : Prop := Claim7.holds Tryz.pinned (.plain (OpenSpec.upto linearGroupsSpec)) linearGroupsUptoCard
end Rows
end Go.Proofs.YtglepbhkilbbcaaGreatDoor
