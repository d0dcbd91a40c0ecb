/-
  No cell of these rows narrows 'for every input' (looked for: loops, veiled, ifaces, maps, wideKeys, modest, calm, conditions, laid).
  DERIVED. THE GIVEN ROWS OF THIS SEAT. 13 by the template 'for every input the law returns true; each argument reads behind the call as it read before'; 0 by the template 'total and deterministic' (their statements: YtbgienfcmdgaaaaGreatTotals.lean).
  GIVEN WITH THE SEED: the statements are not yours to turn. If you find one false, say at which input.
  Laid BY PROGRAM, IN A SANDBOX (cutbox-rows.mjs): the forced cells as the released guide's own fill.sh prints them over the translation 773160cfdfd6edee… (all of the seat's roots in one cut). By AI agents, Wed Nov 11 2026. No macro, syntax, notation, axiom, sorry.
-/
import Derived.Test.YtbgienfcmdgaaaaGreatChecked
import GoSem.Claim
import GoSem.ClaimJoined
import GoSem.ClaimMapViews
import Derived.JoinedTies
import Derived.KernelRfl
namespace Go.Proofs.YtbgienfcmdgaaaaGreat
/- THE CELL 'sum', in the pinned program and in every row, IS THE sha256 OF THE DUMP (.gsa) THAT YtbgienfcmdgaaaaGreatProg.lean LOADS. Nothing in Lean hashes anything: it is a label: what it is worth is what the hold of that sum in a sandbox is worth. -/
noncomputable def Tryz.pinned : Pinned := { name := "ytbgienfcmdgaaaagreat", sum := "773160cfdfd6edeed75edbc588f688a7ab5bdb5970b835a4951b0121f43f3cd5", checked := Tryz.checked }
namespace Rows
def none {H : Type} : Left H := { results := [], args := [] }

/-- 'exoduslaw06.DualityChecks': WHATEVER THE INPUT: true; the input reads as it did. -/
def dualityChecksSpec : ChangeSpec := { name := "dualityChecks", fn := fun _ => fun
  | [d1, d2] => { results := [.lit (.bool true)], args := [d1, d2] }
  | _ => none }
def dualityChecksRow : OpenClaim := { program := "ytbgienfcmdgaaaagreat", sum := "773160cfdfd6edeed75edbc588f688a7ab5bdb5970b835a4951b0121f43f3cd5", func := "exodus/exoduslaw06.DualityChecks", spec := "dualityChecks", unfollowed := true, recurses := true, plainKeys := false, apart := false }
def DualityChecksSaid : Prop := dualityChecksRow.holds Tryz.pinned (OpenSpec.ofChange dualityChecksSpec)

/-- ITS FALSE NEIGHBOUR: 'it returns false'. Refute it at one input. -/
def dualityChecksWrong : ChangeSpec := { name := "dualityChecks", fn := fun _ => fun
  | [d1, d2] => { results := [.lit (.bool false)], args := [d1, d2] }
  | _ => none }
def DualityChecksWrongFalsely : Prop := dualityChecksRow.holds Tryz.pinned (OpenSpec.ofChange dualityChecksWrong)

/-- 'exoduslaw06.DualityBounds': WHATEVER THE INPUT: true; the input reads as it did. -/
def dualityBoundsSpec : ChangeSpec := { name := "dualityBounds", fn := fun _ => fun
  | [d1, d2, d3] => { results := [.lit (.bool true)], args := [d1, d2, d3] }
  | _ => none }
def dualityBoundsRow : OpenClaim := { program := "ytbgienfcmdgaaaagreat", sum := "773160cfdfd6edeed75edbc588f688a7ab5bdb5970b835a4951b0121f43f3cd5", func := "exodus/exoduslaw06.DualityBounds", spec := "dualityBounds", unfollowed := true, recurses := true, plainKeys := false, apart := false }
def DualityBoundsSaid : Prop := dualityBoundsRow.holds Tryz.pinned (OpenSpec.ofChange dualityBoundsSpec)

/-- ITS FALSE NEIGHBOUR: 'it returns false'. Refute it at one input. -/
def dualityBoundsWrong : ChangeSpec := { name := "dualityBounds", fn := fun _ => fun
  | [d1, d2, d3] => { results := [.lit (.bool false)], args := [d1, d2, d3] }
  | _ => none }
def DualityBoundsWrongFalsely : Prop := dualityBoundsRow.holds Tryz.pinned (OpenSpec.ofChange dualityBoundsWrong)

/-- 'exoduslaw06.DualityRays': WHATEVER THE INPUT: true; the input reads as it did. -/
def dualityRaysSpec : ChangeSpec := { name := "dualityRays", fn := fun _ => fun
  | [d1, d2, d3, d4, d5] => { results := [.lit (.bool true)], args := [d1, d2, d3, d4, d5] }
  | _ => none }
def dualityRaysRow : OpenClaim := { program := "ytbgienfcmdgaaaagreat", sum := "773160cfdfd6edeed75edbc588f688a7ab5bdb5970b835a4951b0121f43f3cd5", func := "exodus/exoduslaw06.DualityRays", spec := "dualityRays", unfollowed := true, recurses := true, plainKeys := false, apart := false }
def DualityRaysSaid : Prop := dualityRaysRow.holds Tryz.pinned (OpenSpec.ofChange dualityRaysSpec)

/-- ITS FALSE NEIGHBOUR: 'it returns false'. Refute it at one input. -/
def dualityRaysWrong : ChangeSpec := { name := "dualityRays", fn := fun _ => fun
  | [d1, d2, d3, d4, d5] => { results := [.lit (.bool false)], args := [d1, d2, d3, d4, d5] }
  | _ => none }
def DualityRaysWrongFalsely : Prop := dualityRaysRow.holds Tryz.pinned (OpenSpec.ofChange dualityRaysWrong)

/-- 'exoduslaw06.DualityKinds': WHATEVER THE INPUT: true; the input reads as it did. -/
def dualityKindsSpec : ChangeSpec := { name := "dualityKinds", fn := fun _ => fun
  | [d1, d2, d3, d4, d5] => { results := [.lit (.bool true)], args := [d1, d2, d3, d4, d5] }
  | _ => none }
def dualityKindsRow : OpenClaim := { program := "ytbgienfcmdgaaaagreat", sum := "773160cfdfd6edeed75edbc588f688a7ab5bdb5970b835a4951b0121f43f3cd5", func := "exodus/exoduslaw06.DualityKinds", spec := "dualityKinds", unfollowed := true, recurses := true, plainKeys := false, apart := false }
def DualityKindsSaid : Prop := dualityKindsRow.holds Tryz.pinned (OpenSpec.ofChange dualityKindsSpec)

/-- ITS FALSE NEIGHBOUR: 'it returns false'. Refute it at one input. -/
def dualityKindsWrong : ChangeSpec := { name := "dualityKinds", fn := fun _ => fun
  | [d1, d2, d3, d4, d5] => { results := [.lit (.bool false)], args := [d1, d2, d3, d4, d5] }
  | _ => none }
def DualityKindsWrongFalsely : Prop := dualityKindsRow.holds Tryz.pinned (OpenSpec.ofChange dualityKindsWrong)

/-- 'exoduslaw06.DualityStays': WHATEVER THE INPUT: true; the input reads as it did. -/
def dualityStaysSpec : ChangeSpec := { name := "dualityStays", fn := fun _ => fun
  | [d1, d2, d3, d4, d5] => { results := [.lit (.bool true)], args := [d1, d2, d3, d4, d5] }
  | _ => none }
def dualityStaysRow : OpenClaim := { program := "ytbgienfcmdgaaaagreat", sum := "773160cfdfd6edeed75edbc588f688a7ab5bdb5970b835a4951b0121f43f3cd5", func := "exodus/exoduslaw06.DualityStays", spec := "dualityStays", unfollowed := true, recurses := true, plainKeys := false, apart := false }
def DualityStaysSaid : Prop := dualityStaysRow.holds Tryz.pinned (OpenSpec.ofChange dualityStaysSpec)

/-- ITS FALSE NEIGHBOUR: 'it returns false'. Refute it at one input. -/
def dualityStaysWrong : ChangeSpec := { name := "dualityStays", fn := fun _ => fun
  | [d1, d2, d3, d4, d5] => { results := [.lit (.bool false)], args := [d1, d2, d3, d4, d5] }
  | _ => none }
def DualityStaysWrongFalsely : Prop := dualityStaysRow.holds Tryz.pinned (OpenSpec.ofChange dualityStaysWrong)

/-- 'exoduslaw06.DualityAccepts': WHATEVER THE INPUT: true; the input reads as it did. -/
def dualityAcceptsSpec : ChangeSpec := { name := "dualityAccepts", fn := fun _ => fun
  | [d1, d2] => { results := [.lit (.bool true)], args := [d1, d2] }
  | _ => none }
def dualityAcceptsRow : OpenClaim := { program := "ytbgienfcmdgaaaagreat", sum := "773160cfdfd6edeed75edbc588f688a7ab5bdb5970b835a4951b0121f43f3cd5", func := "exodus/exoduslaw06.DualityAccepts", spec := "dualityAccepts", unfollowed := true, recurses := true, plainKeys := false, apart := false }
def DualityAcceptsSaid : Prop := dualityAcceptsRow.holds Tryz.pinned (OpenSpec.ofChange dualityAcceptsSpec)

/-- ITS FALSE NEIGHBOUR: 'it returns false'. Refute it at one input. -/
def dualityAcceptsWrong : ChangeSpec := { name := "dualityAccepts", fn := fun _ => fun
  | [d1, d2] => { results := [.lit (.bool false)], args := [d1, d2] }
  | _ => none }
def DualityAcceptsWrongFalsely : Prop := dualityAcceptsRow.holds Tryz.pinned (OpenSpec.ofChange dualityAcceptsWrong)

/-- 'exoduslaw05.SimplexProves': WHATEVER THE INPUT: true; the input reads as it did. -/
def simplexProvesSpec : ChangeSpec := { name := "simplexProves", fn := fun _ => fun
  | [d] => { results := [.lit (.bool true)], args := [d] }
  | _ => none }
def simplexProvesRow : OpenClaim := { program := "ytbgienfcmdgaaaagreat", sum := "773160cfdfd6edeed75edbc588f688a7ab5bdb5970b835a4951b0121f43f3cd5", func := "exodus/exoduslaw05.SimplexProves", spec := "simplexProves", unfollowed := true, recurses := true, plainKeys := false, apart := false }
def SimplexProvesSaid : Prop := simplexProvesRow.holds Tryz.pinned (OpenSpec.ofChange simplexProvesSpec)

/-- ITS FALSE NEIGHBOUR: 'it returns false'. Refute it at one input. -/
def simplexProvesWrong : ChangeSpec := { name := "simplexProves", fn := fun _ => fun
  | [d] => { results := [.lit (.bool false)], args := [d] }
  | _ => none }
def SimplexProvesWrongFalsely : Prop := simplexProvesRow.holds Tryz.pinned (OpenSpec.ofChange simplexProvesWrong)

/-- 'exoduslaw05.SimplexVertices': WHATEVER THE INPUT: true; the input reads as it did. -/
def simplexVerticesSpec : ChangeSpec := { name := "simplexVertices", fn := fun _ => fun
  | [d] => { results := [.lit (.bool true)], args := [d] }
  | _ => none }
def simplexVerticesRow : OpenClaim := { program := "ytbgienfcmdgaaaagreat", sum := "773160cfdfd6edeed75edbc588f688a7ab5bdb5970b835a4951b0121f43f3cd5", func := "exodus/exoduslaw05.SimplexVertices", spec := "simplexVertices", unfollowed := true, recurses := true, plainKeys := false, apart := false }
def SimplexVerticesSaid : Prop := simplexVerticesRow.holds Tryz.pinned (OpenSpec.ofChange simplexVerticesSpec)

/-- ITS FALSE NEIGHBOUR: 'it returns false'. Refute it at one input. -/
def simplexVerticesWrong : ChangeSpec := { name := "simplexVertices", fn := fun _ => fun
  | [d] => { results := [.lit (.bool false)], args := [d] }
  | _ => none }
def SimplexVerticesWrongFalsely : Prop := simplexVerticesRow.holds Tryz.pinned (OpenSpec.ofChange simplexVerticesWrong)

/-- 'exoduslaw05.SimplexLeast': WHATEVER THE INPUT: true; the input reads as it did. -/
def simplexLeastSpec : ChangeSpec := { name := "simplexLeast", fn := fun _ => fun
  | [d1, d2] => { results := [.lit (.bool true)], args := [d1, d2] }
  | _ => none }
def simplexLeastRow : OpenClaim := { program := "ytbgienfcmdgaaaagreat", sum := "773160cfdfd6edeed75edbc588f688a7ab5bdb5970b835a4951b0121f43f3cd5", func := "exodus/exoduslaw05.SimplexLeast", spec := "simplexLeast", unfollowed := true, recurses := true, plainKeys := false, apart := false }
def SimplexLeastSaid : Prop := simplexLeastRow.holds Tryz.pinned (OpenSpec.ofChange simplexLeastSpec)

/-- ITS FALSE NEIGHBOUR: 'it returns false'. Refute it at one input. -/
def simplexLeastWrong : ChangeSpec := { name := "simplexLeast", fn := fun _ => fun
  | [d1, d2] => { results := [.lit (.bool false)], args := [d1, d2] }
  | _ => none }
def SimplexLeastWrongFalsely : Prop := simplexLeastRow.holds Tryz.pinned (OpenSpec.ofChange simplexLeastWrong)

/-- 'exoduslaw05.SimplexOrder': WHATEVER THE INPUT: true; the input reads as it did. -/
def simplexOrderSpec : ChangeSpec := { name := "simplexOrder", fn := fun _ => fun
  | [d] => { results := [.lit (.bool true)], args := [d] }
  | _ => none }
def simplexOrderRow : OpenClaim := { program := "ytbgienfcmdgaaaagreat", sum := "773160cfdfd6edeed75edbc588f688a7ab5bdb5970b835a4951b0121f43f3cd5", func := "exodus/exoduslaw05.SimplexOrder", spec := "simplexOrder", unfollowed := true, recurses := true, plainKeys := false, apart := false }
def SimplexOrderSaid : Prop := simplexOrderRow.holds Tryz.pinned (OpenSpec.ofChange simplexOrderSpec)

/-- ITS FALSE NEIGHBOUR: 'it returns false'. Refute it at one input. -/
def simplexOrderWrong : ChangeSpec := { name := "simplexOrder", fn := fun _ => fun
  | [d] => { results := [.lit (.bool false)], args := [d] }
  | _ => none }
def SimplexOrderWrongFalsely : Prop := simplexOrderRow.holds Tryz.pinned (OpenSpec.ofChange simplexOrderWrong)

/-- 'exoduslaw05.SimplexRows': WHATEVER THE INPUT: true; the input reads as it did. -/
def simplexRowsSpec : ChangeSpec := { name := "simplexRows", fn := fun _ => fun
  | [d1, d2] => { results := [.lit (.bool true)], args := [d1, d2] }
  | _ => none }
def simplexRowsRow : OpenClaim := { program := "ytbgienfcmdgaaaagreat", sum := "773160cfdfd6edeed75edbc588f688a7ab5bdb5970b835a4951b0121f43f3cd5", func := "exodus/exoduslaw05.SimplexRows", spec := "simplexRows", unfollowed := true, recurses := true, plainKeys := false, apart := false }
def SimplexRowsSaid : Prop := simplexRowsRow.holds Tryz.pinned (OpenSpec.ofChange simplexRowsSpec)

/-- ITS FALSE NEIGHBOUR: 'it returns false'. Refute it at one input. -/
def simplexRowsWrong : ChangeSpec := { name := "simplexRows", fn := fun _ => fun
  | [d1, d2] => { results := [.lit (.bool false)], args := [d1, d2] }
  | _ => none }
def SimplexRowsWrongFalsely : Prop := simplexRowsRow.holds Tryz.pinned (OpenSpec.ofChange simplexRowsWrong)

/-- 'exoduslaw05.SimplexScales': WHATEVER THE INPUT: true; the input reads as it did. -/
def simplexScalesSpec : ChangeSpec := { name := "simplexScales", fn := fun _ => fun
  | [d1, d2] => { results := [.lit (.bool true)], args := [d1, d2] }
  | _ => none }
def simplexScalesRow : OpenClaim := { program := "ytbgienfcmdgaaaagreat", sum := "773160cfdfd6edeed75edbc588f688a7ab5bdb5970b835a4951b0121f43f3cd5", func := "exodus/exoduslaw05.SimplexScales", spec := "simplexScales", unfollowed := true, recurses := true, plainKeys := false, apart := false }
def SimplexScalesSaid : Prop := simplexScalesRow.holds Tryz.pinned (OpenSpec.ofChange simplexScalesSpec)

/-- ITS FALSE NEIGHBOUR: 'it returns false'. Refute it at one input. -/
def simplexScalesWrong : ChangeSpec := { name := "simplexScales", fn := fun _ => fun
  | [d1, d2] => { results := [.lit (.bool false)], args := [d1, d2] }
  | _ => none }
def SimplexScalesWrongFalsely : Prop := simplexScalesRow.holds Tryz.pinned (OpenSpec.ofChange simplexScalesWrong)

/-- 'exoduslaw05.SimplexFeasible': WHATEVER THE INPUT: true; the input reads as it did. -/
def simplexFeasibleSpec : ChangeSpec := { name := "simplexFeasible", fn := fun _ => fun
  | [d] => { results := [.lit (.bool true)], args := [d] }
  | _ => none }
def simplexFeasibleRow : OpenClaim := { program := "ytbgienfcmdgaaaagreat", sum := "773160cfdfd6edeed75edbc588f688a7ab5bdb5970b835a4951b0121f43f3cd5", func := "exodus/exoduslaw05.SimplexFeasible", spec := "simplexFeasible", unfollowed := true, recurses := true, plainKeys := false, apart := false }
def SimplexFeasibleSaid : Prop := simplexFeasibleRow.holds Tryz.pinned (OpenSpec.ofChange simplexFeasibleSpec)

/-- ITS FALSE NEIGHBOUR: 'it returns false'. Refute it at one input. -/
def simplexFeasibleWrong : ChangeSpec := { name := "simplexFeasible", fn := fun _ => fun
  | [d] => { results := [.lit (.bool false)], args := [d] }
  | _ => none }
def SimplexFeasibleWrongFalsely : Prop := simplexFeasibleRow.holds Tryz.pinned (OpenSpec.ofChange simplexFeasibleWrong)

/- THE SECOND FORM. 'bulk': how many values and letters a reading holds, each counted each time it is reached (what is shared counts as often as it is met; a slice's spare places count too). A statement '..UptoSaid' is the law's where the arguments, and the package variables that the reading takes, are together of bulk at most 1048576: NARROWER than '..Said'. Prove '..Said' where nothing that the law and all that it calls make is longer than what came in: it says more and counts as full. Else prove '..UptoSaid'. A law counts once. -/
mutual
def uptoBulk {H : Type} : DataW H → Nat
  | .lit (.string bytes) => bytes.length + 1
  | .lit _ => 1
  | .nil => 1
  | .ptr d => uptoBulk d + 1
  | .slice elems spare => uptoBulkAll elems + uptoBulkAll spare + 1
  | .agg parts => uptoBulkAll parts + 1
  | .iface _ d => uptoBulk d + 1
  | .map entries => uptoBulkEntries entries + 1
  | .held _ => 1
def uptoBulkAll {H : Type} : List (DataW H) → Nat
  | [] => 0
  | d :: r => uptoBulk d + uptoBulkAll r
def uptoBulkEntries {H : Type} : List (Lit × DataW H) → Nat
  | [] => 0
  | x :: r => uptoBulkEntry x + uptoBulkEntries r
def uptoBulkEntry {H : Type} : Lit × DataW H → Nat
  | (.string bytes, d) => bytes.length + uptoBulk d + 1
  | (_, d) => uptoBulk d + 1
 end
def uptoSmall : (H : Type) → List (DataW H) → Bool := fun _ ds => decide (uptoBulkAll ds ≤ 1048576)
def OpenSpec.upto (s : _root_.Go.ChangeSpec) : _root_.Go.OpenSpec := { _root_.Go.OpenSpec.ofChange s with cond := some uptoSmall }

/-- 'exoduslaw06.DualityChecks', WHERE WHAT IT READS IS OF BULK AT MOST 1048576: true; the input reads as it did. -/
def dualityChecksUptoRow : OpenClaim := { program := "ytbgienfcmdgaaaagreat", sum := "773160cfdfd6edeed75edbc588f688a7ab5bdb5970b835a4951b0121f43f3cd5", func := "exodus/exoduslaw06.DualityChecks", spec := "dualityChecks", unfollowed := true, recurses := true, plainKeys := false, apart := false, narrowed := true }
def DualityChecksUptoSaid : Prop := dualityChecksUptoRow.holds Tryz.pinned (OpenSpec.upto dualityChecksSpec)

/-- 'exoduslaw06.DualityBounds', WHERE WHAT IT READS IS OF BULK AT MOST 1048576: true; the input reads as it did. -/
def dualityBoundsUptoRow : OpenClaim := { program := "ytbgienfcmdgaaaagreat", sum := "773160cfdfd6edeed75edbc588f688a7ab5bdb5970b835a4951b0121f43f3cd5", func := "exodus/exoduslaw06.DualityBounds", spec := "dualityBounds", unfollowed := true, recurses := true, plainKeys := false, apart := false, narrowed := true }
def DualityBoundsUptoSaid : Prop := dualityBoundsUptoRow.holds Tryz.pinned (OpenSpec.upto dualityBoundsSpec)

/-- 'exoduslaw06.DualityRays', WHERE WHAT IT READS IS OF BULK AT MOST 1048576: true; the input reads as it did. -/
def dualityRaysUptoRow : OpenClaim := { program := "ytbgienfcmdgaaaagreat", sum := "773160cfdfd6edeed75edbc588f688a7ab5bdb5970b835a4951b0121f43f3cd5", func := "exodus/exoduslaw06.DualityRays", spec := "dualityRays", unfollowed := true, recurses := true, plainKeys := false, apart := false, narrowed := true }
def DualityRaysUptoSaid : Prop := dualityRaysUptoRow.holds Tryz.pinned (OpenSpec.upto dualityRaysSpec)

/-- 'exoduslaw06.DualityKinds', WHERE WHAT IT READS IS OF BULK AT MOST 1048576: true; the input reads as it did. -/
def dualityKindsUptoRow : OpenClaim := { program := "ytbgienfcmdgaaaagreat", sum := "773160cfdfd6edeed75edbc588f688a7ab5bdb5970b835a4951b0121f43f3cd5", func := "exodus/exoduslaw06.DualityKinds", spec := "dualityKinds", unfollowed := true, recurses := true, plainKeys := false, apart := false, narrowed := true }
def DualityKindsUptoSaid : Prop := dualityKindsUptoRow.holds Tryz.pinned (OpenSpec.upto dualityKindsSpec)

/-- 'exoduslaw06.DualityStays', WHERE WHAT IT READS IS OF BULK AT MOST 1048576: true; the input reads as it did. -/
def dualityStaysUptoRow : OpenClaim := { program := "ytbgienfcmdgaaaagreat", sum := "773160cfdfd6edeed75edbc588f688a7ab5bdb5970b835a4951b0121f43f3cd5", func := "exodus/exoduslaw06.DualityStays", spec := "dualityStays", unfollowed := true, recurses := true, plainKeys := false, apart := false, narrowed := true }
def DualityStaysUptoSaid : Prop := dualityStaysUptoRow.holds Tryz.pinned (OpenSpec.upto dualityStaysSpec)

/-- 'exoduslaw06.DualityAccepts', WHERE WHAT IT READS IS OF BULK AT MOST 1048576: true; the input reads as it did. -/
def dualityAcceptsUptoRow : OpenClaim := { program := "ytbgienfcmdgaaaagreat", sum := "773160cfdfd6edeed75edbc588f688a7ab5bdb5970b835a4951b0121f43f3cd5", func := "exodus/exoduslaw06.DualityAccepts", spec := "dualityAccepts", unfollowed := true, recurses := true, plainKeys := false, apart := false, narrowed := true }
def DualityAcceptsUptoSaid : Prop := dualityAcceptsUptoRow.holds Tryz.pinned (OpenSpec.upto dualityAcceptsSpec)

/-- 'exoduslaw05.SimplexProves', WHERE WHAT IT READS IS OF BULK AT MOST 1048576: true; the input reads as it did. -/
def simplexProvesUptoRow : OpenClaim := { program := "ytbgienfcmdgaaaagreat", sum := "773160cfdfd6edeed75edbc588f688a7ab5bdb5970b835a4951b0121f43f3cd5", func := "exodus/exoduslaw05.SimplexProves", spec := "simplexProves", unfollowed := true, recurses := true, plainKeys := false, apart := false, narrowed := true }
def SimplexProvesUptoSaid : Prop := simplexProvesUptoRow.holds Tryz.pinned (OpenSpec.upto simplexProvesSpec)

/-- 'exoduslaw05.SimplexVertices', WHERE WHAT IT READS IS OF BULK AT MOST 1048576: true; the input reads as it did. -/
def simplexVerticesUptoRow : OpenClaim := { program := "ytbgienfcmdgaaaagreat", sum := "773160cfdfd6edeed75edbc588f688a7ab5bdb5970b835a4951b0121f43f3cd5", func := "exodus/exoduslaw05.SimplexVertices", spec := "simplexVertices", unfollowed := true, recurses := true, plainKeys := false, apart := false, narrowed := true }
def SimplexVerticesUptoSaid : Prop := simplexVerticesUptoRow.holds Tryz.pinned (OpenSpec.upto simplexVerticesSpec)

/-- 'exoduslaw05.SimplexLeast', WHERE WHAT IT READS IS OF BULK AT MOST 1048576: true; the input reads as it did. -/
def simplexLeastUptoRow : OpenClaim := { program := "ytbgienfcmdgaaaagreat", sum := "773160cfdfd6edeed75edbc588f688a7ab5bdb5970b835a4951b0121f43f3cd5", func := "exodus/exoduslaw05.SimplexLeast", spec := "simplexLeast", unfollowed := true, recurses := true, plainKeys := false, apart := false, narrowed := true }
def SimplexLeastUptoSaid : Prop := simplexLeastUptoRow.holds Tryz.pinned (OpenSpec.upto simplexLeastSpec)

/-- 'exoduslaw05.SimplexOrder', WHERE WHAT IT READS IS OF BULK AT MOST 1048576: true; the input reads as it did. -/
def simplexOrderUptoRow : OpenClaim := { program := "ytbgienfcmdgaaaagreat", sum := "773160cfdfd6edeed75edbc588f688a7ab5bdb5970b835a4951b0121f43f3cd5", func := "exodus/exoduslaw05.SimplexOrder", spec := "simplexOrder", unfollowed := true, recurses := true, plainKeys := false, apart := false, narrowed := true }
def SimplexOrderUptoSaid : Prop := simplexOrderUptoRow.holds Tryz.pinned (OpenSpec.upto simplexOrderSpec)

/-- 'exoduslaw05.SimplexRows', WHERE WHAT IT READS IS OF BULK AT MOST 1048576: true; the input reads as it did. -/
def simplexRowsUptoRow : OpenClaim := { program := "ytbgienfcmdgaaaagreat", sum := "773160cfdfd6edeed75edbc588f688a7ab5bdb5970b835a4951b0121f43f3cd5", func := "exodus/exoduslaw05.SimplexRows", spec := "simplexRows", unfollowed := true, recurses := true, plainKeys := false, apart := false, narrowed := true }
def SimplexRowsUptoSaid : Prop := simplexRowsUptoRow.holds Tryz.pinned (OpenSpec.upto simplexRowsSpec)

/-- 'exoduslaw05.SimplexScales', WHERE WHAT IT READS IS OF BULK AT MOST 1048576: true; the input reads as it did. -/
def simplexScalesUptoRow : OpenClaim := { program := "ytbgienfcmdgaaaagreat", sum := "773160cfdfd6edeed75edbc588f688a7ab5bdb5970b835a4951b0121f43f3cd5", func := "exodus/exoduslaw05.SimplexScales", spec := "simplexScales", unfollowed := true, recurses := true, plainKeys := false, apart := false, narrowed := true }
def SimplexScalesUptoSaid : Prop := simplexScalesUptoRow.holds Tryz.pinned (OpenSpec.upto simplexScalesSpec)

/-- 'exoduslaw05.SimplexFeasible', WHERE WHAT IT READS IS OF BULK AT MOST 1048576: true; the input reads as it did. -/
def simplexFeasibleUptoRow : OpenClaim := { program := "ytbgienfcmdgaaaagreat", sum := "773160cfdfd6edeed75edbc588f688a7ab5bdb5970b835a4951b0121f43f3cd5", func := "exodus/exoduslaw05.SimplexFeasible", spec := "simplexFeasible", unfollowed := true, recurses := true, plainKeys := false, apart := false, narrowed := true }
def SimplexFeasibleUptoSaid : Prop := simplexFeasibleUptoRow.holds Tryz.pinned (OpenSpec.upto simplexFeasibleSpec)

end Rows
end Go.Proofs.YtbgienfcmdgaaaaGreat
