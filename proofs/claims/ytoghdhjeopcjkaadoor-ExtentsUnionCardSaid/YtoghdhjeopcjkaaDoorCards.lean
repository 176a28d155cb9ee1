/-
  DERIVED. GIVEN WITH THE SEED: THE CARDS: each row of YtoghdhjeopcjkaaDoorRows.lean that lists a variable, with what it lists TIED to the program's text (the seventh form; the later family's looks); each row that meets fmt, with fmt's text TOLD by the authors' own Lean function (tested against real Go, not proved from fmt's source: count such statements apart). THE CARD IS WHAT COUNTS. Prove the row's statement (the work); the ties are given (YtoghdhjeopcjkaaDoorTie.lean); close each card by the builder's one call (the guide's Derived/Test/ToyasCard.lean, 'card_holds'). Laid BY PROGRAM, IN A SANDBOX (cutbox-door.mjs). By AI agents, Wed Nov 11 2026. No macro, syntax, notation, axiom, sorry.
-/
import Derived.Test.YtoghdhjeopcjkaaDoorRows
import GoSem.ClaimSeven
namespace Go.Proofs.YtoghdhjeopcjkaaDoor
namespace Rows

/-- THE TIED CARD OF 'furrowlaw05.ExtentsMarks'. -/
def extentsMarksCard : Claim7 := { stood := { row := extentsMarksRow, standIns := [], harness := (true, "49ba8d3d11c3bc7d1b0fd84af0567d51d3478263a4c863fef4a9c6f8a6a6cd1c"), looks := false }, kinds := [], alts := [], laidByText := true, laidKinds := [.data], laidTests := true, laidLooks := .later }
def ExtentsMarksCardSaid : Prop := Claim7.holds Tryd.pinned (.plain (OpenSpec.ofChange extentsMarksSpec)) extentsMarksCard

/-- THE TIED CARD OF 'furrowlaw05.ExtentsUnion'. -/
def extentsUnionCard : Claim7 := { stood := { row := extentsUnionRow, standIns := [], harness := (true, "49ba8d3d11c3bc7d1b0fd84af0567d51d3478263a4c863fef4a9c6f8a6a6cd1c"), looks := false }, kinds := [], alts := [], laidByText := true, laidKinds := [.data], laidTests := true, laidLooks := .later }
def ExtentsUnionCardSaid : Prop := Claim7.holds Tryd.pinned (.plain (OpenSpec.ofChange extentsUnionSpec)) extentsUnionCard

/-- THE SECOND FORM's CARD OF 'furrowlaw05.ExtentsMarks'. -/
def extentsMarksUptoCard : Claim7 := { stood := { row := extentsMarksUptoRow, standIns := [], harness := (true, "49ba8d3d11c3bc7d1b0fd84af0567d51d3478263a4c863fef4a9c6f8a6a6cd1c"), looks := false }, kinds := [], alts := [], laidByText := true, laidKinds := [.data], laidTests := true, laidLooks := .later }
def ExtentsMarksUptoCardSaid : Prop := Claim7.holds Tryd.pinned (.plain (OpenSpec.upto extentsMarksSpec)) extentsMarksUptoCard

/-- THE SECOND FORM's CARD OF 'furrowlaw05.ExtentsUnion'. -/
def extentsUnionUptoCard : Claim7 := { stood := { row := extentsUnionUptoRow, standIns := [], harness := (true, "49ba8d3d11c3bc7d1b0fd84af0567d51d3478263a4c863fef4a9c6f8a6a6cd1c"), looks := false }, kinds := [], alts := [], laidByText := true, laidKinds := [.data], laidTests := true, laidLooks := .later }
def ExtentsUnionUptoCardSaid : Prop := Claim7.holds Tryd.pinned (.plain (OpenSpec.upto extentsUnionSpec)) extentsUnionUptoCard
end Rows
end Go.Proofs.YtoghdhjeopcjkaaDoor
