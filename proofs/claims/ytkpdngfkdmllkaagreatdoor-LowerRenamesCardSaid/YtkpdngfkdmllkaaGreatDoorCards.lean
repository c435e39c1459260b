/-
  DERIVED. GIVEN WITH THE SEED: THE CARDS: each row of YtkpdngfkdmllkaaGreatDoorRows.lean that lists a variable, with what it lists TIED to the program's text (the seventh form; the later family's looks); each row that meets fmt, with fmt's text TOLD by the authors' own Lean function (tested against real Go, not proved from fmt's source: count such statements apart). THE CARD IS WHAT COUNTS. Prove the row's statement (the work); the ties are given (YtkpdngfkdmllkaaGreatDoorTie.lean); close each card by the builder's one call (the guide's Derived/Test/ToyasCard.lean, 'card_holds'). Laid BY PROGRAM, IN A SANDBOX (cutbox-door.mjs). By AI agents, Wed Nov 11 2026. No macro, syntax, notation, axiom, sorry.
-/
import Derived.Test.YtkpdngfkdmllkaaGreatDoorRows
import GoSem.ClaimSeven
namespace Go.Proofs.YtkpdngfkdmllkaaGreatDoor
namespace Rows

/-- THE TIED CARD OF 'ontimelaw18.LowerSame'. -/
def lowerSameCard : Claim7 := { stood := { row := lowerSameRow, standIns := [], harness := (true, "87f55660c848be230ee6fc52f2b0c4387c8f4c76a301c16d552ccc50d2a9c2e4"), looks := true }, kinds := [], alts := [], laidByText := true, laidKinds := [.data], laidTests := true, laidLooks := .later }
def LowerSameCardSaid : Prop := Claim7.holds Tryz.pinned (.plain (OpenSpec.ofChange lowerSameSpec)) lowerSameCard

/-- THE TIED CARD OF 'ontimelaw18.LowerRenames'. -/
def lowerRenamesCard : Claim7 := { stood := { row := lowerRenamesRow, standIns := [], harness := (true, "87f55660c848be230ee6fc52f2b0c4387c8f4c76a301c16d552ccc50d2a9c2e4"), looks := true }, kinds := [], alts := [], laidByText := true, laidKinds := [.data], laidTests := true, laidLooks := .later }
def LowerRenamesCardSaid : Prop := Claim7.holds Tryz.pinned (.plain (OpenSpec.ofChange lowerRenamesSpec)) lowerRenamesCard

/-- THE SECOND FORM's CARD OF 'ontimelaw18.LowerSame'. -/
def lowerSameUptoCard : Claim7 := { stood := { row := lowerSameUptoRow, standIns := [], harness := (true, "87f55660c848be230ee6fc52f2b0c4387c8f4c76a301c16d552ccc50d2a9c2e4"), looks := true }, kinds := [], alts := [], laidByText := true, laidKinds := [.data], laidTests := true, laidLooks := .later }
def LowerSameUptoCardSaid : Prop := Claim7.holds Tryz.pinned (.plain (OpenSpec.upto lowerSameSpec)) lowerSameUptoCard

/-- THE SECOND FORM's CARD OF 'ontimelaw18.LowerRenames'. -/
def lowerRenamesUptoCard : Claim7 := { stood := { row := lowerRenamesUptoRow, standIns := [], harness := (true, "87f55660c848be230ee6fc52f2b0c4387c8f4c76a301c16d552ccc50d2a9c2e4"), looks := true }, kinds := [], alts := [], laidByText := true, laidKinds := [.data], laidTests := true, laidLooks := .later }
def LowerRenamesUptoCardSaid : Prop := Claim7.holds Tryz.pinned (.plain (OpenSpec.upto lowerRenamesSpec)) lowerRenamesUptoCard
end Rows
end Go.Proofs.YtkpdngfkdmllkaaGreatDoor
