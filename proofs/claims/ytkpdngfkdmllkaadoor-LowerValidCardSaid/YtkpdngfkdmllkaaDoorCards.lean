/-
  DERIVED. GIVEN WITH THE SEED: THE CARDS: each row of YtkpdngfkdmllkaaDoorRows.lean that lists a variable, with what it lists TIED to the program's text (the seventh form; the later family's looks); each row that meets fmt, with fmt's text TOLD by the authors' own Lean function (tested against real Go, not proved from fmt's source: count such statements apart). THE CARD IS WHAT COUNTS. Prove the row's statement (the work); the ties are given (YtkpdngfkdmllkaaDoorTie.lean); close each card by the builder's one call (the guide's Derived/Test/ToyasCard.lean, 'card_holds'). Laid BY PROGRAM, IN A SANDBOX (cutbox-door.mjs). By AI agents, Wed Nov 11 2026. No macro, syntax, notation, axiom, sorry.
-/
import Derived.Test.YtkpdngfkdmllkaaDoorRows
import GoSem.ClaimSeven
namespace Go.Proofs.YtkpdngfkdmllkaaDoor
namespace Rows

/-- THE TIED CARD OF 'ontimelaw18.LowerValid'. -/
def lowerValidCard : Claim7 := { stood := { row := lowerValidRow, standIns := [], harness := (true, "f25ad31a685a182d27be734a3f320c9529517f83f0e45d9f50ebca3f53f123f6"), looks := true }, kinds := [], alts := [], laidByText := true, laidKinds := [.data], laidTests := true, laidLooks := .later }
def LowerValidCardSaid : Prop := Claim7.holds Tryd.pinned (.plain (OpenSpec.ofChange lowerValidSpec)) lowerValidCard

/-- THE TIED CARD OF 'ontimelaw18.LowerLoops'. -/
def lowerLoopsCard : Claim7 := { stood := { row := lowerLoopsRow, standIns := [], harness := (true, "f25ad31a685a182d27be734a3f320c9529517f83f0e45d9f50ebca3f53f123f6"), looks := true }, kinds := [], alts := [], laidByText := true, laidKinds := [.data], laidTests := true, laidLooks := .later }
def LowerLoopsCardSaid : Prop := Claim7.holds Tryd.pinned (.plain (OpenSpec.ofChange lowerLoopsSpec)) lowerLoopsCard

/-- THE TIED CARD OF 'ontimelaw18.LowerLocks'. -/
def lowerLocksCard : Claim7 := { stood := { row := lowerLocksRow, standIns := [], harness := (true, "f25ad31a685a182d27be734a3f320c9529517f83f0e45d9f50ebca3f53f123f6"), looks := true }, kinds := [], alts := [], laidByText := true, laidKinds := [.data], laidTests := true, laidLooks := .later }
def LowerLocksCardSaid : Prop := Claim7.holds Tryd.pinned (.plain (OpenSpec.ofChange lowerLocksSpec)) lowerLocksCard

/-- THE TIED CARD OF 'ontimelaw18.LowerAlone'. -/
def lowerAloneCard : Claim7 := { stood := { row := lowerAloneRow, standIns := [], harness := (true, "f25ad31a685a182d27be734a3f320c9529517f83f0e45d9f50ebca3f53f123f6"), looks := true }, kinds := [], alts := [], laidByText := true, laidKinds := [.data], laidTests := true, laidLooks := .later }
def LowerAloneCardSaid : Prop := Claim7.holds Tryd.pinned (.plain (OpenSpec.ofChange lowerAloneSpec)) lowerAloneCard

/-- THE TIED CARD OF 'ontimelaw18.LowerErrors'. -/
def lowerErrorsCard : Claim7 := { stood := { row := lowerErrorsRow, standIns := [], harness := (true, "f25ad31a685a182d27be734a3f320c9529517f83f0e45d9f50ebca3f53f123f6"), looks := true }, kinds := [], alts := [], laidByText := true, laidKinds := [.data], laidTests := true, laidLooks := .later }
def LowerErrorsCardSaid : Prop := Claim7.holds Tryd.pinned (.plain (OpenSpec.ofChange lowerErrorsSpec)) lowerErrorsCard

/-- THE SECOND FORM's CARD OF 'ontimelaw18.LowerValid'. -/
def lowerValidUptoCard : Claim7 := { stood := { row := lowerValidUptoRow, standIns := [], harness := (true, "f25ad31a685a182d27be734a3f320c9529517f83f0e45d9f50ebca3f53f123f6"), looks := true }, kinds := [], alts := [], laidByText := true, laidKinds := [.data], laidTests := true, laidLooks := .later }
def LowerValidUptoCardSaid : Prop := Claim7.holds Tryd.pinned (.plain (OpenSpec.upto lowerValidSpec)) lowerValidUptoCard

/-- THE SECOND FORM's CARD OF 'ontimelaw18.LowerLoops'. -/
def lowerLoopsUptoCard : Claim7 := { stood := { row := lowerLoopsUptoRow, standIns := [], harness := (true, "f25ad31a685a182d27be734a3f320c9529517f83f0e45d9f50ebca3f53f123f6"), looks := true }, kinds := [], alts := [], laidByText := true, laidKinds := [.data], laidTests := true, laidLooks := .later }
def LowerLoopsUptoCardSaid : Prop := Claim7.holds Tryd.pinned (.plain (OpenSpec.upto lowerLoopsSpec)) lowerLoopsUptoCard

/-- THE SECOND FORM's CARD OF 'ontimelaw18.LowerLocks'. -/
def lowerLocksUptoCard : Claim7 := { stood := { row := lowerLocksUptoRow, standIns := [], harness := (true, "f25ad31a685a182d27be734a3f320c9529517f83f0e45d9f50ebca3f53f123f6"), looks := true }, kinds := [], alts := [], laidByText := true, laidKinds := [.data], laidTests := true, laidLooks := .later }
def LowerLocksUptoCardSaid : Prop := Claim7.holds Tryd.pinned (.plain (OpenSpec.upto lowerLocksSpec)) lowerLocksUptoCard

/-- THE SECOND FORM's CARD OF 'ontimelaw18.LowerAlone'. -/
def lowerAloneUptoCard : Claim7 := { stood := { row := lowerAloneUptoRow, standIns := [], harness := (true, "f25ad31a685a182d27be734a3f320c9529517f83f0e45d9f50ebca3f53f123f6"), looks := true }, kinds := [], alts := [], laidByText := true, laidKinds := [.data], laidTests := true, laidLooks := .later }
def LowerAloneUptoCardSaid : Prop := Claim7.holds Tryd.pinned (.plain (OpenSpec.upto lowerAloneSpec)) lowerAloneUptoCard

/-- THE SECOND FORM's CARD OF 'ontimelaw18.LowerErrors'. -/
def lowerErrorsUptoCard : Claim7 := { stood := { row := lowerErrorsUptoRow, standIns := [], harness := (true, "f25ad31a685a182d27be734a3f320c9529517f83f0e45d9f50ebca3f53f123f6"), looks := true }, kinds := [], alts := [], laidByText := true, laidKinds := [.data], laidTests := true, laidLooks := .later }
def LowerErrorsUptoCardSaid : Prop := Claim7.holds Tryd.pinned (.plain (OpenSpec.upto lowerErrorsSpec)) lowerErrorsUptoCard
end Rows
end Go.Proofs.YtkpdngfkdmllkaaDoor
