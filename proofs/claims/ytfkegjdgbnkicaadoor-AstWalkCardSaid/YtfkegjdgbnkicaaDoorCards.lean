/-
  DERIVED. GIVEN WITH THE SEED: THE CARDS: each row of YtfkegjdgbnkicaaDoorRows.lean that lists a variable, with what it lists TIED to the program's text (the seventh form; the later family's looks); each row that meets fmt, with fmt's text TOLD by the authors' own Lean function (tested against real Go, not proved from fmt's source: count such statements apart). THE CARD IS WHAT COUNTS. Prove the row's statement (the work); the ties are given (YtfkegjdgbnkicaaDoorTie.lean); close each card by the builder's one call (the guide's Derived/Test/ToyasCard.lean, 'card_holds'). Laid BY PROGRAM, IN A SANDBOX (cutbox-door.mjs). By AI agents, Wed Nov 11 2026. No macro, syntax, notation, axiom, sorry.
-/
import Derived.Test.YtfkegjdgbnkicaaDoorRows
import GoSem.ClaimSeven
namespace Go.Proofs.YtfkegjdgbnkicaaDoor
namespace Rows

/-- THE TIED CARD OF 'ontimelaw12.AstKinds'. -/
def astKindsCard : Claim7 := { stood := { row := astKindsRow, standIns := [], harness := (true, "08997f70ec4276f544d135748b33e6f5a20562892d97bddea2e110384309ea17"), looks := false }, kinds := [], alts := [], laidByText := true, laidKinds := [.data], laidTests := true, laidLooks := .later }
def AstKindsCardSaid : Prop := Claim7.holds Tryd.pinned (.plain (OpenSpec.ofChange astKindsSpec)) astKindsCard

/-- THE TIED CARD OF 'ontimelaw12.AstMeasures'. -/
def astMeasuresCard : Claim7 := { stood := { row := astMeasuresRow, standIns := [], harness := (true, "08997f70ec4276f544d135748b33e6f5a20562892d97bddea2e110384309ea17"), looks := false }, kinds := [], alts := [], laidByText := true, laidKinds := [.data], laidTests := true, laidLooks := .later }
def AstMeasuresCardSaid : Prop := Claim7.holds Tryd.pinned (.plain (OpenSpec.ofChange astMeasuresSpec)) astMeasuresCard

/-- THE TIED CARD OF 'ontimelaw12.AstWalk'. -/
def astWalkCard : Claim7 := { stood := { row := astWalkRow, standIns := [], harness := (true, "08997f70ec4276f544d135748b33e6f5a20562892d97bddea2e110384309ea17"), looks := false }, kinds := [], alts := [], laidByText := true, laidKinds := [.data], laidTests := true, laidLooks := .later }
def AstWalkCardSaid : Prop := Claim7.holds Tryd.pinned (.plain (OpenSpec.ofChange astWalkSpec)) astWalkCard

/-- THE TIED CARD OF 'ontimelaw12.AstParts'. -/
def astPartsCard : Claim7 := { stood := { row := astPartsRow, standIns := [], harness := (true, "08997f70ec4276f544d135748b33e6f5a20562892d97bddea2e110384309ea17"), looks := false }, kinds := [], alts := [], laidByText := true, laidKinds := [.data], laidTests := true, laidLooks := .later }
def AstPartsCardSaid : Prop := Claim7.holds Tryd.pinned (.plain (OpenSpec.ofChange astPartsSpec)) astPartsCard

/-- THE TIED CARD OF 'ontimelaw12.AstAt'. -/
def astAtCard : Claim7 := { stood := { row := astAtRow, standIns := [], harness := (true, "08997f70ec4276f544d135748b33e6f5a20562892d97bddea2e110384309ea17"), looks := false }, kinds := [], alts := [], laidByText := true, laidKinds := [.data], laidTests := true, laidLooks := .later }
def AstAtCardSaid : Prop := Claim7.holds Tryd.pinned (.plain (OpenSpec.ofChange astAtSpec)) astAtCard

/-- THE TIED CARD OF 'ontimelaw12.AstEqual'. -/
def astEqualCard : Claim7 := { stood := { row := astEqualRow, standIns := [], harness := (true, "08997f70ec4276f544d135748b33e6f5a20562892d97bddea2e110384309ea17"), looks := false }, kinds := [], alts := [], laidByText := true, laidKinds := [.data], laidTests := true, laidLooks := .later }
def AstEqualCardSaid : Prop := Claim7.holds Tryd.pinned (.plain (OpenSpec.ofChange astEqualSpec)) astEqualCard

/-- THE TIED CARD OF 'ontimelaw12.AstClone'. -/
def astCloneCard : Claim7 := { stood := { row := astCloneRow, standIns := [], harness := (true, "08997f70ec4276f544d135748b33e6f5a20562892d97bddea2e110384309ea17"), looks := false }, kinds := [], alts := [], laidByText := true, laidKinds := [.data], laidTests := true, laidLooks := .later }
def AstCloneCardSaid : Prop := Claim7.holds Tryd.pinned (.plain (OpenSpec.ofChange astCloneSpec)) astCloneCard

/-- THE TIED CARD OF 'ontimelaw12.AstCounts'. -/
def astCountsCard : Claim7 := { stood := { row := astCountsRow, standIns := [], harness := (true, "08997f70ec4276f544d135748b33e6f5a20562892d97bddea2e110384309ea17"), looks := false }, kinds := [], alts := [], laidByText := true, laidKinds := [.data], laidTests := true, laidLooks := .later }
def AstCountsCardSaid : Prop := Claim7.holds Tryd.pinned (.plain (OpenSpec.ofChange astCountsSpec)) astCountsCard

/-- THE TIED CARD OF 'ontimelaw12.AstValid'. -/
def astValidCard : Claim7 := { stood := { row := astValidRow, standIns := [], harness := (true, "08997f70ec4276f544d135748b33e6f5a20562892d97bddea2e110384309ea17"), looks := false }, kinds := [], alts := [], laidByText := true, laidKinds := [.data], laidTests := true, laidLooks := .later }
def AstValidCardSaid : Prop := Claim7.holds Tryd.pinned (.plain (OpenSpec.ofChange astValidSpec)) astValidCard

/-- THE SECOND FORM's CARD OF 'ontimelaw12.AstKinds'. -/
def astKindsUptoCard : Claim7 := { stood := { row := astKindsUptoRow, standIns := [], harness := (true, "08997f70ec4276f544d135748b33e6f5a20562892d97bddea2e110384309ea17"), looks := false }, kinds := [], alts := [], laidByText := true, laidKinds := [.data], laidTests := true, laidLooks := .later }
def AstKindsUptoCardSaid : Prop := Claim7.holds Tryd.pinned (.plain (OpenSpec.upto astKindsSpec)) astKindsUptoCard

/-- THE SECOND FORM's CARD OF 'ontimelaw12.AstMeasures'. -/
def astMeasuresUptoCard : Claim7 := { stood := { row := astMeasuresUptoRow, standIns := [], harness := (true, "08997f70ec4276f544d135748b33e6f5a20562892d97bddea2e110384309ea17"), looks := false }, kinds := [], alts := [], laidByText := true, laidKinds := [.data], laidTests := true, laidLooks := .later }
def AstMeasuresUptoCardSaid : Prop := Claim7.holds Tryd.pinned (.plain (OpenSpec.upto astMeasuresSpec)) astMeasuresUptoCard

/-- THE SECOND FORM's CARD OF 'ontimelaw12.AstWalk'. -/
def astWalkUptoCard : Claim7 := { stood := { row := astWalkUptoRow, standIns := [], harness := (true, "08997f70ec4276f544d135748b33e6f5a20562892d97bddea2e110384309ea17"), looks := false }, kinds := [], alts := [], laidByText := true, laidKinds := [.data], laidTests := true, laidLooks := .later }
def AstWalkUptoCardSaid : Prop := Claim7.holds Tryd.pinned (.plain (OpenSpec.upto astWalkSpec)) astWalkUptoCard

/-- THE SECOND FORM's CARD OF 'ontimelaw12.AstParts'. -/
def astPartsUptoCard : Claim7 := { stood := { row := astPartsUptoRow, standIns := [], harness := (true, "08997f70ec4276f544d135748b33e6f5a20562892d97bddea2e110384309ea17"), looks := false }, kinds := [], alts := [], laidByText := true, laidKinds := [.data], laidTests := true, laidLooks := .later }
def AstPartsUptoCardSaid : Prop := Claim7.holds Tryd.pinned (.plain (OpenSpec.upto astPartsSpec)) astPartsUptoCard

/-- THE SECOND FORM's CARD OF 'ontimelaw12.AstAt'. -/
def astAtUptoCard : Claim7 := { stood := { row := astAtUptoRow, standIns := [], harness := (true, "08997f70ec4276f544d135748b33e6f5a20562892d97bddea2e110384309ea17"), looks := false }, kinds := [], alts := [], laidByText := true, laidKinds := [.data], laidTests := true, laidLooks := .later }
def AstAtUptoCardSaid : Prop := Claim7.holds Tryd.pinned (.plain (OpenSpec.upto astAtSpec)) astAtUptoCard

/-- THE SECOND FORM's CARD OF 'ontimelaw12.AstEqual'. -/
def astEqualUptoCard : Claim7 := { stood := { row := astEqualUptoRow, standIns := [], harness := (true, "08997f70ec4276f544d135748b33e6f5a20562892d97bddea2e110384309ea17"), looks := false }, kinds := [], alts := [], laidByText := true, laidKinds := [.data], laidTests := true, laidLooks := .later }
def AstEqualUptoCardSaid : Prop := Claim7.holds Tryd.pinned (.plain (OpenSpec.upto astEqualSpec)) astEqualUptoCard

/-- THE SECOND FORM's CARD OF 'ontimelaw12.AstClone'. -/
def astCloneUptoCard : Claim7 := { stood := { row := astCloneUptoRow, standIns := [], harness := (true, "08997f70ec4276f544d135748b33e6f5a20562892d97bddea2e110384309ea17"), looks := false }, kinds := [], alts := [], laidByText := true, laidKinds := [.data], laidTests := true, laidLooks := .later }
def AstCloneUptoCardSaid : Prop := Claim7.holds Tryd.pinned (.plain (OpenSpec.upto astCloneSpec)) astCloneUptoCard

/-- THE SECOND FORM's CARD OF 'ontimelaw12.AstCounts'. -/
def astCountsUptoCard : Claim7 := { stood := { row := astCountsUptoRow, standIns := [], harness := (true, "08997f70ec4276f544d135748b33e6f5a20562892d97bddea2e110384309ea17"), looks := false }, kinds := [], alts := [], laidByText := true, laidKinds := [.data], laidTests := true, laidLooks := .later }
def AstCountsUptoCardSaid : Prop := Claim7.holds Tryd.pinned (.plain (OpenSpec.upto astCountsSpec)) astCountsUptoCard

/-- THE SECOND FORM's CARD OF 'ontimelaw12.AstValid'. -/
def astValidUptoCard : Claim7 := { stood := { row := astValidUptoRow, standIns := [], harness := (true, "08997f70ec4276f544d135748b33e6f5a20562892d97bddea2e110384309ea17"), looks := false }, kinds := [], alts := [], laidByText := true, laidKinds := [.data], laidTests := true, laidLooks := .later }
def AstValidUptoCardSaid : Prop := Claim7.holds Tryd.pinned (.plain (OpenSpec.upto astValidSpec)) astValidUptoCard
end Rows
end Go.Proofs.YtfkegjdgbnkicaaDoor
