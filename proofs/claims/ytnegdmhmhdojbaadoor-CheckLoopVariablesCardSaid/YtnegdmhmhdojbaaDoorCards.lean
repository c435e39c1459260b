/-
  DERIVED. GIVEN WITH THE SEED: THE CARDS: each row of YtnegdmhmhdojbaaDoorRows.lean that lists a variable, with what it lists TIED to the program's text (the seventh form; the later family's looks); each row that meets fmt, with fmt's text TOLD by the authors' own Lean function (tested against real Go, not proved from fmt's source: count such statements apart). THE CARD IS WHAT COUNTS. Prove the row's statement (the work); the ties are given (YtnegdmhmhdojbaaDoorTie.lean); close each card by the builder's one call (the guide's Derived/Test/ToyasCard.lean, 'card_holds'). Laid BY PROGRAM, IN A SANDBOX (cutbox-door.mjs). By AI agents, Wed Nov 11 2026. No macro, syntax, notation, axiom, sorry.
-/
import Derived.Test.YtnegdmhmhdojbaaDoorRows
import GoSem.ClaimSeven
namespace Go.Proofs.YtnegdmhmhdojbaaDoor
namespace Rows

/-- THE TIED CARD OF 'ontimelaw15.CheckFaults'. -/
def checkFaultsCard : Claim7 := { stood := { row := checkFaultsRow, standIns := [], harness := (true, "7f538eb1e396cf2ae1c9c398b0770c9b643ddb434253b4624e69416c48d249ca"), looks := true }, kinds := [], alts := [], laidByText := true, laidKinds := [.data], laidTests := true, laidLooks := .later }
def CheckFaultsCardSaid : Prop := Claim7.holds Tryd.pinned (.plain (OpenSpec.ofChange checkFaultsSpec)) checkFaultsCard

/-- THE TIED CARD OF 'ontimelaw15.CheckTasks'. -/
def checkTasksCard : Claim7 := { stood := { row := checkTasksRow, standIns := [], harness := (true, "7f538eb1e396cf2ae1c9c398b0770c9b643ddb434253b4624e69416c48d249ca"), looks := true }, kinds := [], alts := [], laidByText := true, laidKinds := [.data], laidTests := true, laidLooks := .later }
def CheckTasksCardSaid : Prop := Claim7.holds Tryd.pinned (.plain (OpenSpec.ofChange checkTasksSpec)) checkTasksCard

/-- THE TIED CARD OF 'ontimelaw15.CheckTwice'. -/
def checkTwiceCard : Claim7 := { stood := { row := checkTwiceRow, standIns := [], harness := (true, "7f538eb1e396cf2ae1c9c398b0770c9b643ddb434253b4624e69416c48d249ca"), looks := true }, kinds := [], alts := [], laidByText := true, laidKinds := [.data], laidTests := true, laidLooks := .later }
def CheckTwiceCardSaid : Prop := Claim7.holds Tryd.pinned (.plain (OpenSpec.ofChange checkTwiceSpec)) checkTwiceCard

/-- THE TIED CARD OF 'ontimelaw15.CheckObjects'. -/
def checkObjectsCard : Claim7 := { stood := { row := checkObjectsRow, standIns := [], harness := (true, "7f538eb1e396cf2ae1c9c398b0770c9b643ddb434253b4624e69416c48d249ca"), looks := true }, kinds := [], alts := [], laidByText := true, laidKinds := [.data], laidTests := true, laidLooks := .later }
def CheckObjectsCardSaid : Prop := Claim7.holds Tryd.pinned (.plain (OpenSpec.ofChange checkObjectsSpec)) checkObjectsCard

/-- THE TIED CARD OF 'ontimelaw15.CheckUndeclared'. -/
def checkUndeclaredCard : Claim7 := { stood := { row := checkUndeclaredRow, standIns := [], harness := (true, "7f538eb1e396cf2ae1c9c398b0770c9b643ddb434253b4624e69416c48d249ca"), looks := true }, kinds := [], alts := [], laidByText := true, laidKinds := [.data], laidTests := true, laidLooks := .later }
def CheckUndeclaredCardSaid : Prop := Claim7.holds Tryd.pinned (.plain (OpenSpec.ofChange checkUndeclaredSpec)) checkUndeclaredCard

/-- THE TIED CARD OF 'ontimelaw15.CheckUnlocked'. -/
def checkUnlockedCard : Claim7 := { stood := { row := checkUnlockedRow, standIns := [], harness := (true, "7f538eb1e396cf2ae1c9c398b0770c9b643ddb434253b4624e69416c48d249ca"), looks := true }, kinds := [], alts := [], laidByText := true, laidKinds := [.data], laidTests := true, laidLooks := .later }
def CheckUnlockedCardSaid : Prop := Claim7.holds Tryd.pinned (.plain (OpenSpec.ofChange checkUnlockedSpec)) checkUnlockedCard

/-- THE TIED CARD OF 'ontimelaw15.CheckNested'. -/
def checkNestedCard : Claim7 := { stood := { row := checkNestedRow, standIns := [], harness := (true, "7f538eb1e396cf2ae1c9c398b0770c9b643ddb434253b4624e69416c48d249ca"), looks := true }, kinds := [], alts := [], laidByText := true, laidKinds := [.data], laidTests := true, laidLooks := .later }
def CheckNestedCardSaid : Prop := Claim7.holds Tryd.pinned (.plain (OpenSpec.ofChange checkNestedSpec)) checkNestedCard

/-- THE TIED CARD OF 'ontimelaw15.CheckLoopVariables'. -/
def checkLoopVariablesCard : Claim7 := { stood := { row := checkLoopVariablesRow, standIns := [], harness := (true, "7f538eb1e396cf2ae1c9c398b0770c9b643ddb434253b4624e69416c48d249ca"), looks := true }, kinds := [], alts := [], laidByText := true, laidKinds := [.data], laidTests := true, laidLooks := .later }
def CheckLoopVariablesCardSaid : Prop := Claim7.holds Tryd.pinned (.plain (OpenSpec.ofChange checkLoopVariablesSpec)) checkLoopVariablesCard

/-- THE TIED CARD OF 'ontimelaw15.CheckRenames'. -/
def checkRenamesCard : Claim7 := { stood := { row := checkRenamesRow, standIns := [], harness := (true, "7f538eb1e396cf2ae1c9c398b0770c9b643ddb434253b4624e69416c48d249ca"), looks := true }, kinds := [], alts := [], laidByText := true, laidKinds := [.data], laidTests := true, laidLooks := .later }
def CheckRenamesCardSaid : Prop := Claim7.holds Tryd.pinned (.plain (OpenSpec.ofChange checkRenamesSpec)) checkRenamesCard

/-- THE SECOND FORM's CARD OF 'ontimelaw15.CheckFaults'. -/
def checkFaultsUptoCard : Claim7 := { stood := { row := checkFaultsUptoRow, standIns := [], harness := (true, "7f538eb1e396cf2ae1c9c398b0770c9b643ddb434253b4624e69416c48d249ca"), looks := true }, kinds := [], alts := [], laidByText := true, laidKinds := [.data], laidTests := true, laidLooks := .later }
def CheckFaultsUptoCardSaid : Prop := Claim7.holds Tryd.pinned (.plain (OpenSpec.upto checkFaultsSpec)) checkFaultsUptoCard

/-- THE SECOND FORM's CARD OF 'ontimelaw15.CheckTasks'. -/
def checkTasksUptoCard : Claim7 := { stood := { row := checkTasksUptoRow, standIns := [], harness := (true, "7f538eb1e396cf2ae1c9c398b0770c9b643ddb434253b4624e69416c48d249ca"), looks := true }, kinds := [], alts := [], laidByText := true, laidKinds := [.data], laidTests := true, laidLooks := .later }
def CheckTasksUptoCardSaid : Prop := Claim7.holds Tryd.pinned (.plain (OpenSpec.upto checkTasksSpec)) checkTasksUptoCard

/-- THE SECOND FORM's CARD OF 'ontimelaw15.CheckTwice'. -/
def checkTwiceUptoCard : Claim7 := { stood := { row := checkTwiceUptoRow, standIns := [], harness := (true, "7f538eb1e396cf2ae1c9c398b0770c9b643ddb434253b4624e69416c48d249ca"), looks := true }, kinds := [], alts := [], laidByText := true, laidKinds := [.data], laidTests := true, laidLooks := .later }
def CheckTwiceUptoCardSaid : Prop := Claim7.holds Tryd.pinned (.plain (OpenSpec.upto checkTwiceSpec)) checkTwiceUptoCard

/-- THE SECOND FORM's CARD OF 'ontimelaw15.CheckObjects'. -/
def checkObjectsUptoCard : Claim7 := { stood := { row := checkObjectsUptoRow, standIns := [], harness := (true, "7f538eb1e396cf2ae1c9c398b0770c9b643ddb434253b4624e69416c48d249ca"), looks := true }, kinds := [], alts := [], laidByText := true, laidKinds := [.data], laidTests := true, laidLooks := .later }
def CheckObjectsUptoCardSaid : Prop := Claim7.holds Tryd.pinned (.plain (OpenSpec.upto checkObjectsSpec)) checkObjectsUptoCard

/-- THE SECOND FORM's CARD OF 'ontimelaw15.CheckUndeclared'. -/
def checkUndeclaredUptoCard : Claim7 := { stood := { row := checkUndeclaredUptoRow, standIns := [], harness := (true, "7f538eb1e396cf2ae1c9c398b0770c9b643ddb434253b4624e69416c48d249ca"), looks := true }, kinds := [], alts := [], laidByText := true, laidKinds := [.data], laidTests := true, laidLooks := .later }
def CheckUndeclaredUptoCardSaid : Prop := Claim7.holds Tryd.pinned (.plain (OpenSpec.upto checkUndeclaredSpec)) checkUndeclaredUptoCard

/-- THE SECOND FORM's CARD OF 'ontimelaw15.CheckUnlocked'. -/
def checkUnlockedUptoCard : Claim7 := { stood := { row := checkUnlockedUptoRow, standIns := [], harness := (true, "7f538eb1e396cf2ae1c9c398b0770c9b643ddb434253b4624e69416c48d249ca"), looks := true }, kinds := [], alts := [], laidByText := true, laidKinds := [.data], laidTests := true, laidLooks := .later }
def CheckUnlockedUptoCardSaid : Prop := Claim7.holds Tryd.pinned (.plain (OpenSpec.upto checkUnlockedSpec)) checkUnlockedUptoCard

/-- THE SECOND FORM's CARD OF 'ontimelaw15.CheckNested'. -/
def checkNestedUptoCard : Claim7 := { stood := { row := checkNestedUptoRow, standIns := [], harness := (true, "7f538eb1e396cf2ae1c9c398b0770c9b643ddb434253b4624e69416c48d249ca"), looks := true }, kinds := [], alts := [], laidByText := true, laidKinds := [.data], laidTests := true, laidLooks := .later }
def CheckNestedUptoCardSaid : Prop := Claim7.holds Tryd.pinned (.plain (OpenSpec.upto checkNestedSpec)) checkNestedUptoCard

/-- THE SECOND FORM's CARD OF 'ontimelaw15.CheckLoopVariables'. -/
def checkLoopVariablesUptoCard : Claim7 := { stood := { row := checkLoopVariablesUptoRow, standIns := [], harness := (true, "7f538eb1e396cf2ae1c9c398b0770c9b643ddb434253b4624e69416c48d249ca"), looks := true }, kinds := [], alts := [], laidByText := true, laidKinds := [.data], laidTests := true, laidLooks := .later }
def CheckLoopVariablesUptoCardSaid : Prop := Claim7.holds Tryd.pinned (.plain (OpenSpec.upto checkLoopVariablesSpec)) checkLoopVariablesUptoCard

/-- THE SECOND FORM's CARD OF 'ontimelaw15.CheckRenames'. -/
def checkRenamesUptoCard : Claim7 := { stood := { row := checkRenamesUptoRow, standIns := [], harness := (true, "7f538eb1e396cf2ae1c9c398b0770c9b643ddb434253b4624e69416c48d249ca"), looks := true }, kinds := [], alts := [], laidByText := true, laidKinds := [.data], laidTests := true, laidLooks := .later }
def CheckRenamesUptoCardSaid : Prop := Claim7.holds Tryd.pinned (.plain (OpenSpec.upto checkRenamesSpec)) checkRenamesUptoCard
end Rows
end Go.Proofs.YtnegdmhmhdojbaaDoor
