/-
  NARROWER THAN 'FOR EVERY INPUT', by the rows' own cells (each row's printed sentence says how): CheckFaults: loops, laid · CheckTasks: loops, laid · CheckTwice: loops, laid · CheckObjects: loops, laid · CheckUndeclared: loops, laid · CheckUnlocked: loops, laid · CheckNested: loops, laid · CheckLoopVariables: loops, laid · CheckRenames: loops, laid.
  DERIVED. THE GIVEN ROWS OF THIS SEAT. 9 by the template 'for every input the law returns true; each argument reads behind the call as it read before'; 0 by the template 'total and deterministic' (their statements: YtnegdmhmhdojbaaDoorTotals.lean).
  GIVEN WITH THE SEED: the statements are not yours to turn. If you find one false, say at which input.
  Laid BY PROGRAM, IN A SANDBOX (cutbox-rows.mjs): the forced cells as the released guide's own fill.sh prints them over the translation 941bb2c0707122d6… (all of the seat's roots in one cut). By AI agents, Wed Nov 11 2026. No macro, syntax, notation, axiom, sorry.
-/
import Derived.Test.YtnegdmhmhdojbaaDoorChecked
import GoSem.Claim
import GoSem.ClaimJoined
import GoSem.ClaimMapViews
import Derived.JoinedTies
import Derived.KernelRfl
namespace Go.Proofs.YtnegdmhmhdojbaaDoor
/- THE CELL 'sum', in the pinned program and in every row, IS THE sha256 OF THE DUMP (.gsa) THAT YtnegdmhmhdojbaaDoorProg.lean LOADS. Nothing in Lean hashes anything: it is a label: what it is worth is what the hold of that sum in a sandbox is worth. -/
noncomputable def Tryd.pinned : Pinned := { name := "ytnegdmhmhdojbaadoor", sum := "941bb2c0707122d637a2ff2c52f37c93b2dea55cbf508aa33297904509e6999f", checked := Tryd.checked }
namespace Rows
def none {H : Type} : Left H := { results := [], args := [] }

/- WHAT THE LISTED PACKAGE-LEVEL VARIABLES READ AS WHEN THE CALL BEGINS. Each datum BY PROGRAM (the guide's laid-datum.mjs) off the statement by which the dump's own 'gosem.cut.vars' lays the variable. In a bare row this is a premise. The card (YtnegdmhmhdojbaaDoorCards.lean) ties it to the program's text. -/
def laid_ontime_lexer_signs {H : Type} : DataW H := .agg [.lit (.string [60, 60]), .lit (.string [62, 62]), .lit (.string [60, 61]), .lit (.string [62, 61]), .lit (.string [61, 61]), .lit (.string [33, 61]), .lit (.string [38, 38]), .lit (.string [124, 124]), .lit (.string [43]), .lit (.string [45]), .lit (.string [42]), .lit (.string [47]), .lit (.string [37]), .lit (.string [38]), .lit (.string [124]), .lit (.string [94]), .lit (.string [60]), .lit (.string [62]), .lit (.string [33]), .lit (.string [61]), .lit (.string [91]), .lit (.string [93]), .lit (.string [123]), .lit (.string [125]), .lit (.string [40]), .lit (.string [41]), .lit (.string [59]), .lit (.string [44])]

/-- 'ontimelaw15.CheckFaults': WHATEVER THE INPUT: true; the input reads as it did. -/
def checkFaultsSpec : ChangeSpec := { name := "checkFaults", fn := fun _ => fun
  | [d] => { results := [.lit (.bool true)], args := [d] }
  | _ => none }
def checkFaultsRow : OpenClaim := { program := "ytnegdmhmhdojbaadoor", sum := "941bb2c0707122d637a2ff2c52f37c93b2dea55cbf508aa33297904509e6999f", func := "ontime/ontimelaw15.CheckFaults", spec := "checkFaults", inPlace := ["maps.clone"], unfollowed := true, recurses := true, named := ["ontime/lexer.signs"], loops := true, apart := false, laid := [("ontime/lexer.signs", laid_ontime_lexer_signs)] }
def CheckFaultsSaid : Prop := checkFaultsRow.holds Tryd.pinned (OpenSpec.ofChange checkFaultsSpec)

/-- ITS FALSE NEIGHBOUR: 'it returns false'. Refute it at one input. -/
def checkFaultsWrong : ChangeSpec := { name := "checkFaults", fn := fun _ => fun
  | [d] => { results := [.lit (.bool false)], args := [d] }
  | _ => none }
def CheckFaultsWrongFalsely : Prop := checkFaultsRow.holds Tryd.pinned (OpenSpec.ofChange checkFaultsWrong)

/-- 'ontimelaw15.CheckTasks': WHATEVER THE INPUT: true; the input reads as it did. -/
def checkTasksSpec : ChangeSpec := { name := "checkTasks", fn := fun _ => fun
  | [d1, d2] => { results := [.lit (.bool true)], args := [d1, d2] }
  | _ => none }
def checkTasksRow : OpenClaim := { program := "ytnegdmhmhdojbaadoor", sum := "941bb2c0707122d637a2ff2c52f37c93b2dea55cbf508aa33297904509e6999f", func := "ontime/ontimelaw15.CheckTasks", spec := "checkTasks", inPlace := ["maps.clone"], unfollowed := true, recurses := true, named := ["ontime/lexer.signs"], loops := true, apart := false, laid := [("ontime/lexer.signs", laid_ontime_lexer_signs)] }
def CheckTasksSaid : Prop := checkTasksRow.holds Tryd.pinned (OpenSpec.ofChange checkTasksSpec)

/-- ITS FALSE NEIGHBOUR: 'it returns false'. Refute it at one input. -/
def checkTasksWrong : ChangeSpec := { name := "checkTasks", fn := fun _ => fun
  | [d1, d2] => { results := [.lit (.bool false)], args := [d1, d2] }
  | _ => none }
def CheckTasksWrongFalsely : Prop := checkTasksRow.holds Tryd.pinned (OpenSpec.ofChange checkTasksWrong)

/-- 'ontimelaw15.CheckTwice': WHATEVER THE INPUT: true; the input reads as it did. -/
def checkTwiceSpec : ChangeSpec := { name := "checkTwice", fn := fun _ => fun
  | [d1, d2, d3] => { results := [.lit (.bool true)], args := [d1, d2, d3] }
  | _ => none }
def checkTwiceRow : OpenClaim := { program := "ytnegdmhmhdojbaadoor", sum := "941bb2c0707122d637a2ff2c52f37c93b2dea55cbf508aa33297904509e6999f", func := "ontime/ontimelaw15.CheckTwice", spec := "checkTwice", inPlace := ["maps.clone"], unfollowed := true, recurses := true, named := ["ontime/lexer.signs"], loops := true, apart := false, laid := [("ontime/lexer.signs", laid_ontime_lexer_signs)] }
def CheckTwiceSaid : Prop := checkTwiceRow.holds Tryd.pinned (OpenSpec.ofChange checkTwiceSpec)

/-- ITS FALSE NEIGHBOUR: 'it returns false'. Refute it at one input. -/
def checkTwiceWrong : ChangeSpec := { name := "checkTwice", fn := fun _ => fun
  | [d1, d2, d3] => { results := [.lit (.bool false)], args := [d1, d2, d3] }
  | _ => none }
def CheckTwiceWrongFalsely : Prop := checkTwiceRow.holds Tryd.pinned (OpenSpec.ofChange checkTwiceWrong)

/-- 'ontimelaw15.CheckObjects': WHATEVER THE INPUT: true; the input reads as it did. -/
def checkObjectsSpec : ChangeSpec := { name := "checkObjects", fn := fun _ => fun
  | [d1, d2] => { results := [.lit (.bool true)], args := [d1, d2] }
  | _ => none }
def checkObjectsRow : OpenClaim := { program := "ytnegdmhmhdojbaadoor", sum := "941bb2c0707122d637a2ff2c52f37c93b2dea55cbf508aa33297904509e6999f", func := "ontime/ontimelaw15.CheckObjects", spec := "checkObjects", inPlace := ["maps.clone"], unfollowed := true, recurses := true, named := ["ontime/lexer.signs"], loops := true, apart := false, laid := [("ontime/lexer.signs", laid_ontime_lexer_signs)] }
def CheckObjectsSaid : Prop := checkObjectsRow.holds Tryd.pinned (OpenSpec.ofChange checkObjectsSpec)

/-- ITS FALSE NEIGHBOUR: 'it returns false'. Refute it at one input. -/
def checkObjectsWrong : ChangeSpec := { name := "checkObjects", fn := fun _ => fun
  | [d1, d2] => { results := [.lit (.bool false)], args := [d1, d2] }
  | _ => none }
def CheckObjectsWrongFalsely : Prop := checkObjectsRow.holds Tryd.pinned (OpenSpec.ofChange checkObjectsWrong)

/-- 'ontimelaw15.CheckUndeclared': WHATEVER THE INPUT: true; the input reads as it did. -/
def checkUndeclaredSpec : ChangeSpec := { name := "checkUndeclared", fn := fun _ => fun
  | [d1, d2, d3] => { results := [.lit (.bool true)], args := [d1, d2, d3] }
  | _ => none }
def checkUndeclaredRow : OpenClaim := { program := "ytnegdmhmhdojbaadoor", sum := "941bb2c0707122d637a2ff2c52f37c93b2dea55cbf508aa33297904509e6999f", func := "ontime/ontimelaw15.CheckUndeclared", spec := "checkUndeclared", inPlace := ["maps.clone"], unfollowed := true, recurses := true, named := ["ontime/lexer.signs"], loops := true, apart := false, laid := [("ontime/lexer.signs", laid_ontime_lexer_signs)] }
def CheckUndeclaredSaid : Prop := checkUndeclaredRow.holds Tryd.pinned (OpenSpec.ofChange checkUndeclaredSpec)

/-- ITS FALSE NEIGHBOUR: 'it returns false'. Refute it at one input. -/
def checkUndeclaredWrong : ChangeSpec := { name := "checkUndeclared", fn := fun _ => fun
  | [d1, d2, d3] => { results := [.lit (.bool false)], args := [d1, d2, d3] }
  | _ => none }
def CheckUndeclaredWrongFalsely : Prop := checkUndeclaredRow.holds Tryd.pinned (OpenSpec.ofChange checkUndeclaredWrong)

/-- 'ontimelaw15.CheckUnlocked': WHATEVER THE INPUT: true; the input reads as it did. -/
def checkUnlockedSpec : ChangeSpec := { name := "checkUnlocked", fn := fun _ => fun
  | [d1, d2] => { results := [.lit (.bool true)], args := [d1, d2] }
  | _ => none }
def checkUnlockedRow : OpenClaim := { program := "ytnegdmhmhdojbaadoor", sum := "941bb2c0707122d637a2ff2c52f37c93b2dea55cbf508aa33297904509e6999f", func := "ontime/ontimelaw15.CheckUnlocked", spec := "checkUnlocked", inPlace := ["maps.clone"], unfollowed := true, recurses := true, named := ["ontime/lexer.signs"], loops := true, apart := false, laid := [("ontime/lexer.signs", laid_ontime_lexer_signs)] }
def CheckUnlockedSaid : Prop := checkUnlockedRow.holds Tryd.pinned (OpenSpec.ofChange checkUnlockedSpec)

/-- ITS FALSE NEIGHBOUR: 'it returns false'. Refute it at one input. -/
def checkUnlockedWrong : ChangeSpec := { name := "checkUnlocked", fn := fun _ => fun
  | [d1, d2] => { results := [.lit (.bool false)], args := [d1, d2] }
  | _ => none }
def CheckUnlockedWrongFalsely : Prop := checkUnlockedRow.holds Tryd.pinned (OpenSpec.ofChange checkUnlockedWrong)

/-- 'ontimelaw15.CheckNested': WHATEVER THE INPUT: true; the input reads as it did. -/
def checkNestedSpec : ChangeSpec := { name := "checkNested", fn := fun _ => fun
  | [d1, d2, d3] => { results := [.lit (.bool true)], args := [d1, d2, d3] }
  | _ => none }
def checkNestedRow : OpenClaim := { program := "ytnegdmhmhdojbaadoor", sum := "941bb2c0707122d637a2ff2c52f37c93b2dea55cbf508aa33297904509e6999f", func := "ontime/ontimelaw15.CheckNested", spec := "checkNested", inPlace := ["maps.clone"], unfollowed := true, recurses := true, named := ["ontime/lexer.signs"], loops := true, apart := false, laid := [("ontime/lexer.signs", laid_ontime_lexer_signs)] }
def CheckNestedSaid : Prop := checkNestedRow.holds Tryd.pinned (OpenSpec.ofChange checkNestedSpec)

/-- ITS FALSE NEIGHBOUR: 'it returns false'. Refute it at one input. -/
def checkNestedWrong : ChangeSpec := { name := "checkNested", fn := fun _ => fun
  | [d1, d2, d3] => { results := [.lit (.bool false)], args := [d1, d2, d3] }
  | _ => none }
def CheckNestedWrongFalsely : Prop := checkNestedRow.holds Tryd.pinned (OpenSpec.ofChange checkNestedWrong)

/-- 'ontimelaw15.CheckLoopVariables': WHATEVER THE INPUT: true; the input reads as it did. -/
def checkLoopVariablesSpec : ChangeSpec := { name := "checkLoopVariables", fn := fun _ => fun
  | [d1, d2, d3] => { results := [.lit (.bool true)], args := [d1, d2, d3] }
  | _ => none }
def checkLoopVariablesRow : OpenClaim := { program := "ytnegdmhmhdojbaadoor", sum := "941bb2c0707122d637a2ff2c52f37c93b2dea55cbf508aa33297904509e6999f", func := "ontime/ontimelaw15.CheckLoopVariables", spec := "checkLoopVariables", inPlace := ["maps.clone"], unfollowed := true, recurses := true, named := ["ontime/lexer.signs"], loops := true, apart := false, laid := [("ontime/lexer.signs", laid_ontime_lexer_signs)] }
def CheckLoopVariablesSaid : Prop := checkLoopVariablesRow.holds Tryd.pinned (OpenSpec.ofChange checkLoopVariablesSpec)

/-- ITS FALSE NEIGHBOUR: 'it returns false'. Refute it at one input. -/
def checkLoopVariablesWrong : ChangeSpec := { name := "checkLoopVariables", fn := fun _ => fun
  | [d1, d2, d3] => { results := [.lit (.bool false)], args := [d1, d2, d3] }
  | _ => none }
def CheckLoopVariablesWrongFalsely : Prop := checkLoopVariablesRow.holds Tryd.pinned (OpenSpec.ofChange checkLoopVariablesWrong)

/-- 'ontimelaw15.CheckRenames': WHATEVER THE INPUT: true; the input reads as it did. -/
def checkRenamesSpec : ChangeSpec := { name := "checkRenames", fn := fun _ => fun
  | [d1, d2, d3] => { results := [.lit (.bool true)], args := [d1, d2, d3] }
  | _ => none }
def checkRenamesRow : OpenClaim := { program := "ytnegdmhmhdojbaadoor", sum := "941bb2c0707122d637a2ff2c52f37c93b2dea55cbf508aa33297904509e6999f", func := "ontime/ontimelaw15.CheckRenames", spec := "checkRenames", inPlace := ["maps.clone"], unfollowed := true, recurses := true, named := ["ontime/lexer.signs"], loops := true, apart := false, laid := [("ontime/lexer.signs", laid_ontime_lexer_signs)] }
def CheckRenamesSaid : Prop := checkRenamesRow.holds Tryd.pinned (OpenSpec.ofChange checkRenamesSpec)

/-- ITS FALSE NEIGHBOUR: 'it returns false'. Refute it at one input. -/
def checkRenamesWrong : ChangeSpec := { name := "checkRenames", fn := fun _ => fun
  | [d1, d2, d3] => { results := [.lit (.bool false)], args := [d1, d2, d3] }
  | _ => none }
def CheckRenamesWrongFalsely : Prop := checkRenamesRow.holds Tryd.pinned (OpenSpec.ofChange checkRenamesWrong)

/- THE SECOND FORM. 'bulk': how many values and letters a reading holds, each counted each time it is reached (what is shared counts as often as it is met; a slice's spare places count too). A statement '..UptoSaid' is the law's where the arguments, and the package variables that the reading takes, are together of bulk at most 1048576: NARROWER than '..Said'. Prove '..Said' where nothing that the law and all that it calls make is longer than what came in: it says more and counts as full. Else prove '..UptoSaid'. A law counts once. -/
mutual
def uptoBulk {H : Type} : DataW H → Nat
  | .lit (.string bytes) => bytes.length + 1
  | .lit _ => 1
  | .nil => 1
  | .ptr d => uptoBulk d + 1
  | .slice elems spare => uptoBulkAll elems + uptoBulkAll spare + 1
  | .agg parts => uptoBulkAll parts + 1
  | .iface _ d => uptoBulk d + 1
  | .map entries => uptoBulkEntries entries + 1
  | .held _ => 1
def uptoBulkAll {H : Type} : List (DataW H) → Nat
  | [] => 0
  | d :: r => uptoBulk d + uptoBulkAll r
def uptoBulkEntries {H : Type} : List (Lit × DataW H) → Nat
  | [] => 0
  | x :: r => uptoBulkEntry x + uptoBulkEntries r
def uptoBulkEntry {H : Type} : Lit × DataW H → Nat
  | (.string bytes, d) => bytes.length + uptoBulk d + 1
  | (_, d) => uptoBulk d + 1
 end
def uptoSmall : (H : Type) → List (DataW H) → Bool := fun _ ds => decide (uptoBulkAll ds ≤ 1048576)
def OpenSpec.upto (s : _root_.Go.ChangeSpec) : _root_.Go.OpenSpec := { _root_.Go.OpenSpec.ofChange s with cond := some uptoSmall }

/-- 'ontimelaw15.CheckFaults', WHERE WHAT IT READS IS OF BULK AT MOST 1048576: true; the input reads as it did. -/
def checkFaultsUptoRow : OpenClaim := { program := "ytnegdmhmhdojbaadoor", sum := "941bb2c0707122d637a2ff2c52f37c93b2dea55cbf508aa33297904509e6999f", func := "ontime/ontimelaw15.CheckFaults", spec := "checkFaults", inPlace := ["maps.clone"], unfollowed := true, recurses := true, named := ["ontime/lexer.signs"], loops := true, apart := false, laid := [("ontime/lexer.signs", laid_ontime_lexer_signs)], narrowed := true }
def CheckFaultsUptoSaid : Prop := checkFaultsUptoRow.holds Tryd.pinned (OpenSpec.upto checkFaultsSpec)

/-- 'ontimelaw15.CheckTasks', WHERE WHAT IT READS IS OF BULK AT MOST 1048576: true; the input reads as it did. -/
def checkTasksUptoRow : OpenClaim := { program := "ytnegdmhmhdojbaadoor", sum := "941bb2c0707122d637a2ff2c52f37c93b2dea55cbf508aa33297904509e6999f", func := "ontime/ontimelaw15.CheckTasks", spec := "checkTasks", inPlace := ["maps.clone"], unfollowed := true, recurses := true, named := ["ontime/lexer.signs"], loops := true, apart := false, laid := [("ontime/lexer.signs", laid_ontime_lexer_signs)], narrowed := true }
def CheckTasksUptoSaid : Prop := checkTasksUptoRow.holds Tryd.pinned (OpenSpec.upto checkTasksSpec)

/-- 'ontimelaw15.CheckTwice', WHERE WHAT IT READS IS OF BULK AT MOST 1048576: true; the input reads as it did. -/
def checkTwiceUptoRow : OpenClaim := { program := "ytnegdmhmhdojbaadoor", sum := "941bb2c0707122d637a2ff2c52f37c93b2dea55cbf508aa33297904509e6999f", func := "ontime/ontimelaw15.CheckTwice", spec := "checkTwice", inPlace := ["maps.clone"], unfollowed := true, recurses := true, named := ["ontime/lexer.signs"], loops := true, apart := false, laid := [("ontime/lexer.signs", laid_ontime_lexer_signs)], narrowed := true }
def CheckTwiceUptoSaid : Prop := checkTwiceUptoRow.holds Tryd.pinned (OpenSpec.upto checkTwiceSpec)

/-- 'ontimelaw15.CheckObjects', WHERE WHAT IT READS IS OF BULK AT MOST 1048576: true; the input reads as it did. -/
def checkObjectsUptoRow : OpenClaim := { program := "ytnegdmhmhdojbaadoor", sum := "941bb2c0707122d637a2ff2c52f37c93b2dea55cbf508aa33297904509e6999f", func := "ontime/ontimelaw15.CheckObjects", spec := "checkObjects", inPlace := ["maps.clone"], unfollowed := true, recurses := true, named := ["ontime/lexer.signs"], loops := true, apart := false, laid := [("ontime/lexer.signs", laid_ontime_lexer_signs)], narrowed := true }
def CheckObjectsUptoSaid : Prop := checkObjectsUptoRow.holds Tryd.pinned (OpenSpec.upto checkObjectsSpec)

/-- 'ontimelaw15.CheckUndeclared', WHERE WHAT IT READS IS OF BULK AT MOST 1048576: true; the input reads as it did. -/
def checkUndeclaredUptoRow : OpenClaim := { program := "ytnegdmhmhdojbaadoor", sum := "941bb2c0707122d637a2ff2c52f37c93b2dea55cbf508aa33297904509e6999f", func := "ontime/ontimelaw15.CheckUndeclared", spec := "checkUndeclared", inPlace := ["maps.clone"], unfollowed := true, recurses := true, named := ["ontime/lexer.signs"], loops := true, apart := false, laid := [("ontime/lexer.signs", laid_ontime_lexer_signs)], narrowed := true }
def CheckUndeclaredUptoSaid : Prop := checkUndeclaredUptoRow.holds Tryd.pinned (OpenSpec.upto checkUndeclaredSpec)

/-- 'ontimelaw15.CheckUnlocked', WHERE WHAT IT READS IS OF BULK AT MOST 1048576: true; the input reads as it did. -/
def checkUnlockedUptoRow : OpenClaim := { program := "ytnegdmhmhdojbaadoor", sum := "941bb2c0707122d637a2ff2c52f37c93b2dea55cbf508aa33297904509e6999f", func := "ontime/ontimelaw15.CheckUnlocked", spec := "checkUnlocked", inPlace := ["maps.clone"], unfollowed := true, recurses := true, named := ["ontime/lexer.signs"], loops := true, apart := false, laid := [("ontime/lexer.signs", laid_ontime_lexer_signs)], narrowed := true }
def CheckUnlockedUptoSaid : Prop := checkUnlockedUptoRow.holds Tryd.pinned (OpenSpec.upto checkUnlockedSpec)

/-- 'ontimelaw15.CheckNested', WHERE WHAT IT READS IS OF BULK AT MOST 1048576: true; the input reads as it did. -/
def checkNestedUptoRow : OpenClaim := { program := "ytnegdmhmhdojbaadoor", sum := "941bb2c0707122d637a2ff2c52f37c93b2dea55cbf508aa33297904509e6999f", func := "ontime/ontimelaw15.CheckNested", spec := "checkNested", inPlace := ["maps.clone"], unfollowed := true, recurses := true, named := ["ontime/lexer.signs"], loops := true, apart := false, laid := [("ontime/lexer.signs", laid_ontime_lexer_signs)], narrowed := true }
def CheckNestedUptoSaid : Prop := checkNestedUptoRow.holds Tryd.pinned (OpenSpec.upto checkNestedSpec)

/-- 'ontimelaw15.CheckLoopVariables', WHERE WHAT IT READS IS OF BULK AT MOST 1048576: true; the input reads as it did. -/
def checkLoopVariablesUptoRow : OpenClaim := { program := "ytnegdmhmhdojbaadoor", sum := "941bb2c0707122d637a2ff2c52f37c93b2dea55cbf508aa33297904509e6999f", func := "ontime/ontimelaw15.CheckLoopVariables", spec := "checkLoopVariables", inPlace := ["maps.clone"], unfollowed := true, recurses := true, named := ["ontime/lexer.signs"], loops := true, apart := false, laid := [("ontime/lexer.signs", laid_ontime_lexer_signs)], narrowed := true }
def CheckLoopVariablesUptoSaid : Prop := checkLoopVariablesUptoRow.holds Tryd.pinned (OpenSpec.upto checkLoopVariablesSpec)

/-- 'ontimelaw15.CheckRenames', WHERE WHAT IT READS IS OF BULK AT MOST 1048576: true; the input reads as it did. -/
def checkRenamesUptoRow : OpenClaim := { program := "ytnegdmhmhdojbaadoor", sum := "941bb2c0707122d637a2ff2c52f37c93b2dea55cbf508aa33297904509e6999f", func := "ontime/ontimelaw15.CheckRenames", spec := "checkRenames", inPlace := ["maps.clone"], unfollowed := true, recurses := true, named := ["ontime/lexer.signs"], loops := true, apart := false, laid := [("ontime/lexer.signs", laid_ontime_lexer_signs)], narrowed := true }
def CheckRenamesUptoSaid : Prop := checkRenamesUptoRow.holds Tryd.pinned (OpenSpec.upto checkRenamesSpec)

end Rows
end Go.Proofs.YtnegdmhmhdojbaaDoor
