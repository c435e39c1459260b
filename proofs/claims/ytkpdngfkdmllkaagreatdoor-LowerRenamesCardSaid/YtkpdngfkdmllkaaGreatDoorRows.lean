/-
  NARROWER THAN 'FOR EVERY INPUT', by the rows' own cells (each row's printed sentence says how): LowerSame: loops, laid · LowerRenames: loops, laid.
  DERIVED. THE GIVEN ROWS OF THIS SEAT. 2 by the template 'for every input the law returns true; each argument reads behind the call as it read before'; 0 by the template 'total and deterministic' (their statements: YtkpdngfkdmllkaaGreatDoorTotals.lean).
  GIVEN WITH THE SEED: the statements are not yours to turn. If you find one false, say at which input.
  Laid BY PROGRAM, IN A SANDBOX (cutbox-rows.mjs): the forced cells as the released guide's own fill.sh prints them over the translation 5e298ad41d7bebf1… (all of the seat's roots in one cut). By AI agents, Wed Nov 11 2026. No macro, syntax, notation, axiom, sorry.
-/
import Derived.Test.YtkpdngfkdmllkaaGreatDoorChecked
import GoSem.Claim
import GoSem.ClaimJoined
import GoSem.ClaimMapViews
import Derived.JoinedTies
import Derived.KernelRfl
namespace Go.Proofs.YtkpdngfkdmllkaaGreatDoor
/- THE CELL 'sum', in the pinned program and in every row, IS THE sha256 OF THE DUMP (.gsa) THAT YtkpdngfkdmllkaaGreatDoorProg.lean LOADS. Nothing in Lean hashes anything: it is a label: what it is worth is what the hold of that sum in a sandbox is worth. -/
noncomputable def Tryz.pinned : Pinned := { name := "ytkpdngfkdmllkaagreatdoor", sum := "5e298ad41d7bebf1a7f154cc0e66bfff454f304ba65a2435ac7677ebad81fbef", checked := Tryz.checked }
namespace Rows
def none {H : Type} : Left H := { results := [], args := [] }

/- WHAT THE LISTED PACKAGE-LEVEL VARIABLES READ AS WHEN THE CALL BEGINS. Each datum BY PROGRAM (the guide's laid-datum.mjs) off the statement by which the dump's own 'gosem.cut.vars' lays the variable. In a bare row this is a premise. The card (YtkpdngfkdmllkaaGreatDoorCards.lean) ties it to the program's text. -/
def laid_ontime_lexer_signs {H : Type} : DataW H := .agg [.lit (.string [60, 60]), .lit (.string [62, 62]), .lit (.string [60, 61]), .lit (.string [62, 61]), .lit (.string [61, 61]), .lit (.string [33, 61]), .lit (.string [38, 38]), .lit (.string [124, 124]), .lit (.string [43]), .lit (.string [45]), .lit (.string [42]), .lit (.string [47]), .lit (.string [37]), .lit (.string [38]), .lit (.string [124]), .lit (.string [94]), .lit (.string [60]), .lit (.string [62]), .lit (.string [33]), .lit (.string [61]), .lit (.string [91]), .lit (.string [93]), .lit (.string [123]), .lit (.string [125]), .lit (.string [40]), .lit (.string [41]), .lit (.string [59]), .lit (.string [44])]

/-- 'ontimelaw18.LowerSame': WHATEVER THE INPUT: true; the input reads as it did. -/
def lowerSameSpec : ChangeSpec := { name := "lowerSame", fn := fun _ => fun
  | [d1, d2, d3, d4] => { results := [.lit (.bool true)], args := [d1, d2, d3, d4] }
  | _ => none }
def lowerSameRow : OpenClaim := { program := "ytkpdngfkdmllkaagreatdoor", sum := "5e298ad41d7bebf1a7f154cc0e66bfff454f304ba65a2435ac7677ebad81fbef", func := "ontime/ontimelaw18.LowerSame", spec := "lowerSame", inPlace := ["maps.clone"], unfollowed := true, recurses := true, named := ["ontime/lexer.signs"], loops := true, apart := false, laid := [("ontime/lexer.signs", laid_ontime_lexer_signs)] }
def LowerSameSaid : Prop := lowerSameRow.holds Tryz.pinned (OpenSpec.ofChange lowerSameSpec)

/-- ITS FALSE NEIGHBOUR: 'it returns false'. Refute it at one input. -/
def lowerSameWrong : ChangeSpec := { name := "lowerSame", fn := fun _ => fun
  | [d1, d2, d3, d4] => { results := [.lit (.bool false)], args := [d1, d2, d3, d4] }
  | _ => none }
def LowerSameWrongFalsely : Prop := lowerSameRow.holds Tryz.pinned (OpenSpec.ofChange lowerSameWrong)

/-- 'ontimelaw18.LowerRenames': WHATEVER THE INPUT: true; the input reads as it did. -/
def lowerRenamesSpec : ChangeSpec := { name := "lowerRenames", fn := fun _ => fun
  | [d1, d2, d3, d4, d5] => { results := [.lit (.bool true)], args := [d1, d2, d3, d4, d5] }
  | _ => none }
def lowerRenamesRow : OpenClaim := { program := "ytkpdngfkdmllkaagreatdoor", sum := "5e298ad41d7bebf1a7f154cc0e66bfff454f304ba65a2435ac7677ebad81fbef", func := "ontime/ontimelaw18.LowerRenames", spec := "lowerRenames", inPlace := ["maps.clone"], unfollowed := true, recurses := true, named := ["ontime/lexer.signs"], loops := true, apart := false, laid := [("ontime/lexer.signs", laid_ontime_lexer_signs)] }
def LowerRenamesSaid : Prop := lowerRenamesRow.holds Tryz.pinned (OpenSpec.ofChange lowerRenamesSpec)

/-- ITS FALSE NEIGHBOUR: 'it returns false'. Refute it at one input. -/
def lowerRenamesWrong : ChangeSpec := { name := "lowerRenames", fn := fun _ => fun
  | [d1, d2, d3, d4, d5] => { results := [.lit (.bool false)], args := [d1, d2, d3, d4, d5] }
  | _ => none }
def LowerRenamesWrongFalsely : Prop := lowerRenamesRow.holds Tryz.pinned (OpenSpec.ofChange lowerRenamesWrong)

/- THE SECOND FORM. 'bulk': how many values and letters a reading holds, each counted each time it is reached (what is shared counts as often as it is met; a slice's spare places count too). A statement '..UptoSaid' is the law's where the arguments, and the package variables that the reading takes, are together of bulk at most 1048576: NARROWER than '..Said'. Prove '..Said' where nothing that the law and all that it calls make is longer than what came in: it says more and counts as full. Else prove '..UptoSaid'. A law counts once. -/
mutual
def uptoBulk {H : Type} : DataW H → Nat
  | .lit (.string bytes) => bytes.length + 1
  | .lit _ => 1
  | .nil => 1
  | .ptr d => uptoBulk d + 1
  | .slice elems spare => uptoBulkAll elems + uptoBulkAll spare + 1
  | .agg parts => uptoBulkAll parts + 1
  | .iface _ d => uptoBulk d + 1
  | .map entries => uptoBulkEntries entries + 1
  | .held _ => 1
def uptoBulkAll {H : Type} : List (DataW H) → Nat
  | [] => 0
  | d :: r => uptoBulk d + uptoBulkAll r
def uptoBulkEntries {H : Type} : List (Lit × DataW H) → Nat
  | [] => 0
  | x :: r => uptoBulkEntry x + uptoBulkEntries r
def uptoBulkEntry {H : Type} : Lit × DataW H → Nat
  | (.string bytes, d) => bytes.length + uptoBulk d + 1
  | (_, d) => uptoBulk d + 1
 end
def uptoSmall : (H : Type) → List (DataW H) → Bool := fun _ ds => decide (uptoBulkAll ds ≤ 1048576)
def OpenSpec.upto (s : _root_.Go.ChangeSpec) : _root_.Go.OpenSpec := { _root_.Go.OpenSpec.ofChange s with cond := some uptoSmall }

/-- 'ontimelaw18.LowerSame', WHERE WHAT IT READS IS OF BULK AT MOST 1048576: true; the input reads as it did. -/
def lowerSameUptoRow : OpenClaim := { program := "ytkpdngfkdmllkaagreatdoor", sum := "5e298ad41d7bebf1a7f154cc0e66bfff454f304ba65a2435ac7677ebad81fbef", func := "ontime/ontimelaw18.LowerSame", spec := "lowerSame", inPlace := ["maps.clone"], unfollowed := true, recurses := true, named := ["ontime/lexer.signs"], loops := true, apart := false, laid := [("ontime/lexer.signs", laid_ontime_lexer_signs)], narrowed := true }
def LowerSameUptoSaid : Prop := lowerSameUptoRow.holds Tryz.pinned (OpenSpec.upto lowerSameSpec)

/-- 'ontimelaw18.LowerRenames', WHERE WHAT IT READS IS OF BULK AT MOST 1048576: true; the input reads as it did. -/
def lowerRenamesUptoRow : OpenClaim := { program := "ytkpdngfkdmllkaagreatdoor", sum := "5e298ad41d7bebf1a7f154cc0e66bfff454f304ba65a2435ac7677ebad81fbef", func := "ontime/ontimelaw18.LowerRenames", spec := "lowerRenames", inPlace := ["maps.clone"], unfollowed := true, recurses := true, named := ["ontime/lexer.signs"], loops := true, apart := false, laid := [("ontime/lexer.signs", laid_ontime_lexer_signs)], narrowed := true }
def LowerRenamesUptoSaid : Prop := lowerRenamesUptoRow.holds Tryz.pinned (OpenSpec.upto lowerRenamesSpec)

end Rows
end Go.Proofs.YtkpdngfkdmllkaaGreatDoor
