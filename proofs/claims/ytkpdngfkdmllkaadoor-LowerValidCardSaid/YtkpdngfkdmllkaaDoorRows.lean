/-
  NARROWER THAN 'FOR EVERY INPUT', by the rows' own cells (each row's printed sentence says how): LowerValid: loops, laid · LowerLoops: loops, laid · LowerLocks: loops, laid · LowerAlone: loops, laid · LowerErrors: loops, laid.
  DERIVED. THE GIVEN ROWS OF THIS SEAT. 5 by the template 'for every input the law returns true; each argument reads behind the call as it read before'; 0 by the template 'total and deterministic' (their statements: YtkpdngfkdmllkaaDoorTotals.lean).
  GIVEN WITH THE SEED: the statements are not yours to turn. If you find one false, say at which input.
  Laid BY PROGRAM, IN A SANDBOX (cutbox-rows.mjs): the forced cells as the released guide's own fill.sh prints them over the translation 45cfad2b5e63a35c… (all of the seat's roots in one cut). By AI agents, Wed Nov 11 2026. No macro, syntax, notation, axiom, sorry.
-/
import Derived.Test.YtkpdngfkdmllkaaDoorChecked
import GoSem.Claim
import GoSem.ClaimJoined
import GoSem.ClaimMapViews
import Derived.JoinedTies
import Derived.KernelRfl
namespace Go.Proofs.YtkpdngfkdmllkaaDoor
/- THE CELL 'sum', in the pinned program and in every row, IS THE sha256 OF THE DUMP (.gsa) THAT YtkpdngfkdmllkaaDoorProg.lean LOADS. Nothing in Lean hashes anything: it is a label: what it is worth is what the hold of that sum in a sandbox is worth. -/
noncomputable def Tryd.pinned : Pinned := { name := "ytkpdngfkdmllkaadoor", sum := "45cfad2b5e63a35c893dd55b9713eb2f68f068b7e7b7c091160967105fc8d522", checked := Tryd.checked }
namespace Rows
def none {H : Type} : Left H := { results := [], args := [] }

/- WHAT THE LISTED PACKAGE-LEVEL VARIABLES READ AS WHEN THE CALL BEGINS. Each datum BY PROGRAM (the guide's laid-datum.mjs) off the statement by which the dump's own 'gosem.cut.vars' lays the variable. In a bare row this is a premise. The card (YtkpdngfkdmllkaaDoorCards.lean) ties it to the program's text. -/
def laid_ontime_lexer_signs {H : Type} : DataW H := .agg [.lit (.string [60, 60]), .lit (.string [62, 62]), .lit (.string [60, 61]), .lit (.string [62, 61]), .lit (.string [61, 61]), .lit (.string [33, 61]), .lit (.string [38, 38]), .lit (.string [124, 124]), .lit (.string [43]), .lit (.string [45]), .lit (.string [42]), .lit (.string [47]), .lit (.string [37]), .lit (.string [38]), .lit (.string [124]), .lit (.string [94]), .lit (.string [60]), .lit (.string [62]), .lit (.string [33]), .lit (.string [61]), .lit (.string [91]), .lit (.string [93]), .lit (.string [123]), .lit (.string [125]), .lit (.string [40]), .lit (.string [41]), .lit (.string [59]), .lit (.string [44])]

/-- 'ontimelaw18.LowerValid': WHATEVER THE INPUT: true; the input reads as it did. -/
def lowerValidSpec : ChangeSpec := { name := "lowerValid", fn := fun _ => fun
  | [d1, d2] => { results := [.lit (.bool true)], args := [d1, d2] }
  | _ => none }
def lowerValidRow : OpenClaim := { program := "ytkpdngfkdmllkaadoor", sum := "45cfad2b5e63a35c893dd55b9713eb2f68f068b7e7b7c091160967105fc8d522", func := "ontime/ontimelaw18.LowerValid", spec := "lowerValid", inPlace := ["maps.clone"], unfollowed := true, recurses := true, named := ["ontime/lexer.signs"], loops := true, apart := false, laid := [("ontime/lexer.signs", laid_ontime_lexer_signs)] }
def LowerValidSaid : Prop := lowerValidRow.holds Tryd.pinned (OpenSpec.ofChange lowerValidSpec)

/-- ITS FALSE NEIGHBOUR: 'it returns false'. Refute it at one input. -/
def lowerValidWrong : ChangeSpec := { name := "lowerValid", fn := fun _ => fun
  | [d1, d2] => { results := [.lit (.bool false)], args := [d1, d2] }
  | _ => none }
def LowerValidWrongFalsely : Prop := lowerValidRow.holds Tryd.pinned (OpenSpec.ofChange lowerValidWrong)

/-- 'ontimelaw18.LowerLoops': WHATEVER THE INPUT: true; the input reads as it did. -/
def lowerLoopsSpec : ChangeSpec := { name := "lowerLoops", fn := fun _ => fun
  | [d1, d2] => { results := [.lit (.bool true)], args := [d1, d2] }
  | _ => none }
def lowerLoopsRow : OpenClaim := { program := "ytkpdngfkdmllkaadoor", sum := "45cfad2b5e63a35c893dd55b9713eb2f68f068b7e7b7c091160967105fc8d522", func := "ontime/ontimelaw18.LowerLoops", spec := "lowerLoops", inPlace := ["maps.clone"], unfollowed := true, recurses := true, named := ["ontime/lexer.signs"], loops := true, apart := false, laid := [("ontime/lexer.signs", laid_ontime_lexer_signs)] }
def LowerLoopsSaid : Prop := lowerLoopsRow.holds Tryd.pinned (OpenSpec.ofChange lowerLoopsSpec)

/-- ITS FALSE NEIGHBOUR: 'it returns false'. Refute it at one input. -/
def lowerLoopsWrong : ChangeSpec := { name := "lowerLoops", fn := fun _ => fun
  | [d1, d2] => { results := [.lit (.bool false)], args := [d1, d2] }
  | _ => none }
def LowerLoopsWrongFalsely : Prop := lowerLoopsRow.holds Tryd.pinned (OpenSpec.ofChange lowerLoopsWrong)

/-- 'ontimelaw18.LowerLocks': WHATEVER THE INPUT: true; the input reads as it did. -/
def lowerLocksSpec : ChangeSpec := { name := "lowerLocks", fn := fun _ => fun
  | [d1, d2] => { results := [.lit (.bool true)], args := [d1, d2] }
  | _ => none }
def lowerLocksRow : OpenClaim := { program := "ytkpdngfkdmllkaadoor", sum := "45cfad2b5e63a35c893dd55b9713eb2f68f068b7e7b7c091160967105fc8d522", func := "ontime/ontimelaw18.LowerLocks", spec := "lowerLocks", inPlace := ["maps.clone"], unfollowed := true, recurses := true, named := ["ontime/lexer.signs"], loops := true, apart := false, laid := [("ontime/lexer.signs", laid_ontime_lexer_signs)] }
def LowerLocksSaid : Prop := lowerLocksRow.holds Tryd.pinned (OpenSpec.ofChange lowerLocksSpec)

/-- ITS FALSE NEIGHBOUR: 'it returns false'. Refute it at one input. -/
def lowerLocksWrong : ChangeSpec := { name := "lowerLocks", fn := fun _ => fun
  | [d1, d2] => { results := [.lit (.bool false)], args := [d1, d2] }
  | _ => none }
def LowerLocksWrongFalsely : Prop := lowerLocksRow.holds Tryd.pinned (OpenSpec.ofChange lowerLocksWrong)

/-- 'ontimelaw18.LowerAlone': WHATEVER THE INPUT: true; the input reads as it did. -/
def lowerAloneSpec : ChangeSpec := { name := "lowerAlone", fn := fun _ => fun
  | [d1, d2] => { results := [.lit (.bool true)], args := [d1, d2] }
  | _ => none }
def lowerAloneRow : OpenClaim := { program := "ytkpdngfkdmllkaadoor", sum := "45cfad2b5e63a35c893dd55b9713eb2f68f068b7e7b7c091160967105fc8d522", func := "ontime/ontimelaw18.LowerAlone", spec := "lowerAlone", inPlace := ["maps.clone"], unfollowed := true, recurses := true, named := ["ontime/lexer.signs"], loops := true, apart := false, laid := [("ontime/lexer.signs", laid_ontime_lexer_signs)] }
def LowerAloneSaid : Prop := lowerAloneRow.holds Tryd.pinned (OpenSpec.ofChange lowerAloneSpec)

/-- ITS FALSE NEIGHBOUR: 'it returns false'. Refute it at one input. -/
def lowerAloneWrong : ChangeSpec := { name := "lowerAlone", fn := fun _ => fun
  | [d1, d2] => { results := [.lit (.bool false)], args := [d1, d2] }
  | _ => none }
def LowerAloneWrongFalsely : Prop := lowerAloneRow.holds Tryd.pinned (OpenSpec.ofChange lowerAloneWrong)

/-- 'ontimelaw18.LowerErrors': WHATEVER THE INPUT: true; the input reads as it did. -/
def lowerErrorsSpec : ChangeSpec := { name := "lowerErrors", fn := fun _ => fun
  | [d1, d2] => { results := [.lit (.bool true)], args := [d1, d2] }
  | _ => none }
def lowerErrorsRow : OpenClaim := { program := "ytkpdngfkdmllkaadoor", sum := "45cfad2b5e63a35c893dd55b9713eb2f68f068b7e7b7c091160967105fc8d522", func := "ontime/ontimelaw18.LowerErrors", spec := "lowerErrors", inPlace := ["maps.clone"], unfollowed := true, recurses := true, named := ["ontime/lexer.signs"], loops := true, apart := false, laid := [("ontime/lexer.signs", laid_ontime_lexer_signs)] }
def LowerErrorsSaid : Prop := lowerErrorsRow.holds Tryd.pinned (OpenSpec.ofChange lowerErrorsSpec)

/-- ITS FALSE NEIGHBOUR: 'it returns false'. Refute it at one input. -/
def lowerErrorsWrong : ChangeSpec := { name := "lowerErrors", fn := fun _ => fun
  | [d1, d2] => { results := [.lit (.bool false)], args := [d1, d2] }
  | _ => none }
def LowerErrorsWrongFalsely : Prop := lowerErrorsRow.holds Tryd.pinned (OpenSpec.ofChange lowerErrorsWrong)

/- THE SECOND FORM. 'bulk': how many values and letters a reading holds, each counted each time it is reached (what is shared counts as often as it is met; a slice's spare places count too). A statement '..UptoSaid' is the law's where the arguments, and the package variables that the reading takes, are together of bulk at most 1048576: NARROWER than '..Said'. Prove '..Said' where nothing that the law and all that it calls make is longer than what came in: it says more and counts as full. Else prove '..UptoSaid'. A law counts once. -/
mutual
def uptoBulk {H : Type} : DataW H → Nat
  | .lit (.string bytes) => bytes.length + 1
  | .lit _ => 1
  | .nil => 1
  | .ptr d => uptoBulk d + 1
  | .slice elems spare => uptoBulkAll elems + uptoBulkAll spare + 1
  | .agg parts => uptoBulkAll parts + 1
  | .iface _ d => uptoBulk d + 1
  | .map entries => uptoBulkEntries entries + 1
  | .held _ => 1
def uptoBulkAll {H : Type} : List (DataW H) → Nat
  | [] => 0
  | d :: r => uptoBulk d + uptoBulkAll r
def uptoBulkEntries {H : Type} : List (Lit × DataW H) → Nat
  | [] => 0
  | x :: r => uptoBulkEntry x + uptoBulkEntries r
def uptoBulkEntry {H : Type} : Lit × DataW H → Nat
  | (.string bytes, d) => bytes.length + uptoBulk d + 1
  | (_, d) => uptoBulk d + 1
 end
def uptoSmall : (H : Type) → List (DataW H) → Bool := fun _ ds => decide (uptoBulkAll ds ≤ 1048576)
def OpenSpec.upto (s : _root_.Go.ChangeSpec) : _root_.Go.OpenSpec := { _root_.Go.OpenSpec.ofChange s with cond := some uptoSmall }

/-- 'ontimelaw18.LowerValid', WHERE WHAT IT READS IS OF BULK AT MOST 1048576: true; the input reads as it did. -/
def lowerValidUptoRow : OpenClaim := { program := "ytkpdngfkdmllkaadoor", sum := "45cfad2b5e63a35c893dd55b9713eb2f68f068b7e7b7c091160967105fc8d522", func := "ontime/ontimelaw18.LowerValid", spec := "lowerValid", inPlace := ["maps.clone"], unfollowed := true, recurses := true, named := ["ontime/lexer.signs"], loops := true, apart := false, laid := [("ontime/lexer.signs", laid_ontime_lexer_signs)], narrowed := true }
def LowerValidUptoSaid : Prop := lowerValidUptoRow.holds Tryd.pinned (OpenSpec.upto lowerValidSpec)

/-- 'ontimelaw18.LowerLoops', WHERE WHAT IT READS IS OF BULK AT MOST 1048576: true; the input reads as it did. -/
def lowerLoopsUptoRow : OpenClaim := { program := "ytkpdngfkdmllkaadoor", sum := "45cfad2b5e63a35c893dd55b9713eb2f68f068b7e7b7c091160967105fc8d522", func := "ontime/ontimelaw18.LowerLoops", spec := "lowerLoops", inPlace := ["maps.clone"], unfollowed := true, recurses := true, named := ["ontime/lexer.signs"], loops := true, apart := false, laid := [("ontime/lexer.signs", laid_ontime_lexer_signs)], narrowed := true }
def LowerLoopsUptoSaid : Prop := lowerLoopsUptoRow.holds Tryd.pinned (OpenSpec.upto lowerLoopsSpec)

/-- 'ontimelaw18.LowerLocks', WHERE WHAT IT READS IS OF BULK AT MOST 1048576: true; the input reads as it did. -/
def lowerLocksUptoRow : OpenClaim := { program := "ytkpdngfkdmllkaadoor", sum := "45cfad2b5e63a35c893dd55b9713eb2f68f068b7e7b7c091160967105fc8d522", func := "ontime/ontimelaw18.LowerLocks", spec := "lowerLocks", inPlace := ["maps.clone"], unfollowed := true, recurses := true, named := ["ontime/lexer.signs"], loops := true, apart := false, laid := [("ontime/lexer.signs", laid_ontime_lexer_signs)], narrowed := true }
def LowerLocksUptoSaid : Prop := lowerLocksUptoRow.holds Tryd.pinned (OpenSpec.upto lowerLocksSpec)

/-- 'ontimelaw18.LowerAlone', WHERE WHAT IT READS IS OF BULK AT MOST 1048576: true; the input reads as it did. -/
def lowerAloneUptoRow : OpenClaim := { program := "ytkpdngfkdmllkaadoor", sum := "45cfad2b5e63a35c893dd55b9713eb2f68f068b7e7b7c091160967105fc8d522", func := "ontime/ontimelaw18.LowerAlone", spec := "lowerAlone", inPlace := ["maps.clone"], unfollowed := true, recurses := true, named := ["ontime/lexer.signs"], loops := true, apart := false, laid := [("ontime/lexer.signs", laid_ontime_lexer_signs)], narrowed := true }
def LowerAloneUptoSaid : Prop := lowerAloneUptoRow.holds Tryd.pinned (OpenSpec.upto lowerAloneSpec)

/-- 'ontimelaw18.LowerErrors', WHERE WHAT IT READS IS OF BULK AT MOST 1048576: true; the input reads as it did. -/
def lowerErrorsUptoRow : OpenClaim := { program := "ytkpdngfkdmllkaadoor", sum := "45cfad2b5e63a35c893dd55b9713eb2f68f068b7e7b7c091160967105fc8d522", func := "ontime/ontimelaw18.LowerErrors", spec := "lowerErrors", inPlace := ["maps.clone"], unfollowed := true, recurses := true, named := ["ontime/lexer.signs"], loops := true, apart := false, laid := [("ontime/lexer.signs", laid_ontime_lexer_signs)], narrowed := true }
def LowerErrorsUptoSaid : Prop := lowerErrorsUptoRow.holds Tryd.pinned (OpenSpec.upto lowerErrorsSpec)

end Rows
end Go.Proofs.YtkpdngfkdmllkaaDoor
