/-
  NARROWER THAN 'FOR EVERY INPUT', by the rows' own cells (each row's printed sentence says how): InterpJobs: loops, laid · InterpNew: loops, laid · InterpFuel: loops, laid · InterpInput: loops, laid · InterpApart: loops, laid · InterpUnrolls: loops, laid · InterpSplits: loops, laid · InterpExprs: loops, laid.
  DERIVED. THE GIVEN ROWS OF THIS SEAT. 8 by the template 'for every input the law returns true; each argument reads behind the call as it read before'; 0 by the template 'total and deterministic' (their statements: YtgochgcchkdlmaaDoorTotals.lean).
  GIVEN WITH THE SEED: the statements are not yours to turn. If you find one false, say at which input.
  Laid BY PROGRAM, IN A SANDBOX (cutbox-rows.mjs): the forced cells as the released guide's own fill.sh prints them over the translation c5e720f828bcefe2… (all of the seat's roots in one cut). By AI agents, Wed Nov 11 2026. No macro, syntax, notation, axiom, sorry.
-/
import Derived.Test.YtgochgcchkdlmaaDoorChecked
import GoSem.Claim
import GoSem.ClaimJoined
import GoSem.ClaimMapViews
import Derived.JoinedTies
import Derived.KernelRfl
namespace Go.Proofs.YtgochgcchkdlmaaDoor
/- THE CELL 'sum', in the pinned program and in every row, IS THE sha256 OF THE DUMP (.gsa) THAT YtgochgcchkdlmaaDoorProg.lean LOADS. Nothing in Lean hashes anything: it is a label: what it is worth is what the hold of that sum in a sandbox is worth. -/
noncomputable def Tryd.pinned : Pinned := { name := "ytgochgcchkdlmaadoor", sum := "c5e720f828bcefe22b5df5e092764bd043a0930853486143b33111d0560d4c74", checked := Tryd.checked }
namespace Rows
def none {H : Type} : Left H := { results := [], args := [] }

/- WHAT THE LISTED PACKAGE-LEVEL VARIABLES READ AS WHEN THE CALL BEGINS. Each datum BY PROGRAM (the guide's laid-datum.mjs) off the statement by which the dump's own 'gosem.cut.vars' lays the variable. In a bare row this is a premise. The card (YtgochgcchkdlmaaDoorCards.lean) ties it to the program's text. -/
def laid_ontime_lexer_signs {H : Type} : DataW H := .agg [.lit (.string [60, 60]), .lit (.string [62, 62]), .lit (.string [60, 61]), .lit (.string [62, 61]), .lit (.string [61, 61]), .lit (.string [33, 61]), .lit (.string [38, 38]), .lit (.string [124, 124]), .lit (.string [43]), .lit (.string [45]), .lit (.string [42]), .lit (.string [47]), .lit (.string [37]), .lit (.string [38]), .lit (.string [124]), .lit (.string [94]), .lit (.string [60]), .lit (.string [62]), .lit (.string [33]), .lit (.string [61]), .lit (.string [91]), .lit (.string [93]), .lit (.string [123]), .lit (.string [125]), .lit (.string [40]), .lit (.string [41]), .lit (.string [59]), .lit (.string [44])]

/-- 'ontimelaw16.InterpJobs': WHATEVER THE INPUT: true; the input reads as it did. -/
def interpJobsSpec : ChangeSpec := { name := "interpJobs", fn := fun _ => fun
  | [d1, d2, d3, d4, d5] => { results := [.lit (.bool true)], args := [d1, d2, d3, d4, d5] }
  | _ => none }
def interpJobsRow : OpenClaim := { program := "ytgochgcchkdlmaadoor", sum := "c5e720f828bcefe22b5df5e092764bd043a0930853486143b33111d0560d4c74", func := "ontime/ontimelaw16.InterpJobs", spec := "interpJobs", inPlace := ["maps.clone"], unfollowed := true, recurses := true, named := ["ontime/lexer.signs"], loops := true, apart := false, laid := [("ontime/lexer.signs", laid_ontime_lexer_signs)] }
def InterpJobsSaid : Prop := interpJobsRow.holds Tryd.pinned (OpenSpec.ofChange interpJobsSpec)

/-- ITS FALSE NEIGHBOUR: 'it returns false'. Refute it at one input. -/
def interpJobsWrong : ChangeSpec := { name := "interpJobs", fn := fun _ => fun
  | [d1, d2, d3, d4, d5] => { results := [.lit (.bool false)], args := [d1, d2, d3, d4, d5] }
  | _ => none }
def InterpJobsWrongFalsely : Prop := interpJobsRow.holds Tryd.pinned (OpenSpec.ofChange interpJobsWrong)

/-- 'ontimelaw16.InterpNew': WHATEVER THE INPUT: true; the input reads as it did. -/
def interpNewSpec : ChangeSpec := { name := "interpNew", fn := fun _ => fun
  | [d1, d2] => { results := [.lit (.bool true)], args := [d1, d2] }
  | _ => none }
def interpNewRow : OpenClaim := { program := "ytgochgcchkdlmaadoor", sum := "c5e720f828bcefe22b5df5e092764bd043a0930853486143b33111d0560d4c74", func := "ontime/ontimelaw16.InterpNew", spec := "interpNew", inPlace := ["maps.clone"], unfollowed := true, recurses := true, named := ["ontime/lexer.signs"], loops := true, apart := false, laid := [("ontime/lexer.signs", laid_ontime_lexer_signs)] }
def InterpNewSaid : Prop := interpNewRow.holds Tryd.pinned (OpenSpec.ofChange interpNewSpec)

/-- ITS FALSE NEIGHBOUR: 'it returns false'. Refute it at one input. -/
def interpNewWrong : ChangeSpec := { name := "interpNew", fn := fun _ => fun
  | [d1, d2] => { results := [.lit (.bool false)], args := [d1, d2] }
  | _ => none }
def InterpNewWrongFalsely : Prop := interpNewRow.holds Tryd.pinned (OpenSpec.ofChange interpNewWrong)

/-- 'ontimelaw16.InterpFuel': WHATEVER THE INPUT: true; the input reads as it did. -/
def interpFuelSpec : ChangeSpec := { name := "interpFuel", fn := fun _ => fun
  | [d1, d2, d3, d4, d5] => { results := [.lit (.bool true)], args := [d1, d2, d3, d4, d5] }
  | _ => none }
def interpFuelRow : OpenClaim := { program := "ytgochgcchkdlmaadoor", sum := "c5e720f828bcefe22b5df5e092764bd043a0930853486143b33111d0560d4c74", func := "ontime/ontimelaw16.InterpFuel", spec := "interpFuel", inPlace := ["maps.clone"], unfollowed := true, recurses := true, named := ["ontime/lexer.signs"], loops := true, apart := false, laid := [("ontime/lexer.signs", laid_ontime_lexer_signs)] }
def InterpFuelSaid : Prop := interpFuelRow.holds Tryd.pinned (OpenSpec.ofChange interpFuelSpec)

/-- ITS FALSE NEIGHBOUR: 'it returns false'. Refute it at one input. -/
def interpFuelWrong : ChangeSpec := { name := "interpFuel", fn := fun _ => fun
  | [d1, d2, d3, d4, d5] => { results := [.lit (.bool false)], args := [d1, d2, d3, d4, d5] }
  | _ => none }
def InterpFuelWrongFalsely : Prop := interpFuelRow.holds Tryd.pinned (OpenSpec.ofChange interpFuelWrong)

/-- 'ontimelaw16.InterpInput': WHATEVER THE INPUT: true; the input reads as it did. -/
def interpInputSpec : ChangeSpec := { name := "interpInput", fn := fun _ => fun
  | [d1, d2, d3, d4, d5] => { results := [.lit (.bool true)], args := [d1, d2, d3, d4, d5] }
  | _ => none }
def interpInputRow : OpenClaim := { program := "ytgochgcchkdlmaadoor", sum := "c5e720f828bcefe22b5df5e092764bd043a0930853486143b33111d0560d4c74", func := "ontime/ontimelaw16.InterpInput", spec := "interpInput", inPlace := ["maps.clone"], unfollowed := true, recurses := true, named := ["ontime/lexer.signs"], loops := true, apart := false, laid := [("ontime/lexer.signs", laid_ontime_lexer_signs)] }
def InterpInputSaid : Prop := interpInputRow.holds Tryd.pinned (OpenSpec.ofChange interpInputSpec)

/-- ITS FALSE NEIGHBOUR: 'it returns false'. Refute it at one input. -/
def interpInputWrong : ChangeSpec := { name := "interpInput", fn := fun _ => fun
  | [d1, d2, d3, d4, d5] => { results := [.lit (.bool false)], args := [d1, d2, d3, d4, d5] }
  | _ => none }
def InterpInputWrongFalsely : Prop := interpInputRow.holds Tryd.pinned (OpenSpec.ofChange interpInputWrong)

/-- 'ontimelaw16.InterpApart': WHATEVER THE INPUT: true; the input reads as it did. -/
def interpApartSpec : ChangeSpec := { name := "interpApart", fn := fun _ => fun
  | [d1, d2, d3, d4, d5] => { results := [.lit (.bool true)], args := [d1, d2, d3, d4, d5] }
  | _ => none }
def interpApartRow : OpenClaim := { program := "ytgochgcchkdlmaadoor", sum := "c5e720f828bcefe22b5df5e092764bd043a0930853486143b33111d0560d4c74", func := "ontime/ontimelaw16.InterpApart", spec := "interpApart", inPlace := ["maps.clone"], unfollowed := true, recurses := true, named := ["ontime/lexer.signs"], loops := true, apart := false, laid := [("ontime/lexer.signs", laid_ontime_lexer_signs)] }
def InterpApartSaid : Prop := interpApartRow.holds Tryd.pinned (OpenSpec.ofChange interpApartSpec)

/-- ITS FALSE NEIGHBOUR: 'it returns false'. Refute it at one input. -/
def interpApartWrong : ChangeSpec := { name := "interpApart", fn := fun _ => fun
  | [d1, d2, d3, d4, d5] => { results := [.lit (.bool false)], args := [d1, d2, d3, d4, d5] }
  | _ => none }
def InterpApartWrongFalsely : Prop := interpApartRow.holds Tryd.pinned (OpenSpec.ofChange interpApartWrong)

/-- 'ontimelaw16.InterpUnrolls': WHATEVER THE INPUT: true; the input reads as it did. -/
def interpUnrollsSpec : ChangeSpec := { name := "interpUnrolls", fn := fun _ => fun
  | [d1, d2, d3, d4] => { results := [.lit (.bool true)], args := [d1, d2, d3, d4] }
  | _ => none }
def interpUnrollsRow : OpenClaim := { program := "ytgochgcchkdlmaadoor", sum := "c5e720f828bcefe22b5df5e092764bd043a0930853486143b33111d0560d4c74", func := "ontime/ontimelaw16.InterpUnrolls", spec := "interpUnrolls", inPlace := ["maps.clone"], unfollowed := true, recurses := true, named := ["ontime/lexer.signs"], loops := true, apart := false, laid := [("ontime/lexer.signs", laid_ontime_lexer_signs)] }
def InterpUnrollsSaid : Prop := interpUnrollsRow.holds Tryd.pinned (OpenSpec.ofChange interpUnrollsSpec)

/-- ITS FALSE NEIGHBOUR: 'it returns false'. Refute it at one input. -/
def interpUnrollsWrong : ChangeSpec := { name := "interpUnrolls", fn := fun _ => fun
  | [d1, d2, d3, d4] => { results := [.lit (.bool false)], args := [d1, d2, d3, d4] }
  | _ => none }
def InterpUnrollsWrongFalsely : Prop := interpUnrollsRow.holds Tryd.pinned (OpenSpec.ofChange interpUnrollsWrong)

/-- 'ontimelaw16.InterpSplits': WHATEVER THE INPUT: true; the input reads as it did. -/
def interpSplitsSpec : ChangeSpec := { name := "interpSplits", fn := fun _ => fun
  | [d1, d2, d3, d4, d5, d6] => { results := [.lit (.bool true)], args := [d1, d2, d3, d4, d5, d6] }
  | _ => none }
def interpSplitsRow : OpenClaim := { program := "ytgochgcchkdlmaadoor", sum := "c5e720f828bcefe22b5df5e092764bd043a0930853486143b33111d0560d4c74", func := "ontime/ontimelaw16.InterpSplits", spec := "interpSplits", inPlace := ["maps.clone"], unfollowed := true, recurses := true, named := ["ontime/lexer.signs"], loops := true, apart := false, laid := [("ontime/lexer.signs", laid_ontime_lexer_signs)] }
def InterpSplitsSaid : Prop := interpSplitsRow.holds Tryd.pinned (OpenSpec.ofChange interpSplitsSpec)

/-- ITS FALSE NEIGHBOUR: 'it returns false'. Refute it at one input. -/
def interpSplitsWrong : ChangeSpec := { name := "interpSplits", fn := fun _ => fun
  | [d1, d2, d3, d4, d5, d6] => { results := [.lit (.bool false)], args := [d1, d2, d3, d4, d5, d6] }
  | _ => none }
def InterpSplitsWrongFalsely : Prop := interpSplitsRow.holds Tryd.pinned (OpenSpec.ofChange interpSplitsWrong)

/-- 'ontimelaw16.InterpExprs': WHATEVER THE INPUT: true; the input reads as it did. -/
def interpExprsSpec : ChangeSpec := { name := "interpExprs", fn := fun _ => fun
  | [d1, d2] => { results := [.lit (.bool true)], args := [d1, d2] }
  | _ => none }
def interpExprsRow : OpenClaim := { program := "ytgochgcchkdlmaadoor", sum := "c5e720f828bcefe22b5df5e092764bd043a0930853486143b33111d0560d4c74", func := "ontime/ontimelaw16.InterpExprs", spec := "interpExprs", inPlace := ["maps.clone"], unfollowed := true, recurses := true, named := ["ontime/lexer.signs"], loops := true, apart := false, laid := [("ontime/lexer.signs", laid_ontime_lexer_signs)] }
def InterpExprsSaid : Prop := interpExprsRow.holds Tryd.pinned (OpenSpec.ofChange interpExprsSpec)

/-- ITS FALSE NEIGHBOUR: 'it returns false'. Refute it at one input. -/
def interpExprsWrong : ChangeSpec := { name := "interpExprs", fn := fun _ => fun
  | [d1, d2] => { results := [.lit (.bool false)], args := [d1, d2] }
  | _ => none }
def InterpExprsWrongFalsely : Prop := interpExprsRow.holds Tryd.pinned (OpenSpec.ofChange interpExprsWrong)

/- THE SECOND FORM. 'bulk': how many values and letters a reading holds, each counted each time it is reached (what is shared counts as often as it is met; a slice's spare places count too). A statement '..UptoSaid' is the law's where the arguments, and the package variables that the reading takes, are together of bulk at most 1048576: NARROWER than '..Said'. Prove '..Said' where nothing that the law and all that it calls make is longer than what came in: it says more and counts as full. Else prove '..UptoSaid'. A law counts once. -/
mutual
def uptoBulk {H : Type} : DataW H → Nat
  | .lit (.string bytes) => bytes.length + 1
  | .lit _ => 1
  | .nil => 1
  | .ptr d => uptoBulk d + 1
  | .slice elems spare => uptoBulkAll elems + uptoBulkAll spare + 1
  | .agg parts => uptoBulkAll parts + 1
  | .iface _ d => uptoBulk d + 1
  | .map entries => uptoBulkEntries entries + 1
  | .held _ => 1
def uptoBulkAll {H : Type} : List (DataW H) → Nat
  | [] => 0
  | d :: r => uptoBulk d + uptoBulkAll r
def uptoBulkEntries {H : Type} : List (Lit × DataW H) → Nat
  | [] => 0
  | x :: r => uptoBulkEntry x + uptoBulkEntries r
def uptoBulkEntry {H : Type} : Lit × DataW H → Nat
  | (.string bytes, d) => bytes.length + uptoBulk d + 1
  | (_, d) => uptoBulk d + 1
 end
def uptoSmall : (H : Type) → List (DataW H) → Bool := fun _ ds => decide (uptoBulkAll ds ≤ 1048576)
def OpenSpec.upto (s : _root_.Go.ChangeSpec) : _root_.Go.OpenSpec := { _root_.Go.OpenSpec.ofChange s with cond := some uptoSmall }

/-- 'ontimelaw16.InterpJobs', WHERE WHAT IT READS IS OF BULK AT MOST 1048576: true; the input reads as it did. -/
def interpJobsUptoRow : OpenClaim := { program := "ytgochgcchkdlmaadoor", sum := "c5e720f828bcefe22b5df5e092764bd043a0930853486143b33111d0560d4c74", func := "ontime/ontimelaw16.InterpJobs", spec := "interpJobs", inPlace := ["maps.clone"], unfollowed := true, recurses := true, named := ["ontime/lexer.signs"], loops := true, apart := false, laid := [("ontime/lexer.signs", laid_ontime_lexer_signs)], narrowed := true }
def InterpJobsUptoSaid : Prop := interpJobsUptoRow.holds Tryd.pinned (OpenSpec.upto interpJobsSpec)

/-- 'ontimelaw16.InterpNew', WHERE WHAT IT READS IS OF BULK AT MOST 1048576: true; the input reads as it did. -/
def interpNewUptoRow : OpenClaim := { program := "ytgochgcchkdlmaadoor", sum := "c5e720f828bcefe22b5df5e092764bd043a0930853486143b33111d0560d4c74", func := "ontime/ontimelaw16.InterpNew", spec := "interpNew", inPlace := ["maps.clone"], unfollowed := true, recurses := true, named := ["ontime/lexer.signs"], loops := true, apart := false, laid := [("ontime/lexer.signs", laid_ontime_lexer_signs)], narrowed := true }
def InterpNewUptoSaid : Prop := interpNewUptoRow.holds Tryd.pinned (OpenSpec.upto interpNewSpec)

/-- 'ontimelaw16.InterpFuel', WHERE WHAT IT READS IS OF BULK AT MOST 1048576: true; the input reads as it did. -/
def interpFuelUptoRow : OpenClaim := { program := "ytgochgcchkdlmaadoor", sum := "c5e720f828bcefe22b5df5e092764bd043a0930853486143b33111d0560d4c74", func := "ontime/ontimelaw16.InterpFuel", spec := "interpFuel", inPlace := ["maps.clone"], unfollowed := true, recurses := true, named := ["ontime/lexer.signs"], loops := true, apart := false, laid := [("ontime/lexer.signs", laid_ontime_lexer_signs)], narrowed := true }
def InterpFuelUptoSaid : Prop := interpFuelUptoRow.holds Tryd.pinned (OpenSpec.upto interpFuelSpec)

/-- 'ontimelaw16.InterpInput', WHERE WHAT IT READS IS OF BULK AT MOST 1048576: true; the input reads as it did. -/
def interpInputUptoRow : OpenClaim := { program := "ytgochgcchkdlmaadoor", sum := "c5e720f828bcefe22b5df5e092764bd043a0930853486143b33111d0560d4c74", func := "ontime/ontimelaw16.InterpInput", spec := "interpInput", inPlace := ["maps.clone"], unfollowed := true, recurses := true, named := ["ontime/lexer.signs"], loops := true, apart := false, laid := [("ontime/lexer.signs", laid_ontime_lexer_signs)], narrowed := true }
def InterpInputUptoSaid : Prop := interpInputUptoRow.holds Tryd.pinned (OpenSpec.upto interpInputSpec)

/-- 'ontimelaw16.InterpApart', WHERE WHAT IT READS IS OF BULK AT MOST 1048576: true; the input reads as it did. -/
def interpApartUptoRow : OpenClaim := { program := "ytgochgcchkdlmaadoor", sum := "c5e720f828bcefe22b5df5e092764bd043a0930853486143b33111d0560d4c74", func := "ontime/ontimelaw16.InterpApart", spec := "interpApart", inPlace := ["maps.clone"], unfollowed := true, recurses := true, named := ["ontime/lexer.signs"], loops := true, apart := false, laid := [("ontime/lexer.signs", laid_ontime_lexer_signs)], narrowed := true }
def InterpApartUptoSaid : Prop := interpApartUptoRow.holds Tryd.pinned (OpenSpec.upto interpApartSpec)

/-- 'ontimelaw16.InterpUnrolls', WHERE WHAT IT READS IS OF BULK AT MOST 1048576: true; the input reads as it did. -/
def interpUnrollsUptoRow : OpenClaim := { program := "ytgochgcchkdlmaadoor", sum := "c5e720f828bcefe22b5df5e092764bd043a0930853486143b33111d0560d4c74", func := "ontime/ontimelaw16.InterpUnrolls", spec := "interpUnrolls", inPlace := ["maps.clone"], unfollowed := true, recurses := true, named := ["ontime/lexer.signs"], loops := true, apart := false, laid := [("ontime/lexer.signs", laid_ontime_lexer_signs)], narrowed := true }
def InterpUnrollsUptoSaid : Prop := interpUnrollsUptoRow.holds Tryd.pinned (OpenSpec.upto interpUnrollsSpec)

/-- 'ontimelaw16.InterpSplits', WHERE WHAT IT READS IS OF BULK AT MOST 1048576: true; the input reads as it did. -/
def interpSplitsUptoRow : OpenClaim := { program := "ytgochgcchkdlmaadoor", sum := "c5e720f828bcefe22b5df5e092764bd043a0930853486143b33111d0560d4c74", func := "ontime/ontimelaw16.InterpSplits", spec := "interpSplits", inPlace := ["maps.clone"], unfollowed := true, recurses := true, named := ["ontime/lexer.signs"], loops := true, apart := false, laid := [("ontime/lexer.signs", laid_ontime_lexer_signs)], narrowed := true }
def InterpSplitsUptoSaid : Prop := interpSplitsUptoRow.holds Tryd.pinned (OpenSpec.upto interpSplitsSpec)

/-- 'ontimelaw16.InterpExprs', WHERE WHAT IT READS IS OF BULK AT MOST 1048576: true; the input reads as it did. -/
def interpExprsUptoRow : OpenClaim := { program := "ytgochgcchkdlmaadoor", sum := "c5e720f828bcefe22b5df5e092764bd043a0930853486143b33111d0560d4c74", func := "ontime/ontimelaw16.InterpExprs", spec := "interpExprs", inPlace := ["maps.clone"], unfollowed := true, recurses := true, named := ["ontime/lexer.signs"], loops := true, apart := false, laid := [("ontime/lexer.signs", laid_ontime_lexer_signs)], narrowed := true }
def InterpExprsUptoSaid : Prop := interpExprsUptoRow.holds Tryd.pinned (OpenSpec.upto interpExprsSpec)

end Rows
end Go.Proofs.YtgochgcchkdlmaaDoor
