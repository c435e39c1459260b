/-
  NARROWER THAN 'FOR EVERY INPUT', by the rows' own cells (each row's printed sentence says how): AstKinds: loops, laid · AstMeasures: loops, laid · AstWalk: loops, laid · AstParts: loops, laid · AstAt: loops, laid · AstEqual: loops, laid · AstClone: loops, laid · AstCounts: loops, laid · AstValid: loops, laid.
  DERIVED. THE GIVEN ROWS OF THIS SEAT. 9 by the template 'for every input the law returns true; each argument reads behind the call as it read before'; 0 by the template 'total and deterministic' (their statements: YtfkegjdgbnkicaaDoorTotals.lean).
  GIVEN WITH THE SEED: the statements are not yours to turn. If you find one false, say at which input.
  Laid BY PROGRAM, IN A SANDBOX (cutbox-rows.mjs): the forced cells as the released guide's own fill.sh prints them over the translation 0768d2ff4c97eb79… (all of the seat's roots in one cut). By AI agents, Wed Nov 11 2026. No macro, syntax, notation, axiom, sorry.
-/
import Derived.Test.YtfkegjdgbnkicaaDoorChecked
import GoSem.Claim
import GoSem.ClaimJoined
import GoSem.ClaimMapViews
import Derived.JoinedTies
import Derived.KernelRfl
namespace Go.Proofs.YtfkegjdgbnkicaaDoor
/- THE CELL 'sum', in the pinned program and in every row, IS THE sha256 OF THE DUMP (.gsa) THAT YtfkegjdgbnkicaaDoorProg.lean LOADS. Nothing in Lean hashes anything: it is a label: what it is worth is what the hold of that sum in a sandbox is worth. -/
noncomputable def Tryd.pinned : Pinned := { name := "ytfkegjdgbnkicaadoor", sum := "0768d2ff4c97eb790223c8235cbce4058ff1fae1e43d3897bc52cd25523ba073", checked := Tryd.checked }
namespace Rows
def none {H : Type} : Left H := { results := [], args := [] }

/- WHAT THE LISTED PACKAGE-LEVEL VARIABLES READ AS WHEN THE CALL BEGINS. Each datum BY PROGRAM (the guide's laid-datum.mjs) off the statement by which the dump's own 'gosem.cut.vars' lays the variable. In a bare row this is a premise. The card (YtfkegjdgbnkicaaDoorCards.lean) ties it to the program's text. -/
def laid_ontime_lexer_signs {H : Type} : DataW H := .agg [.lit (.string [60, 60]), .lit (.string [62, 62]), .lit (.string [60, 61]), .lit (.string [62, 61]), .lit (.string [61, 61]), .lit (.string [33, 61]), .lit (.string [38, 38]), .lit (.string [124, 124]), .lit (.string [43]), .lit (.string [45]), .lit (.string [42]), .lit (.string [47]), .lit (.string [37]), .lit (.string [38]), .lit (.string [124]), .lit (.string [94]), .lit (.string [60]), .lit (.string [62]), .lit (.string [33]), .lit (.string [61]), .lit (.string [91]), .lit (.string [93]), .lit (.string [123]), .lit (.string [125]), .lit (.string [40]), .lit (.string [41]), .lit (.string [59]), .lit (.string [44])]

/-- 'ontimelaw12.AstKinds': WHATEVER THE INPUT: true; the input reads as it did. -/
def astKindsSpec : ChangeSpec := { name := "astKinds", fn := fun _ => fun
  | [d] => { results := [.lit (.bool true)], args := [d] }
  | _ => none }
def astKindsRow : OpenClaim := { program := "ytfkegjdgbnkicaadoor", sum := "0768d2ff4c97eb790223c8235cbce4058ff1fae1e43d3897bc52cd25523ba073", func := "ontime/ontimelaw12.AstKinds", spec := "astKinds", unfollowed := true, recurses := true, named := ["ontime/lexer.signs"], loops := true, apart := false, laid := [("ontime/lexer.signs", laid_ontime_lexer_signs)] }
def AstKindsSaid : Prop := astKindsRow.holds Tryd.pinned (OpenSpec.ofChange astKindsSpec)

/-- ITS FALSE NEIGHBOUR: 'it returns false'. Refute it at one input. -/
def astKindsWrong : ChangeSpec := { name := "astKinds", fn := fun _ => fun
  | [d] => { results := [.lit (.bool false)], args := [d] }
  | _ => none }
def AstKindsWrongFalsely : Prop := astKindsRow.holds Tryd.pinned (OpenSpec.ofChange astKindsWrong)

/-- 'ontimelaw12.AstMeasures': WHATEVER THE INPUT: true; the input reads as it did. -/
def astMeasuresSpec : ChangeSpec := { name := "astMeasures", fn := fun _ => fun
  | [d] => { results := [.lit (.bool true)], args := [d] }
  | _ => none }
def astMeasuresRow : OpenClaim := { program := "ytfkegjdgbnkicaadoor", sum := "0768d2ff4c97eb790223c8235cbce4058ff1fae1e43d3897bc52cd25523ba073", func := "ontime/ontimelaw12.AstMeasures", spec := "astMeasures", unfollowed := true, recurses := true, named := ["ontime/lexer.signs"], loops := true, apart := false, laid := [("ontime/lexer.signs", laid_ontime_lexer_signs)] }
def AstMeasuresSaid : Prop := astMeasuresRow.holds Tryd.pinned (OpenSpec.ofChange astMeasuresSpec)

/-- ITS FALSE NEIGHBOUR: 'it returns false'. Refute it at one input. -/
def astMeasuresWrong : ChangeSpec := { name := "astMeasures", fn := fun _ => fun
  | [d] => { results := [.lit (.bool false)], args := [d] }
  | _ => none }
def AstMeasuresWrongFalsely : Prop := astMeasuresRow.holds Tryd.pinned (OpenSpec.ofChange astMeasuresWrong)

/-- 'ontimelaw12.AstWalk': WHATEVER THE INPUT: true; the input reads as it did. -/
def astWalkSpec : ChangeSpec := { name := "astWalk", fn := fun _ => fun
  | [d1, d2] => { results := [.lit (.bool true)], args := [d1, d2] }
  | _ => none }
def astWalkRow : OpenClaim := { program := "ytfkegjdgbnkicaadoor", sum := "0768d2ff4c97eb790223c8235cbce4058ff1fae1e43d3897bc52cd25523ba073", func := "ontime/ontimelaw12.AstWalk", spec := "astWalk", unfollowed := true, recurses := true, named := ["ontime/lexer.signs"], loops := true, apart := false, laid := [("ontime/lexer.signs", laid_ontime_lexer_signs)] }
def AstWalkSaid : Prop := astWalkRow.holds Tryd.pinned (OpenSpec.ofChange astWalkSpec)

/-- ITS FALSE NEIGHBOUR: 'it returns false'. Refute it at one input. -/
def astWalkWrong : ChangeSpec := { name := "astWalk", fn := fun _ => fun
  | [d1, d2] => { results := [.lit (.bool false)], args := [d1, d2] }
  | _ => none }
def AstWalkWrongFalsely : Prop := astWalkRow.holds Tryd.pinned (OpenSpec.ofChange astWalkWrong)

/-- 'ontimelaw12.AstParts': WHATEVER THE INPUT: true; the input reads as it did. -/
def astPartsSpec : ChangeSpec := { name := "astParts", fn := fun _ => fun
  | [d1, d2] => { results := [.lit (.bool true)], args := [d1, d2] }
  | _ => none }
def astPartsRow : OpenClaim := { program := "ytfkegjdgbnkicaadoor", sum := "0768d2ff4c97eb790223c8235cbce4058ff1fae1e43d3897bc52cd25523ba073", func := "ontime/ontimelaw12.AstParts", spec := "astParts", unfollowed := true, recurses := true, named := ["ontime/lexer.signs"], loops := true, apart := false, laid := [("ontime/lexer.signs", laid_ontime_lexer_signs)] }
def AstPartsSaid : Prop := astPartsRow.holds Tryd.pinned (OpenSpec.ofChange astPartsSpec)

/-- ITS FALSE NEIGHBOUR: 'it returns false'. Refute it at one input. -/
def astPartsWrong : ChangeSpec := { name := "astParts", fn := fun _ => fun
  | [d1, d2] => { results := [.lit (.bool false)], args := [d1, d2] }
  | _ => none }
def AstPartsWrongFalsely : Prop := astPartsRow.holds Tryd.pinned (OpenSpec.ofChange astPartsWrong)

/-- 'ontimelaw12.AstAt': WHATEVER THE INPUT: true; the input reads as it did. -/
def astAtSpec : ChangeSpec := { name := "astAt", fn := fun _ => fun
  | [d1, d2] => { results := [.lit (.bool true)], args := [d1, d2] }
  | _ => none }
def astAtRow : OpenClaim := { program := "ytfkegjdgbnkicaadoor", sum := "0768d2ff4c97eb790223c8235cbce4058ff1fae1e43d3897bc52cd25523ba073", func := "ontime/ontimelaw12.AstAt", spec := "astAt", unfollowed := true, recurses := true, named := ["ontime/lexer.signs"], loops := true, apart := false, laid := [("ontime/lexer.signs", laid_ontime_lexer_signs)] }
def AstAtSaid : Prop := astAtRow.holds Tryd.pinned (OpenSpec.ofChange astAtSpec)

/-- ITS FALSE NEIGHBOUR: 'it returns false'. Refute it at one input. -/
def astAtWrong : ChangeSpec := { name := "astAt", fn := fun _ => fun
  | [d1, d2] => { results := [.lit (.bool false)], args := [d1, d2] }
  | _ => none }
def AstAtWrongFalsely : Prop := astAtRow.holds Tryd.pinned (OpenSpec.ofChange astAtWrong)

/-- 'ontimelaw12.AstEqual': WHATEVER THE INPUT: true; the input reads as it did. -/
def astEqualSpec : ChangeSpec := { name := "astEqual", fn := fun _ => fun
  | [d1, d2, d3] => { results := [.lit (.bool true)], args := [d1, d2, d3] }
  | _ => none }
def astEqualRow : OpenClaim := { program := "ytfkegjdgbnkicaadoor", sum := "0768d2ff4c97eb790223c8235cbce4058ff1fae1e43d3897bc52cd25523ba073", func := "ontime/ontimelaw12.AstEqual", spec := "astEqual", unfollowed := true, recurses := true, named := ["ontime/lexer.signs"], loops := true, apart := false, laid := [("ontime/lexer.signs", laid_ontime_lexer_signs)] }
def AstEqualSaid : Prop := astEqualRow.holds Tryd.pinned (OpenSpec.ofChange astEqualSpec)

/-- ITS FALSE NEIGHBOUR: 'it returns false'. Refute it at one input. -/
def astEqualWrong : ChangeSpec := { name := "astEqual", fn := fun _ => fun
  | [d1, d2, d3] => { results := [.lit (.bool false)], args := [d1, d2, d3] }
  | _ => none }
def AstEqualWrongFalsely : Prop := astEqualRow.holds Tryd.pinned (OpenSpec.ofChange astEqualWrong)

/-- 'ontimelaw12.AstClone': WHATEVER THE INPUT: true; the input reads as it did. -/
def astCloneSpec : ChangeSpec := { name := "astClone", fn := fun _ => fun
  | [d] => { results := [.lit (.bool true)], args := [d] }
  | _ => none }
def astCloneRow : OpenClaim := { program := "ytfkegjdgbnkicaadoor", sum := "0768d2ff4c97eb790223c8235cbce4058ff1fae1e43d3897bc52cd25523ba073", func := "ontime/ontimelaw12.AstClone", spec := "astClone", unfollowed := true, recurses := true, named := ["ontime/lexer.signs"], loops := true, apart := false, laid := [("ontime/lexer.signs", laid_ontime_lexer_signs)] }
def AstCloneSaid : Prop := astCloneRow.holds Tryd.pinned (OpenSpec.ofChange astCloneSpec)

/-- ITS FALSE NEIGHBOUR: 'it returns false'. Refute it at one input. -/
def astCloneWrong : ChangeSpec := { name := "astClone", fn := fun _ => fun
  | [d] => { results := [.lit (.bool false)], args := [d] }
  | _ => none }
def AstCloneWrongFalsely : Prop := astCloneRow.holds Tryd.pinned (OpenSpec.ofChange astCloneWrong)

/-- 'ontimelaw12.AstCounts': WHATEVER THE INPUT: true; the input reads as it did. -/
def astCountsSpec : ChangeSpec := { name := "astCounts", fn := fun _ => fun
  | [d] => { results := [.lit (.bool true)], args := [d] }
  | _ => none }
def astCountsRow : OpenClaim := { program := "ytfkegjdgbnkicaadoor", sum := "0768d2ff4c97eb790223c8235cbce4058ff1fae1e43d3897bc52cd25523ba073", func := "ontime/ontimelaw12.AstCounts", spec := "astCounts", unfollowed := true, recurses := true, named := ["ontime/lexer.signs"], loops := true, apart := false, laid := [("ontime/lexer.signs", laid_ontime_lexer_signs)] }
def AstCountsSaid : Prop := astCountsRow.holds Tryd.pinned (OpenSpec.ofChange astCountsSpec)

/-- ITS FALSE NEIGHBOUR: 'it returns false'. Refute it at one input. -/
def astCountsWrong : ChangeSpec := { name := "astCounts", fn := fun _ => fun
  | [d] => { results := [.lit (.bool false)], args := [d] }
  | _ => none }
def AstCountsWrongFalsely : Prop := astCountsRow.holds Tryd.pinned (OpenSpec.ofChange astCountsWrong)

/-- 'ontimelaw12.AstValid': WHATEVER THE INPUT: true; the input reads as it did. -/
def astValidSpec : ChangeSpec := { name := "astValid", fn := fun _ => fun
  | [d1, d2] => { results := [.lit (.bool true)], args := [d1, d2] }
  | _ => none }
def astValidRow : OpenClaim := { program := "ytfkegjdgbnkicaadoor", sum := "0768d2ff4c97eb790223c8235cbce4058ff1fae1e43d3897bc52cd25523ba073", func := "ontime/ontimelaw12.AstValid", spec := "astValid", unfollowed := true, recurses := true, named := ["ontime/lexer.signs"], loops := true, apart := false, laid := [("ontime/lexer.signs", laid_ontime_lexer_signs)] }
def AstValidSaid : Prop := astValidRow.holds Tryd.pinned (OpenSpec.ofChange astValidSpec)

/-- ITS FALSE NEIGHBOUR: 'it returns false'. Refute it at one input. -/
def astValidWrong : ChangeSpec := { name := "astValid", fn := fun _ => fun
  | [d1, d2] => { results := [.lit (.bool false)], args := [d1, d2] }
  | _ => none }
def AstValidWrongFalsely : Prop := astValidRow.holds Tryd.pinned (OpenSpec.ofChange astValidWrong)

/- THE SECOND FORM. 'bulk': how many values and letters a reading holds, each counted each time it is reached (what is shared counts as often as it is met; a slice's spare places count too). A statement '..UptoSaid' is the law's where the arguments, and the package variables that the reading takes, are together of bulk at most 1048576: NARROWER than '..Said'. Prove '..Said' where nothing that the law and all that it calls make is longer than what came in: it says more and counts as full. Else prove '..UptoSaid'. A law counts once. -/
mutual
def uptoBulk {H : Type} : DataW H → Nat
  | .lit (.string bytes) => bytes.length + 1
  | .lit _ => 1
  | .nil => 1
  | .ptr d => uptoBulk d + 1
  | .slice elems spare => uptoBulkAll elems + uptoBulkAll spare + 1
  | .agg parts => uptoBulkAll parts + 1
  | .iface _ d => uptoBulk d + 1
  | .map entries => uptoBulkEntries entries + 1
  | .held _ => 1
def uptoBulkAll {H : Type} : List (DataW H) → Nat
  | [] => 0
  | d :: r => uptoBulk d + uptoBulkAll r
def uptoBulkEntries {H : Type} : List (Lit × DataW H) → Nat
  | [] => 0
  | x :: r => uptoBulkEntry x + uptoBulkEntries r
def uptoBulkEntry {H : Type} : Lit × DataW H → Nat
  | (.string bytes, d) => bytes.length + uptoBulk d + 1
  | (_, d) => uptoBulk d + 1
 end
def uptoSmall : (H : Type) → List (DataW H) → Bool := fun _ ds => decide (uptoBulkAll ds ≤ 1048576)
def OpenSpec.upto (s : _root_.Go.ChangeSpec) : _root_.Go.OpenSpec := { _root_.Go.OpenSpec.ofChange s with cond := some uptoSmall }

/-- 'ontimelaw12.AstKinds', WHERE WHAT IT READS IS OF BULK AT MOST 1048576: true; the input reads as it did. -/
def astKindsUptoRow : OpenClaim := { program := "ytfkegjdgbnkicaadoor", sum := "0768d2ff4c97eb790223c8235cbce4058ff1fae1e43d3897bc52cd25523ba073", func := "ontime/ontimelaw12.AstKinds", spec := "astKinds", unfollowed := true, recurses := true, named := ["ontime/lexer.signs"], loops := true, apart := false, laid := [("ontime/lexer.signs", laid_ontime_lexer_signs)], narrowed := true }
def AstKindsUptoSaid : Prop := astKindsUptoRow.holds Tryd.pinned (OpenSpec.upto astKindsSpec)

/-- 'ontimelaw12.AstMeasures', WHERE WHAT IT READS IS OF BULK AT MOST 1048576: true; the input reads as it did. -/
def astMeasuresUptoRow : OpenClaim := { program := "ytfkegjdgbnkicaadoor", sum := "0768d2ff4c97eb790223c8235cbce4058ff1fae1e43d3897bc52cd25523ba073", func := "ontime/ontimelaw12.AstMeasures", spec := "astMeasures", unfollowed := true, recurses := true, named := ["ontime/lexer.signs"], loops := true, apart := false, laid := [("ontime/lexer.signs", laid_ontime_lexer_signs)], narrowed := true }
def AstMeasuresUptoSaid : Prop := astMeasuresUptoRow.holds Tryd.pinned (OpenSpec.upto astMeasuresSpec)

/-- 'ontimelaw12.AstWalk', WHERE WHAT IT READS IS OF BULK AT MOST 1048576: true; the input reads as it did. -/
def astWalkUptoRow : OpenClaim := { program := "ytfkegjdgbnkicaadoor", sum := "0768d2ff4c97eb790223c8235cbce4058ff1fae1e43d3897bc52cd25523ba073", func := "ontime/ontimelaw12.AstWalk", spec := "astWalk", unfollowed := true, recurses := true, named := ["ontime/lexer.signs"], loops := true, apart := false, laid := [("ontime/lexer.signs", laid_ontime_lexer_signs)], narrowed := true }
def AstWalkUptoSaid : Prop := astWalkUptoRow.holds Tryd.pinned (OpenSpec.upto astWalkSpec)

/-- 'ontimelaw12.AstParts', WHERE WHAT IT READS IS OF BULK AT MOST 1048576: true; the input reads as it did. -/
def astPartsUptoRow : OpenClaim := { program := "ytfkegjdgbnkicaadoor", sum := "0768d2ff4c97eb790223c8235cbce4058ff1fae1e43d3897bc52cd25523ba073", func := "ontime/ontimelaw12.AstParts", spec := "astParts", unfollowed := true, recurses := true, named := ["ontime/lexer.signs"], loops := true, apart := false, laid := [("ontime/lexer.signs", laid_ontime_lexer_signs)], narrowed := true }
def AstPartsUptoSaid : Prop := astPartsUptoRow.holds Tryd.pinned (OpenSpec.upto astPartsSpec)

/-- 'ontimelaw12.AstAt', WHERE WHAT IT READS IS OF BULK AT MOST 1048576: true; the input reads as it did. -/
def astAtUptoRow : OpenClaim := { program := "ytfkegjdgbnkicaadoor", sum := "0768d2ff4c97eb790223c8235cbce4058ff1fae1e43d3897bc52cd25523ba073", func := "ontime/ontimelaw12.AstAt", spec := "astAt", unfollowed := true, recurses := true, named := ["ontime/lexer.signs"], loops := true, apart := false, laid := [("ontime/lexer.signs", laid_ontime_lexer_signs)], narrowed := true }
def AstAtUptoSaid : Prop := astAtUptoRow.holds Tryd.pinned (OpenSpec.upto astAtSpec)

/-- 'ontimelaw12.AstEqual', WHERE WHAT IT READS IS OF BULK AT MOST 1048576: true; the input reads as it did. -/
def astEqualUptoRow : OpenClaim := { program := "ytfkegjdgbnkicaadoor", sum := "0768d2ff4c97eb790223c8235cbce4058ff1fae1e43d3897bc52cd25523ba073", func := "ontime/ontimelaw12.AstEqual", spec := "astEqual", unfollowed := true, recurses := true, named := ["ontime/lexer.signs"], loops := true, apart := false, laid := [("ontime/lexer.signs", laid_ontime_lexer_signs)], narrowed := true }
def AstEqualUptoSaid : Prop := astEqualUptoRow.holds Tryd.pinned (OpenSpec.upto astEqualSpec)

/-- 'ontimelaw12.AstClone', WHERE WHAT IT READS IS OF BULK AT MOST 1048576: true; the input reads as it did. -/
def astCloneUptoRow : OpenClaim := { program := "ytfkegjdgbnkicaadoor", sum := "0768d2ff4c97eb790223c8235cbce4058ff1fae1e43d3897bc52cd25523ba073", func := "ontime/ontimelaw12.AstClone", spec := "astClone", unfollowed := true, recurses := true, named := ["ontime/lexer.signs"], loops := true, apart := false, laid := [("ontime/lexer.signs", laid_ontime_lexer_signs)], narrowed := true }
def AstCloneUptoSaid : Prop := astCloneUptoRow.holds Tryd.pinned (OpenSpec.upto astCloneSpec)

/-- 'ontimelaw12.AstCounts', WHERE WHAT IT READS IS OF BULK AT MOST 1048576: true; the input reads as it did. -/
def astCountsUptoRow : OpenClaim := { program := "ytfkegjdgbnkicaadoor", sum := "0768d2ff4c97eb790223c8235cbce4058ff1fae1e43d3897bc52cd25523ba073", func := "ontime/ontimelaw12.AstCounts", spec := "astCounts", unfollowed := true, recurses := true, named := ["ontime/lexer.signs"], loops := true, apart := false, laid := [("ontime/lexer.signs", laid_ontime_lexer_signs)], narrowed := true }
def AstCountsUptoSaid : Prop := astCountsUptoRow.holds Tryd.pinned (OpenSpec.upto astCountsSpec)

/-- 'ontimelaw12.AstValid', WHERE WHAT IT READS IS OF BULK AT MOST 1048576: true; the input reads as it did. -/
def astValidUptoRow : OpenClaim := { program := "ytfkegjdgbnkicaadoor", sum := "0768d2ff4c97eb790223c8235cbce4058ff1fae1e43d3897bc52cd25523ba073", func := "ontime/ontimelaw12.AstValid", spec := "astValid", unfollowed := true, recurses := true, named := ["ontime/lexer.signs"], loops := true, apart := false, laid := [("ontime/lexer.signs", laid_ontime_lexer_signs)], narrowed := true }
def AstValidUptoSaid : Prop := astValidUptoRow.holds Tryd.pinned (OpenSpec.upto astValidSpec)

end Rows
end Go.Proofs.YtfkegjdgbnkicaaDoor
