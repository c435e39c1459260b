/-
  No cell of these rows narrows 'for every input' (looked for: loops, veiled, ifaces, maps, wideKeys, modest, calm, conditions, laid).
  DERIVED. THE GIVEN ROWS OF THIS SEAT. 8 by the template 'for every input the law returns true; each argument reads behind the call as it read before'; 0 by the template 'total and deterministic' (their statements: YtgdinmlpogpadaaTotals.lean).
  GIVEN WITH THE SEED: the statements are not yours to turn. If you find one false, say at which input.
  Laid BY PROGRAM, IN A SANDBOX (cutbox-rows.mjs): the forced cells as the released guide's own fill.sh prints them over the translation 6a38305db042720b… (all of the seat's roots in one cut). By AI agents, Wed Nov 11 2026. No macro, syntax, notation, axiom, sorry.
-/
import Derived.Test.YtgdinmlpogpadaaChecked
import GoSem.Claim
import GoSem.ClaimJoined
import GoSem.ClaimMapViews
import Derived.JoinedTies
import Derived.KernelRfl
namespace Go.Proofs.Ytgdinmlpogpadaa
/- THE CELL 'sum', in the pinned program and in every row, IS THE sha256 OF THE DUMP (.gsa) THAT YtgdinmlpogpadaaProg.lean LOADS. Nothing in Lean hashes anything: it is a label: what it is worth is what the hold of that sum in a sandbox is worth. -/
noncomputable def Try.pinned : Pinned := { name := "ytgdinmlpogpadaa", sum := "6a38305db042720bc5ec0104e2216a663acb9bf117a0689063ad20e29155b2de", checked := Try.checked }
namespace Rows
def none {H : Type} : Left H := { results := [], args := [] }

/-- 'ontimelaw03.WordApply': WHATEVER THE INPUT: true; the input reads as it did. -/
def wordApplySpec : ChangeSpec := { name := "wordApply", fn := fun _ => fun
  | [d1, d2, d3] => { results := [.lit (.bool true)], args := [d1, d2, d3] }
  | _ => none }
def wordApplyRow : OpenClaim := { program := "ytgdinmlpogpadaa", sum := "6a38305db042720bc5ec0104e2216a663acb9bf117a0689063ad20e29155b2de", func := "ontime/ontimelaw03.WordApply", spec := "wordApply", apart := false }
def WordApplySaid : Prop := wordApplyRow.holds Try.pinned (OpenSpec.ofChange wordApplySpec)

/-- ITS FALSE NEIGHBOUR: 'it returns false'. Refute it at one input. -/
def wordApplyWrong : ChangeSpec := { name := "wordApply", fn := fun _ => fun
  | [d1, d2, d3] => { results := [.lit (.bool false)], args := [d1, d2, d3] }
  | _ => none }
def WordApplyWrongFalsely : Prop := wordApplyRow.holds Try.pinned (OpenSpec.ofChange wordApplyWrong)

/-- 'ontimelaw03.WordDivides': WHATEVER THE INPUT: true; the input reads as it did. -/
def wordDividesSpec : ChangeSpec := { name := "wordDivides", fn := fun _ => fun
  | [d1, d2] => { results := [.lit (.bool true)], args := [d1, d2] }
  | _ => none }
def wordDividesRow : OpenClaim := { program := "ytgdinmlpogpadaa", sum := "6a38305db042720bc5ec0104e2216a663acb9bf117a0689063ad20e29155b2de", func := "ontime/ontimelaw03.WordDivides", spec := "wordDivides", unfollowed := true, recurses := true, apart := false }
def WordDividesSaid : Prop := wordDividesRow.holds Try.pinned (OpenSpec.ofChange wordDividesSpec)

/-- ITS FALSE NEIGHBOUR: 'it returns false'. Refute it at one input. -/
def wordDividesWrong : ChangeSpec := { name := "wordDivides", fn := fun _ => fun
  | [d1, d2] => { results := [.lit (.bool false)], args := [d1, d2] }
  | _ => none }
def WordDividesWrongFalsely : Prop := wordDividesRow.holds Try.pinned (OpenSpec.ofChange wordDividesWrong)

/-- 'ontimelaw03.WordShifts': WHATEVER THE INPUT: true; the input reads as it did. -/
def wordShiftsSpec : ChangeSpec := { name := "wordShifts", fn := fun _ => fun
  | [d1, d2, d3] => { results := [.lit (.bool true)], args := [d1, d2, d3] }
  | _ => none }
def wordShiftsRow : OpenClaim := { program := "ytgdinmlpogpadaa", sum := "6a38305db042720bc5ec0104e2216a663acb9bf117a0689063ad20e29155b2de", func := "ontime/ontimelaw03.WordShifts", spec := "wordShifts", apart := false }
def WordShiftsSaid : Prop := wordShiftsRow.holds Try.pinned (OpenSpec.ofChange wordShiftsSpec)

/-- ITS FALSE NEIGHBOUR: 'it returns false'. Refute it at one input. -/
def wordShiftsWrong : ChangeSpec := { name := "wordShifts", fn := fun _ => fun
  | [d1, d2, d3] => { results := [.lit (.bool false)], args := [d1, d2, d3] }
  | _ => none }
def WordShiftsWrongFalsely : Prop := wordShiftsRow.holds Try.pinned (OpenSpec.ofChange wordShiftsWrong)

/-- 'ontimelaw03.WordUnary': WHATEVER THE INPUT: true; the input reads as it did. -/
def wordUnarySpec : ChangeSpec := { name := "wordUnary", fn := fun _ => fun
  | [d1, d2] => { results := [.lit (.bool true)], args := [d1, d2] }
  | _ => none }
def wordUnaryRow : OpenClaim := { program := "ytgdinmlpogpadaa", sum := "6a38305db042720bc5ec0104e2216a663acb9bf117a0689063ad20e29155b2de", func := "ontime/ontimelaw03.WordUnary", spec := "wordUnary", apart := false }
def WordUnarySaid : Prop := wordUnaryRow.holds Try.pinned (OpenSpec.ofChange wordUnarySpec)

/-- ITS FALSE NEIGHBOUR: 'it returns false'. Refute it at one input. -/
def wordUnaryWrong : ChangeSpec := { name := "wordUnary", fn := fun _ => fun
  | [d1, d2] => { results := [.lit (.bool false)], args := [d1, d2] }
  | _ => none }
def WordUnaryWrongFalsely : Prop := wordUnaryRow.holds Try.pinned (OpenSpec.ofChange wordUnaryWrong)

/-- 'ontimelaw03.WordRing': WHATEVER THE INPUT: true; the input reads as it did. -/
def wordRingSpec : ChangeSpec := { name := "wordRing", fn := fun _ => fun
  | [d1, d2, d3] => { results := [.lit (.bool true)], args := [d1, d2, d3] }
  | _ => none }
def wordRingRow : OpenClaim := { program := "ytgdinmlpogpadaa", sum := "6a38305db042720bc5ec0104e2216a663acb9bf117a0689063ad20e29155b2de", func := "ontime/ontimelaw03.WordRing", spec := "wordRing", apart := false }
def WordRingSaid : Prop := wordRingRow.holds Try.pinned (OpenSpec.ofChange wordRingSpec)

/-- ITS FALSE NEIGHBOUR: 'it returns false'. Refute it at one input. -/
def wordRingWrong : ChangeSpec := { name := "wordRing", fn := fun _ => fun
  | [d1, d2, d3] => { results := [.lit (.bool false)], args := [d1, d2, d3] }
  | _ => none }
def WordRingWrongFalsely : Prop := wordRingRow.holds Try.pinned (OpenSpec.ofChange wordRingWrong)

/-- 'ontimelaw03.WordBits': WHATEVER THE INPUT: true; the input reads as it did. -/
def wordBitsSpec : ChangeSpec := { name := "wordBits", fn := fun _ => fun
  | [d1, d2] => { results := [.lit (.bool true)], args := [d1, d2] }
  | _ => none }
def wordBitsRow : OpenClaim := { program := "ytgdinmlpogpadaa", sum := "6a38305db042720bc5ec0104e2216a663acb9bf117a0689063ad20e29155b2de", func := "ontime/ontimelaw03.WordBits", spec := "wordBits", unfollowed := true, recurses := true, apart := false }
def WordBitsSaid : Prop := wordBitsRow.holds Try.pinned (OpenSpec.ofChange wordBitsSpec)

/-- ITS FALSE NEIGHBOUR: 'it returns false'. Refute it at one input. -/
def wordBitsWrong : ChangeSpec := { name := "wordBits", fn := fun _ => fun
  | [d1, d2] => { results := [.lit (.bool false)], args := [d1, d2] }
  | _ => none }
def WordBitsWrongFalsely : Prop := wordBitsRow.holds Try.pinned (OpenSpec.ofChange wordBitsWrong)

/-- 'ontimelaw03.WordOrder': WHATEVER THE INPUT: true; the input reads as it did. -/
def wordOrderSpec : ChangeSpec := { name := "wordOrder", fn := fun _ => fun
  | [d1, d2, d3] => { results := [.lit (.bool true)], args := [d1, d2, d3] }
  | _ => none }
def wordOrderRow : OpenClaim := { program := "ytgdinmlpogpadaa", sum := "6a38305db042720bc5ec0104e2216a663acb9bf117a0689063ad20e29155b2de", func := "ontime/ontimelaw03.WordOrder", spec := "wordOrder", apart := false }
def WordOrderSaid : Prop := wordOrderRow.holds Try.pinned (OpenSpec.ofChange wordOrderSpec)

/-- ITS FALSE NEIGHBOUR: 'it returns false'. Refute it at one input. -/
def wordOrderWrong : ChangeSpec := { name := "wordOrder", fn := fun _ => fun
  | [d1, d2, d3] => { results := [.lit (.bool false)], args := [d1, d2, d3] }
  | _ => none }
def WordOrderWrongFalsely : Prop := wordOrderRow.holds Try.pinned (OpenSpec.ofChange wordOrderWrong)

/-- 'ontimelaw03.WordLogic': WHATEVER THE INPUT: true; the input reads as it did. -/
def wordLogicSpec : ChangeSpec := { name := "wordLogic", fn := fun _ => fun
  | [d1, d2] => { results := [.lit (.bool true)], args := [d1, d2] }
  | _ => none }
def wordLogicRow : OpenClaim := { program := "ytgdinmlpogpadaa", sum := "6a38305db042720bc5ec0104e2216a663acb9bf117a0689063ad20e29155b2de", func := "ontime/ontimelaw03.WordLogic", spec := "wordLogic", apart := false }
def WordLogicSaid : Prop := wordLogicRow.holds Try.pinned (OpenSpec.ofChange wordLogicSpec)

/-- ITS FALSE NEIGHBOUR: 'it returns false'. Refute it at one input. -/
def wordLogicWrong : ChangeSpec := { name := "wordLogic", fn := fun _ => fun
  | [d1, d2] => { results := [.lit (.bool false)], args := [d1, d2] }
  | _ => none }
def WordLogicWrongFalsely : Prop := wordLogicRow.holds Try.pinned (OpenSpec.ofChange wordLogicWrong)

/- THE SECOND FORM. 'bulk': how many values and letters a reading holds, each counted each time it is reached (what is shared counts as often as it is met; a slice's spare places count too). A statement '..UptoSaid' is the law's where the arguments, and the package variables that the reading takes, are together of bulk at most 1048576: NARROWER than '..Said'. Prove '..Said' where nothing that the law and all that it calls make is longer than what came in: it says more and counts as full. Else prove '..UptoSaid'. A law counts once. -/
mutual
def uptoBulk {H : Type} : DataW H → Nat
  | .lit (.string bytes) => bytes.length + 1
  | .lit _ => 1
  | .nil => 1
  | .ptr d => uptoBulk d + 1
  | .slice elems spare => uptoBulkAll elems + uptoBulkAll spare + 1
  | .agg parts => uptoBulkAll parts + 1
  | .iface _ d => uptoBulk d + 1
  | .map entries => uptoBulkEntries entries + 1
  | .held _ => 1
def uptoBulkAll {H : Type} : List (DataW H) → Nat
  | [] => 0
  | d :: r => uptoBulk d + uptoBulkAll r
def uptoBulkEntries {H : Type} : List (Lit × DataW H) → Nat
  | [] => 0
  | x :: r => uptoBulkEntry x + uptoBulkEntries r
def uptoBulkEntry {H : Type} : Lit × DataW H → Nat
  | (.string bytes, d) => bytes.length + uptoBulk d + 1
  | (_, d) => uptoBulk d + 1
 end
def uptoSmall : (H : Type) → List (DataW H) → Bool := fun _ ds => decide (uptoBulkAll ds ≤ 1048576)
def OpenSpec.upto (s : _root_.Go.ChangeSpec) : _root_.Go.OpenSpec := { _root_.Go.OpenSpec.ofChange s with cond := some uptoSmall }

/-- 'ontimelaw03.WordApply', WHERE WHAT IT READS IS OF BULK AT MOST 1048576: true; the input reads as it did. -/
def wordApplyUptoRow : OpenClaim := { program := "ytgdinmlpogpadaa", sum := "6a38305db042720bc5ec0104e2216a663acb9bf117a0689063ad20e29155b2de", func := "ontime/ontimelaw03.WordApply", spec := "wordApply", apart := false, narrowed := true }
def WordApplyUptoSaid : Prop := wordApplyUptoRow.holds Try.pinned (OpenSpec.upto wordApplySpec)

/-- 'ontimelaw03.WordDivides', WHERE WHAT IT READS IS OF BULK AT MOST 1048576: true; the input reads as it did. -/
def wordDividesUptoRow : OpenClaim := { program := "ytgdinmlpogpadaa", sum := "6a38305db042720bc5ec0104e2216a663acb9bf117a0689063ad20e29155b2de", func := "ontime/ontimelaw03.WordDivides", spec := "wordDivides", unfollowed := true, recurses := true, apart := false, narrowed := true }
def WordDividesUptoSaid : Prop := wordDividesUptoRow.holds Try.pinned (OpenSpec.upto wordDividesSpec)

/-- 'ontimelaw03.WordShifts', WHERE WHAT IT READS IS OF BULK AT MOST 1048576: true; the input reads as it did. -/
def wordShiftsUptoRow : OpenClaim := { program := "ytgdinmlpogpadaa", sum := "6a38305db042720bc5ec0104e2216a663acb9bf117a0689063ad20e29155b2de", func := "ontime/ontimelaw03.WordShifts", spec := "wordShifts", apart := false, narrowed := true }
def WordShiftsUptoSaid : Prop := wordShiftsUptoRow.holds Try.pinned (OpenSpec.upto wordShiftsSpec)

/-- 'ontimelaw03.WordUnary', WHERE WHAT IT READS IS OF BULK AT MOST 1048576: true; the input reads as it did. -/
def wordUnaryUptoRow : OpenClaim := { program := "ytgdinmlpogpadaa", sum := "6a38305db042720bc5ec0104e2216a663acb9bf117a0689063ad20e29155b2de", func := "ontime/ontimelaw03.WordUnary", spec := "wordUnary", apart := false, narrowed := true }
def WordUnaryUptoSaid : Prop := wordUnaryUptoRow.holds Try.pinned (OpenSpec.upto wordUnarySpec)

/-- 'ontimelaw03.WordRing', WHERE WHAT IT READS IS OF BULK AT MOST 1048576: true; the input reads as it did. -/
def wordRingUptoRow : OpenClaim := { program := "ytgdinmlpogpadaa", sum := "6a38305db042720bc5ec0104e2216a663acb9bf117a0689063ad20e29155b2de", func := "ontime/ontimelaw03.WordRing", spec := "wordRing", apart := false, narrowed := true }
def WordRingUptoSaid : Prop := wordRingUptoRow.holds Try.pinned (OpenSpec.upto wordRingSpec)

/-- 'ontimelaw03.WordBits', WHERE WHAT IT READS IS OF BULK AT MOST 1048576: true; the input reads as it did. -/
def wordBitsUptoRow : OpenClaim := { program := "ytgdinmlpogpadaa", sum := "6a38305db042720bc5ec0104e2216a663acb9bf117a0689063ad20e29155b2de", func := "ontime/ontimelaw03.WordBits", spec := "wordBits", unfollowed := true, recurses := true, apart := false, narrowed := true }
def WordBitsUptoSaid : Prop := wordBitsUptoRow.holds Try.pinned (OpenSpec.upto wordBitsSpec)

/-- 'ontimelaw03.WordOrder', WHERE WHAT IT READS IS OF BULK AT MOST 1048576: true; the input reads as it did. -/
def wordOrderUptoRow : OpenClaim := { program := "ytgdinmlpogpadaa", sum := "6a38305db042720bc5ec0104e2216a663acb9bf117a0689063ad20e29155b2de", func := "ontime/ontimelaw03.WordOrder", spec := "wordOrder", apart := false, narrowed := true }
def WordOrderUptoSaid : Prop := wordOrderUptoRow.holds Try.pinned (OpenSpec.upto wordOrderSpec)

/-- 'ontimelaw03.WordLogic', WHERE WHAT IT READS IS OF BULK AT MOST 1048576: true; the input reads as it did. -/
def wordLogicUptoRow : OpenClaim := { program := "ytgdinmlpogpadaa", sum := "6a38305db042720bc5ec0104e2216a663acb9bf117a0689063ad20e29155b2de", func := "ontime/ontimelaw03.WordLogic", spec := "wordLogic", apart := false, narrowed := true }
def WordLogicUptoSaid : Prop := wordLogicUptoRow.holds Try.pinned (OpenSpec.upto wordLogicSpec)

end Rows
end Go.Proofs.Ytgdinmlpogpadaa
