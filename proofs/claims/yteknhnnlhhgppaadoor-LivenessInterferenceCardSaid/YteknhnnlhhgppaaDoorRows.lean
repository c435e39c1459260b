/-
  NARROWER THAN 'FOR EVERY INPUT', by the rows' own cells (each row's printed sentence says how): LivenessSets: laid · LivenessEquations: laid · LivenessBounds: laid · LivenessValues: laid · LivenessMerges: laid · LivenessOverwrites: laid · LivenessInterference: laid.
  DERIVED. THE GIVEN ROWS OF THIS SEAT. 7 by the template 'for every input the law returns true; each argument reads behind the call as it read before'; 0 by the template 'total and deterministic' (their statements: YteknhnnlhhgppaaDoorTotals.lean).
  GIVEN WITH THE SEED: the statements are not yours to turn. If you find one false, say at which input.
  Laid BY PROGRAM, IN A SANDBOX (cutbox-rows.mjs): the forced cells as the released guide's own fill.sh prints them over the translation 51829facca99ed73… (all of the seat's roots in one cut). By AI agents, Wed Nov 11 2026. No macro, syntax, notation, axiom, sorry.
-/
import Derived.Test.YteknhnnlhhgppaaDoorChecked
import GoSem.Claim
import GoSem.ClaimJoined
import GoSem.ClaimMapViews
import Derived.JoinedTies
import Derived.KernelRfl
namespace Go.Proofs.YteknhnnlhhgppaaDoor
/- THE CELL 'sum', in the pinned program and in every row, IS THE sha256 OF THE DUMP (.gsa) THAT YteknhnnlhhgppaaDoorProg.lean LOADS. Nothing in Lean hashes anything: it is a label: what it is worth is what the hold of that sum in a sandbox is worth. -/
noncomputable def Tryd.pinned : Pinned := { name := "yteknhnnlhhgppaadoor", sum := "51829facca99ed73855363b5ff629a068acd0ba7da09e803ae44f5c965b1ad97", checked := Tryd.checked }
namespace Rows
def none {H : Type} : Left H := { results := [], args := [] }

/- WHAT THE LISTED PACKAGE-LEVEL VARIABLES READ AS WHEN THE CALL BEGINS. Each datum BY PROGRAM (the guide's laid-datum.mjs) off the statement by which the dump's own 'gosem.cut.vars' lays the variable. In a bare row this is a premise. The card (YteknhnnlhhgppaaDoorCards.lean) ties it to the program's text. -/
def laid_math_bits_deBruijn64tab {H : Type} : DataW H := .agg [.lit (.int .u8 0), .lit (.int .u8 1), .lit (.int .u8 56), .lit (.int .u8 2), .lit (.int .u8 57), .lit (.int .u8 49), .lit (.int .u8 28), .lit (.int .u8 3), .lit (.int .u8 61), .lit (.int .u8 58), .lit (.int .u8 42), .lit (.int .u8 50), .lit (.int .u8 38), .lit (.int .u8 29), .lit (.int .u8 17), .lit (.int .u8 4), .lit (.int .u8 62), .lit (.int .u8 47), .lit (.int .u8 59), .lit (.int .u8 36), .lit (.int .u8 45), .lit (.int .u8 43), .lit (.int .u8 51), .lit (.int .u8 22), .lit (.int .u8 53), .lit (.int .u8 39), .lit (.int .u8 33), .lit (.int .u8 30), .lit (.int .u8 24), .lit (.int .u8 18), .lit (.int .u8 12), .lit (.int .u8 5), .lit (.int .u8 63), .lit (.int .u8 55), .lit (.int .u8 48), .lit (.int .u8 27), .lit (.int .u8 60), .lit (.int .u8 41), .lit (.int .u8 37), .lit (.int .u8 16), .lit (.int .u8 46), .lit (.int .u8 35), .lit (.int .u8 44), .lit (.int .u8 21), .lit (.int .u8 52), .lit (.int .u8 32), .lit (.int .u8 23), .lit (.int .u8 11), .lit (.int .u8 54), .lit (.int .u8 26), .lit (.int .u8 40), .lit (.int .u8 15), .lit (.int .u8 34), .lit (.int .u8 20), .lit (.int .u8 31), .lit (.int .u8 10), .lit (.int .u8 25), .lit (.int .u8 14), .lit (.int .u8 19), .lit (.int .u8 9), .lit (.int .u8 13), .lit (.int .u8 8), .lit (.int .u8 7), .lit (.int .u8 6)]

/-- 'ontimelaw19.LivenessSets': WHATEVER THE INPUT: true; the input reads as it did. -/
def livenessSetsSpec : ChangeSpec := { name := "livenessSets", fn := fun _ => fun
  | [d] => { results := [.lit (.bool true)], args := [d] }
  | _ => none }
def livenessSetsRow : OpenClaim := { program := "yteknhnnlhhgppaadoor", sum := "51829facca99ed73855363b5ff629a068acd0ba7da09e803ae44f5c965b1ad97", func := "ontime/ontimelaw19.LivenessSets", spec := "livenessSets", unfollowed := true, recurses := true, named := ["math/bits.deBruijn64tab"], apart := false, laid := [("math/bits.deBruijn64tab", laid_math_bits_deBruijn64tab)] }
def LivenessSetsSaid : Prop := livenessSetsRow.holds Tryd.pinned (OpenSpec.ofChange livenessSetsSpec)

/-- ITS FALSE NEIGHBOUR: 'it returns false'. Refute it at one input. -/
def livenessSetsWrong : ChangeSpec := { name := "livenessSets", fn := fun _ => fun
  | [d] => { results := [.lit (.bool false)], args := [d] }
  | _ => none }
def LivenessSetsWrongFalsely : Prop := livenessSetsRow.holds Tryd.pinned (OpenSpec.ofChange livenessSetsWrong)

/-- 'ontimelaw19.LivenessEquations': WHATEVER THE INPUT: true; the input reads as it did. -/
def livenessEquationsSpec : ChangeSpec := { name := "livenessEquations", fn := fun _ => fun
  | [d] => { results := [.lit (.bool true)], args := [d] }
  | _ => none }
def livenessEquationsRow : OpenClaim := { program := "yteknhnnlhhgppaadoor", sum := "51829facca99ed73855363b5ff629a068acd0ba7da09e803ae44f5c965b1ad97", func := "ontime/ontimelaw19.LivenessEquations", spec := "livenessEquations", unfollowed := true, recurses := true, named := ["math/bits.deBruijn64tab"], apart := false, laid := [("math/bits.deBruijn64tab", laid_math_bits_deBruijn64tab)] }
def LivenessEquationsSaid : Prop := livenessEquationsRow.holds Tryd.pinned (OpenSpec.ofChange livenessEquationsSpec)

/-- ITS FALSE NEIGHBOUR: 'it returns false'. Refute it at one input. -/
def livenessEquationsWrong : ChangeSpec := { name := "livenessEquations", fn := fun _ => fun
  | [d] => { results := [.lit (.bool false)], args := [d] }
  | _ => none }
def LivenessEquationsWrongFalsely : Prop := livenessEquationsRow.holds Tryd.pinned (OpenSpec.ofChange livenessEquationsWrong)

/-- 'ontimelaw19.LivenessBounds': WHATEVER THE INPUT: true; the input reads as it did. -/
def livenessBoundsSpec : ChangeSpec := { name := "livenessBounds", fn := fun _ => fun
  | [d1, d2] => { results := [.lit (.bool true)], args := [d1, d2] }
  | _ => none }
def livenessBoundsRow : OpenClaim := { program := "yteknhnnlhhgppaadoor", sum := "51829facca99ed73855363b5ff629a068acd0ba7da09e803ae44f5c965b1ad97", func := "ontime/ontimelaw19.LivenessBounds", spec := "livenessBounds", unfollowed := true, recurses := true, named := ["math/bits.deBruijn64tab"], apart := false, laid := [("math/bits.deBruijn64tab", laid_math_bits_deBruijn64tab)] }
def LivenessBoundsSaid : Prop := livenessBoundsRow.holds Tryd.pinned (OpenSpec.ofChange livenessBoundsSpec)

/-- ITS FALSE NEIGHBOUR: 'it returns false'. Refute it at one input. -/
def livenessBoundsWrong : ChangeSpec := { name := "livenessBounds", fn := fun _ => fun
  | [d1, d2] => { results := [.lit (.bool false)], args := [d1, d2] }
  | _ => none }
def LivenessBoundsWrongFalsely : Prop := livenessBoundsRow.holds Tryd.pinned (OpenSpec.ofChange livenessBoundsWrong)

/-- 'ontimelaw19.LivenessValues': WHATEVER THE INPUT: true; the input reads as it did. -/
def livenessValuesSpec : ChangeSpec := { name := "livenessValues", fn := fun _ => fun
  | [d] => { results := [.lit (.bool true)], args := [d] }
  | _ => none }
def livenessValuesRow : OpenClaim := { program := "yteknhnnlhhgppaadoor", sum := "51829facca99ed73855363b5ff629a068acd0ba7da09e803ae44f5c965b1ad97", func := "ontime/ontimelaw19.LivenessValues", spec := "livenessValues", unfollowed := true, recurses := true, named := ["math/bits.deBruijn64tab"], apart := false, laid := [("math/bits.deBruijn64tab", laid_math_bits_deBruijn64tab)] }
def LivenessValuesSaid : Prop := livenessValuesRow.holds Tryd.pinned (OpenSpec.ofChange livenessValuesSpec)

/-- ITS FALSE NEIGHBOUR: 'it returns false'. Refute it at one input. -/
def livenessValuesWrong : ChangeSpec := { name := "livenessValues", fn := fun _ => fun
  | [d] => { results := [.lit (.bool false)], args := [d] }
  | _ => none }
def LivenessValuesWrongFalsely : Prop := livenessValuesRow.holds Tryd.pinned (OpenSpec.ofChange livenessValuesWrong)

/-- 'ontimelaw19.LivenessMerges': WHATEVER THE INPUT: true; the input reads as it did. -/
def livenessMergesSpec : ChangeSpec := { name := "livenessMerges", fn := fun _ => fun
  | [d1, d2, d3] => { results := [.lit (.bool true)], args := [d1, d2, d3] }
  | _ => none }
def livenessMergesRow : OpenClaim := { program := "yteknhnnlhhgppaadoor", sum := "51829facca99ed73855363b5ff629a068acd0ba7da09e803ae44f5c965b1ad97", func := "ontime/ontimelaw19.LivenessMerges", spec := "livenessMerges", unfollowed := true, recurses := true, named := ["math/bits.deBruijn64tab"], apart := false, laid := [("math/bits.deBruijn64tab", laid_math_bits_deBruijn64tab)] }
def LivenessMergesSaid : Prop := livenessMergesRow.holds Tryd.pinned (OpenSpec.ofChange livenessMergesSpec)

/-- ITS FALSE NEIGHBOUR: 'it returns false'. Refute it at one input. -/
def livenessMergesWrong : ChangeSpec := { name := "livenessMerges", fn := fun _ => fun
  | [d1, d2, d3] => { results := [.lit (.bool false)], args := [d1, d2, d3] }
  | _ => none }
def LivenessMergesWrongFalsely : Prop := livenessMergesRow.holds Tryd.pinned (OpenSpec.ofChange livenessMergesWrong)

/-- 'ontimelaw19.LivenessOverwrites': WHATEVER THE INPUT: true; the input reads as it did. -/
def livenessOverwritesSpec : ChangeSpec := { name := "livenessOverwrites", fn := fun _ => fun
  | [d1, d2, d3, d4] => { results := [.lit (.bool true)], args := [d1, d2, d3, d4] }
  | _ => none }
def livenessOverwritesRow : OpenClaim := { program := "yteknhnnlhhgppaadoor", sum := "51829facca99ed73855363b5ff629a068acd0ba7da09e803ae44f5c965b1ad97", func := "ontime/ontimelaw19.LivenessOverwrites", spec := "livenessOverwrites", inPlace := ["slices.overlaps[ontime/ir.Ins]"], unfollowed := true, recurses := true, named := ["math/bits.deBruijn64tab"], apart := false, laid := [("math/bits.deBruijn64tab", laid_math_bits_deBruijn64tab)] }
def LivenessOverwritesSaid : Prop := livenessOverwritesRow.holds Tryd.pinned (OpenSpec.ofChange livenessOverwritesSpec)

/-- ITS FALSE NEIGHBOUR: 'it returns false'. Refute it at one input. -/
def livenessOverwritesWrong : ChangeSpec := { name := "livenessOverwrites", fn := fun _ => fun
  | [d1, d2, d3, d4] => { results := [.lit (.bool false)], args := [d1, d2, d3, d4] }
  | _ => none }
def LivenessOverwritesWrongFalsely : Prop := livenessOverwritesRow.holds Tryd.pinned (OpenSpec.ofChange livenessOverwritesWrong)

/-- 'ontimelaw19.LivenessInterference': WHATEVER THE INPUT: true; the input reads as it did. -/
def livenessInterferenceSpec : ChangeSpec := { name := "livenessInterference", fn := fun _ => fun
  | [d] => { results := [.lit (.bool true)], args := [d] }
  | _ => none }
def livenessInterferenceRow : OpenClaim := { program := "yteknhnnlhhgppaadoor", sum := "51829facca99ed73855363b5ff629a068acd0ba7da09e803ae44f5c965b1ad97", func := "ontime/ontimelaw19.LivenessInterference", spec := "livenessInterference", unfollowed := true, recurses := true, named := ["math/bits.deBruijn64tab"], apart := false, laid := [("math/bits.deBruijn64tab", laid_math_bits_deBruijn64tab)] }
def LivenessInterferenceSaid : Prop := livenessInterferenceRow.holds Tryd.pinned (OpenSpec.ofChange livenessInterferenceSpec)

/-- ITS FALSE NEIGHBOUR: 'it returns false'. Refute it at one input. -/
def livenessInterferenceWrong : ChangeSpec := { name := "livenessInterference", fn := fun _ => fun
  | [d] => { results := [.lit (.bool false)], args := [d] }
  | _ => none }
def LivenessInterferenceWrongFalsely : Prop := livenessInterferenceRow.holds Tryd.pinned (OpenSpec.ofChange livenessInterferenceWrong)

/- THE SECOND FORM. 'bulk': how many values and letters a reading holds, each counted each time it is reached (what is shared counts as often as it is met; a slice's spare places count too). A statement '..UptoSaid' is the law's where the arguments, and the package variables that the reading takes, are together of bulk at most 1048576: NARROWER than '..Said'. Prove '..Said' where nothing that the law and all that it calls make is longer than what came in: it says more and counts as full. Else prove '..UptoSaid'. A law counts once. -/
mutual
def uptoBulk {H : Type} : DataW H → Nat
  | .lit (.string bytes) => bytes.length + 1
  | .lit _ => 1
  | .nil => 1
  | .ptr d => uptoBulk d + 1
  | .slice elems spare => uptoBulkAll elems + uptoBulkAll spare + 1
  | .agg parts => uptoBulkAll parts + 1
  | .iface _ d => uptoBulk d + 1
  | .map entries => uptoBulkEntries entries + 1
  | .held _ => 1
def uptoBulkAll {H : Type} : List (DataW H) → Nat
  | [] => 0
  | d :: r => uptoBulk d + uptoBulkAll r
def uptoBulkEntries {H : Type} : List (Lit × DataW H) → Nat
  | [] => 0
  | x :: r => uptoBulkEntry x + uptoBulkEntries r
def uptoBulkEntry {H : Type} : Lit × DataW H → Nat
  | (.string bytes, d) => bytes.length + uptoBulk d + 1
  | (_, d) => uptoBulk d + 1
 end
def uptoSmall : (H : Type) → List (DataW H) → Bool := fun _ ds => decide (uptoBulkAll ds ≤ 1048576)
def OpenSpec.upto (s : _root_.Go.ChangeSpec) : _root_.Go.OpenSpec := { _root_.Go.OpenSpec.ofChange s with cond := some uptoSmall }

/-- 'ontimelaw19.LivenessSets', WHERE WHAT IT READS IS OF BULK AT MOST 1048576: true; the input reads as it did. -/
def livenessSetsUptoRow : OpenClaim := { program := "yteknhnnlhhgppaadoor", sum := "51829facca99ed73855363b5ff629a068acd0ba7da09e803ae44f5c965b1ad97", func := "ontime/ontimelaw19.LivenessSets", spec := "livenessSets", unfollowed := true, recurses := true, named := ["math/bits.deBruijn64tab"], apart := false, laid := [("math/bits.deBruijn64tab", laid_math_bits_deBruijn64tab)], narrowed := true }
def LivenessSetsUptoSaid : Prop := livenessSetsUptoRow.holds Tryd.pinned (OpenSpec.upto livenessSetsSpec)

/-- 'ontimelaw19.LivenessEquations', WHERE WHAT IT READS IS OF BULK AT MOST 1048576: true; the input reads as it did. -/
def livenessEquationsUptoRow : OpenClaim := { program := "yteknhnnlhhgppaadoor", sum := "51829facca99ed73855363b5ff629a068acd0ba7da09e803ae44f5c965b1ad97", func := "ontime/ontimelaw19.LivenessEquations", spec := "livenessEquations", unfollowed := true, recurses := true, named := ["math/bits.deBruijn64tab"], apart := false, laid := [("math/bits.deBruijn64tab", laid_math_bits_deBruijn64tab)], narrowed := true }
def LivenessEquationsUptoSaid : Prop := livenessEquationsUptoRow.holds Tryd.pinned (OpenSpec.upto livenessEquationsSpec)

/-- 'ontimelaw19.LivenessBounds', WHERE WHAT IT READS IS OF BULK AT MOST 1048576: true; the input reads as it did. -/
def livenessBoundsUptoRow : OpenClaim := { program := "yteknhnnlhhgppaadoor", sum := "51829facca99ed73855363b5ff629a068acd0ba7da09e803ae44f5c965b1ad97", func := "ontime/ontimelaw19.LivenessBounds", spec := "livenessBounds", unfollowed := true, recurses := true, named := ["math/bits.deBruijn64tab"], apart := false, laid := [("math/bits.deBruijn64tab", laid_math_bits_deBruijn64tab)], narrowed := true }
def LivenessBoundsUptoSaid : Prop := livenessBoundsUptoRow.holds Tryd.pinned (OpenSpec.upto livenessBoundsSpec)

/-- 'ontimelaw19.LivenessValues', WHERE WHAT IT READS IS OF BULK AT MOST 1048576: true; the input reads as it did. -/
def livenessValuesUptoRow : OpenClaim := { program := "yteknhnnlhhgppaadoor", sum := "51829facca99ed73855363b5ff629a068acd0ba7da09e803ae44f5c965b1ad97", func := "ontime/ontimelaw19.LivenessValues", spec := "livenessValues", unfollowed := true, recurses := true, named := ["math/bits.deBruijn64tab"], apart := false, laid := [("math/bits.deBruijn64tab", laid_math_bits_deBruijn64tab)], narrowed := true }
def LivenessValuesUptoSaid : Prop := livenessValuesUptoRow.holds Tryd.pinned (OpenSpec.upto livenessValuesSpec)

/-- 'ontimelaw19.LivenessMerges', WHERE WHAT IT READS IS OF BULK AT MOST 1048576: true; the input reads as it did. -/
def livenessMergesUptoRow : OpenClaim := { program := "yteknhnnlhhgppaadoor", sum := "51829facca99ed73855363b5ff629a068acd0ba7da09e803ae44f5c965b1ad97", func := "ontime/ontimelaw19.LivenessMerges", spec := "livenessMerges", unfollowed := true, recurses := true, named := ["math/bits.deBruijn64tab"], apart := false, laid := [("math/bits.deBruijn64tab", laid_math_bits_deBruijn64tab)], narrowed := true }
def LivenessMergesUptoSaid : Prop := livenessMergesUptoRow.holds Tryd.pinned (OpenSpec.upto livenessMergesSpec)

/-- 'ontimelaw19.LivenessOverwrites', WHERE WHAT IT READS IS OF BULK AT MOST 1048576: true; the input reads as it did. -/
def livenessOverwritesUptoRow : OpenClaim := { program := "yteknhnnlhhgppaadoor", sum := "51829facca99ed73855363b5ff629a068acd0ba7da09e803ae44f5c965b1ad97", func := "ontime/ontimelaw19.LivenessOverwrites", spec := "livenessOverwrites", inPlace := ["slices.overlaps[ontime/ir.Ins]"], unfollowed := true, recurses := true, named := ["math/bits.deBruijn64tab"], apart := false, laid := [("math/bits.deBruijn64tab", laid_math_bits_deBruijn64tab)], narrowed := true }
def LivenessOverwritesUptoSaid : Prop := livenessOverwritesUptoRow.holds Tryd.pinned (OpenSpec.upto livenessOverwritesSpec)

/-- 'ontimelaw19.LivenessInterference', WHERE WHAT IT READS IS OF BULK AT MOST 1048576: true; the input reads as it did. -/
def livenessInterferenceUptoRow : OpenClaim := { program := "yteknhnnlhhgppaadoor", sum := "51829facca99ed73855363b5ff629a068acd0ba7da09e803ae44f5c965b1ad97", func := "ontime/ontimelaw19.LivenessInterference", spec := "livenessInterference", unfollowed := true, recurses := true, named := ["math/bits.deBruijn64tab"], apart := false, laid := [("math/bits.deBruijn64tab", laid_math_bits_deBruijn64tab)], narrowed := true }
def LivenessInterferenceUptoSaid : Prop := livenessInterferenceUptoRow.holds Tryd.pinned (OpenSpec.upto livenessInterferenceSpec)

end Rows
end Go.Proofs.YteknhnnlhhgppaaDoor
