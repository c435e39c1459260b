/-
  No cell of these rows narrows 'for every input' (looked for: loops, veiled, ifaces, maps, wideKeys, modest, calm, conditions, laid).
  DERIVED. THE GIVEN ROWS OF THIS SEAT. 7 by the template 'for every input the law returns true; each argument reads behind the call as it read before'; 0 by the template 'total and deterministic' (their statements: YtjdfcpjlmfaaaaaTotals.lean).
  GIVEN WITH THE SEED: the statements are not yours to turn. If you find one false, say at which input.
  Laid BY PROGRAM, IN A SANDBOX (cutbox-rows.mjs): the forced cells as the released guide's own fill.sh prints them over the translation 958890a16a232756… (all of the seat's roots in one cut). By AI agents, Wed Nov 11 2026. No macro, syntax, notation, axiom, sorry.
-/
import Derived.Test.YtjdfcpjlmfaaaaaChecked
import GoSem.Claim
import GoSem.ClaimJoined
import GoSem.ClaimMapViews
import Derived.JoinedTies
import Derived.KernelRfl
namespace Go.Proofs.Ytjdfcpjlmfaaaaa
/- THE CELL 'sum', in the pinned program and in every row, IS THE sha256 OF THE DUMP (.gsa) THAT YtjdfcpjlmfaaaaaProg.lean LOADS. Nothing in Lean hashes anything: it is a label: what it is worth is what the hold of that sum in a sandbox is worth. -/
noncomputable def Try.pinned : Pinned := { name := "ytjdfcpjlmfaaaaa", sum := "958890a16a2327561270d66d539650c9cba96fe2ae5d2dada7d735309a100526", checked := Try.checked }
namespace Rows
def none {H : Type} : Left H := { results := [], args := [] }

/-- 'ontimelaw17.IrValid': WHATEVER THE INPUT: true; the input reads as it did. -/
def irValidSpec : ChangeSpec := { name := "irValid", fn := fun _ => fun
  | [d1, d2] => { results := [.lit (.bool true)], args := [d1, d2] }
  | _ => none }
def irValidRow : OpenClaim := { program := "ytjdfcpjlmfaaaaa", sum := "958890a16a2327561270d66d539650c9cba96fe2ae5d2dada7d735309a100526", func := "ontime/ontimelaw17.IrValid", spec := "irValid", unfollowed := true, recurses := true, apart := false }
def IrValidSaid : Prop := irValidRow.holds Try.pinned (OpenSpec.ofChange irValidSpec)

/-- ITS FALSE NEIGHBOUR: 'it returns false'. Refute it at one input. -/
def irValidWrong : ChangeSpec := { name := "irValid", fn := fun _ => fun
  | [d1, d2] => { results := [.lit (.bool false)], args := [d1, d2] }
  | _ => none }
def IrValidWrongFalsely : Prop := irValidRow.holds Try.pinned (OpenSpec.ofChange irValidWrong)

/-- 'ontimelaw17.IrRuns': WHATEVER THE INPUT: true; the input reads as it did. -/
def irRunsSpec : ChangeSpec := { name := "irRuns", fn := fun _ => fun
  | [d1, d2, d3, d4, d5, d6] => { results := [.lit (.bool true)], args := [d1, d2, d3, d4, d5, d6] }
  | _ => none }
def irRunsRow : OpenClaim := { program := "ytjdfcpjlmfaaaaa", sum := "958890a16a2327561270d66d539650c9cba96fe2ae5d2dada7d735309a100526", func := "ontime/ontimelaw17.IrRuns", spec := "irRuns", unfollowed := true, recurses := true, apart := false }
def IrRunsSaid : Prop := irRunsRow.holds Try.pinned (OpenSpec.ofChange irRunsSpec)

/-- ITS FALSE NEIGHBOUR: 'it returns false'. Refute it at one input. -/
def irRunsWrong : ChangeSpec := { name := "irRuns", fn := fun _ => fun
  | [d1, d2, d3, d4, d5, d6] => { results := [.lit (.bool false)], args := [d1, d2, d3, d4, d5, d6] }
  | _ => none }
def IrRunsWrongFalsely : Prop := irRunsRow.holds Try.pinned (OpenSpec.ofChange irRunsWrong)

/-- 'ontimelaw17.IrBlocks': WHATEVER THE INPUT: true; the input reads as it did. -/
def irBlocksSpec : ChangeSpec := { name := "irBlocks", fn := fun _ => fun
  | [d1, d2, d3, d4, d5, d6] => { results := [.lit (.bool true)], args := [d1, d2, d3, d4, d5, d6] }
  | _ => none }
def irBlocksRow : OpenClaim := { program := "ytjdfcpjlmfaaaaa", sum := "958890a16a2327561270d66d539650c9cba96fe2ae5d2dada7d735309a100526", func := "ontime/ontimelaw17.IrBlocks", spec := "irBlocks", unfollowed := true, recurses := true, apart := false }
def IrBlocksSaid : Prop := irBlocksRow.holds Try.pinned (OpenSpec.ofChange irBlocksSpec)

/-- ITS FALSE NEIGHBOUR: 'it returns false'. Refute it at one input. -/
def irBlocksWrong : ChangeSpec := { name := "irBlocks", fn := fun _ => fun
  | [d1, d2, d3, d4, d5, d6] => { results := [.lit (.bool false)], args := [d1, d2, d3, d4, d5, d6] }
  | _ => none }
def IrBlocksWrongFalsely : Prop := irBlocksRow.holds Try.pinned (OpenSpec.ofChange irBlocksWrong)

/-- 'ontimelaw17.IrFuel': WHATEVER THE INPUT: true; the input reads as it did. -/
def irFuelSpec : ChangeSpec := { name := "irFuel", fn := fun _ => fun
  | [d1, d2, d3, d4, d5, d6] => { results := [.lit (.bool true)], args := [d1, d2, d3, d4, d5, d6] }
  | _ => none }
def irFuelRow : OpenClaim := { program := "ytjdfcpjlmfaaaaa", sum := "958890a16a2327561270d66d539650c9cba96fe2ae5d2dada7d735309a100526", func := "ontime/ontimelaw17.IrFuel", spec := "irFuel", unfollowed := true, recurses := true, apart := false }
def IrFuelSaid : Prop := irFuelRow.holds Try.pinned (OpenSpec.ofChange irFuelSpec)

/-- ITS FALSE NEIGHBOUR: 'it returns false'. Refute it at one input. -/
def irFuelWrong : ChangeSpec := { name := "irFuel", fn := fun _ => fun
  | [d1, d2, d3, d4, d5, d6] => { results := [.lit (.bool false)], args := [d1, d2, d3, d4, d5, d6] }
  | _ => none }
def IrFuelWrongFalsely : Prop := irFuelRow.holds Try.pinned (OpenSpec.ofChange irFuelWrong)

/-- 'ontimelaw17.IrRenumbers': WHATEVER THE INPUT: true; the input reads as it did. -/
def irRenumbersSpec : ChangeSpec := { name := "irRenumbers", fn := fun _ => fun
  | [d1, d2, d3, d4, d5, d6] => { results := [.lit (.bool true)], args := [d1, d2, d3, d4, d5, d6] }
  | _ => none }
def irRenumbersRow : OpenClaim := { program := "ytjdfcpjlmfaaaaa", sum := "958890a16a2327561270d66d539650c9cba96fe2ae5d2dada7d735309a100526", func := "ontime/ontimelaw17.IrRenumbers", spec := "irRenumbers", unfollowed := true, recurses := true, apart := false }
def IrRenumbersSaid : Prop := irRenumbersRow.holds Try.pinned (OpenSpec.ofChange irRenumbersSpec)

/-- ITS FALSE NEIGHBOUR: 'it returns false'. Refute it at one input. -/
def irRenumbersWrong : ChangeSpec := { name := "irRenumbers", fn := fun _ => fun
  | [d1, d2, d3, d4, d5, d6] => { results := [.lit (.bool false)], args := [d1, d2, d3, d4, d5, d6] }
  | _ => none }
def IrRenumbersWrongFalsely : Prop := irRenumbersRow.holds Try.pinned (OpenSpec.ofChange irRenumbersWrong)

/-- 'ontimelaw17.IrEqual': WHATEVER THE INPUT: true; the input reads as it did. -/
def irEqualSpec : ChangeSpec := { name := "irEqual", fn := fun _ => fun
  | [d1, d2, d3, d4] => { results := [.lit (.bool true)], args := [d1, d2, d3, d4] }
  | _ => none }
def irEqualRow : OpenClaim := { program := "ytjdfcpjlmfaaaaa", sum := "958890a16a2327561270d66d539650c9cba96fe2ae5d2dada7d735309a100526", func := "ontime/ontimelaw17.IrEqual", spec := "irEqual", unfollowed := true, recurses := true, apart := false }
def IrEqualSaid : Prop := irEqualRow.holds Try.pinned (OpenSpec.ofChange irEqualSpec)

/-- ITS FALSE NEIGHBOUR: 'it returns false'. Refute it at one input. -/
def irEqualWrong : ChangeSpec := { name := "irEqual", fn := fun _ => fun
  | [d1, d2, d3, d4] => { results := [.lit (.bool false)], args := [d1, d2, d3, d4] }
  | _ => none }
def IrEqualWrongFalsely : Prop := irEqualRow.holds Try.pinned (OpenSpec.ofChange irEqualWrong)

/-- 'ontimelaw17.IrOperands': WHATEVER THE INPUT: true; the input reads as it did. -/
def irOperandsSpec : ChangeSpec := { name := "irOperands", fn := fun _ => fun
  | [d1, d2] => { results := [.lit (.bool true)], args := [d1, d2] }
  | _ => none }
def irOperandsRow : OpenClaim := { program := "ytjdfcpjlmfaaaaa", sum := "958890a16a2327561270d66d539650c9cba96fe2ae5d2dada7d735309a100526", func := "ontime/ontimelaw17.IrOperands", spec := "irOperands", unfollowed := true, recurses := true, apart := false }
def IrOperandsSaid : Prop := irOperandsRow.holds Try.pinned (OpenSpec.ofChange irOperandsSpec)

/-- ITS FALSE NEIGHBOUR: 'it returns false'. Refute it at one input. -/
def irOperandsWrong : ChangeSpec := { name := "irOperands", fn := fun _ => fun
  | [d1, d2] => { results := [.lit (.bool false)], args := [d1, d2] }
  | _ => none }
def IrOperandsWrongFalsely : Prop := irOperandsRow.holds Try.pinned (OpenSpec.ofChange irOperandsWrong)

/- THE SECOND FORM. 'bulk': how many values and letters a reading holds, each counted each time it is reached (what is shared counts as often as it is met; a slice's spare places count too). A statement '..UptoSaid' is the law's where the arguments, and the package variables that the reading takes, are together of bulk at most 1048576: NARROWER than '..Said'. Prove '..Said' where nothing that the law and all that it calls make is longer than what came in: it says more and counts as full. Else prove '..UptoSaid'. A law counts once. -/
mutual
def uptoBulk {H : Type} : DataW H → Nat
  | .lit (.string bytes) => bytes.length + 1
  | .lit _ => 1
  | .nil => 1
  | .ptr d => uptoBulk d + 1
  | .slice elems spare => uptoBulkAll elems + uptoBulkAll spare + 1
  | .agg parts => uptoBulkAll parts + 1
  | .iface _ d => uptoBulk d + 1
  | .map entries => uptoBulkEntries entries + 1
  | .held _ => 1
def uptoBulkAll {H : Type} : List (DataW H) → Nat
  | [] => 0
  | d :: r => uptoBulk d + uptoBulkAll r
def uptoBulkEntries {H : Type} : List (Lit × DataW H) → Nat
  | [] => 0
  | x :: r => uptoBulkEntry x + uptoBulkEntries r
def uptoBulkEntry {H : Type} : Lit × DataW H → Nat
  | (.string bytes, d) => bytes.length + uptoBulk d + 1
  | (_, d) => uptoBulk d + 1
 end
def uptoSmall : (H : Type) → List (DataW H) → Bool := fun _ ds => decide (uptoBulkAll ds ≤ 1048576)
def OpenSpec.upto (s : _root_.Go.ChangeSpec) : _root_.Go.OpenSpec := { _root_.Go.OpenSpec.ofChange s with cond := some uptoSmall }

/-- 'ontimelaw17.IrValid', WHERE WHAT IT READS IS OF BULK AT MOST 1048576: true; the input reads as it did. -/
def irValidUptoRow : OpenClaim := { program := "ytjdfcpjlmfaaaaa", sum := "958890a16a2327561270d66d539650c9cba96fe2ae5d2dada7d735309a100526", func := "ontime/ontimelaw17.IrValid", spec := "irValid", unfollowed := true, recurses := true, apart := false, narrowed := true }
def IrValidUptoSaid : Prop := irValidUptoRow.holds Try.pinned (OpenSpec.upto irValidSpec)

/-- 'ontimelaw17.IrRuns', WHERE WHAT IT READS IS OF BULK AT MOST 1048576: true; the input reads as it did. -/
def irRunsUptoRow : OpenClaim := { program := "ytjdfcpjlmfaaaaa", sum := "958890a16a2327561270d66d539650c9cba96fe2ae5d2dada7d735309a100526", func := "ontime/ontimelaw17.IrRuns", spec := "irRuns", unfollowed := true, recurses := true, apart := false, narrowed := true }
def IrRunsUptoSaid : Prop := irRunsUptoRow.holds Try.pinned (OpenSpec.upto irRunsSpec)

/-- 'ontimelaw17.IrBlocks', WHERE WHAT IT READS IS OF BULK AT MOST 1048576: true; the input reads as it did. -/
def irBlocksUptoRow : OpenClaim := { program := "ytjdfcpjlmfaaaaa", sum := "958890a16a2327561270d66d539650c9cba96fe2ae5d2dada7d735309a100526", func := "ontime/ontimelaw17.IrBlocks", spec := "irBlocks", unfollowed := true, recurses := true, apart := false, narrowed := true }
def IrBlocksUptoSaid : Prop := irBlocksUptoRow.holds Try.pinned (OpenSpec.upto irBlocksSpec)

/-- 'ontimelaw17.IrFuel', WHERE WHAT IT READS IS OF BULK AT MOST 1048576: true; the input reads as it did. -/
def irFuelUptoRow : OpenClaim := { program := "ytjdfcpjlmfaaaaa", sum := "958890a16a2327561270d66d539650c9cba96fe2ae5d2dada7d735309a100526", func := "ontime/ontimelaw17.IrFuel", spec := "irFuel", unfollowed := true, recurses := true, apart := false, narrowed := true }
def IrFuelUptoSaid : Prop := irFuelUptoRow.holds Try.pinned (OpenSpec.upto irFuelSpec)

/-- 'ontimelaw17.IrRenumbers', WHERE WHAT IT READS IS OF BULK AT MOST 1048576: true; the input reads as it did. -/
def irRenumbersUptoRow : OpenClaim := { program := "ytjdfcpjlmfaaaaa", sum := "958890a16a2327561270d66d539650c9cba96fe2ae5d2dada7d735309a100526", func := "ontime/ontimelaw17.IrRenumbers", spec := "irRenumbers", unfollowed := true, recurses := true, apart := false, narrowed := true }
def IrRenumbersUptoSaid : Prop := irRenumbersUptoRow.holds Try.pinned (OpenSpec.upto irRenumbersSpec)

/-- 'ontimelaw17.IrEqual', WHERE WHAT IT READS IS OF BULK AT MOST 1048576: true; the input reads as it did. -/
def irEqualUptoRow : OpenClaim := { program := "ytjdfcpjlmfaaaaa", sum := "958890a16a2327561270d66d539650c9cba96fe2ae5d2dada7d735309a100526", func := "ontime/ontimelaw17.IrEqual", spec := "irEqual", unfollowed := true, recurses := true, apart := false, narrowed := true }
def IrEqualUptoSaid : Prop := irEqualUptoRow.holds Try.pinned (OpenSpec.upto irEqualSpec)

/-- 'ontimelaw17.IrOperands', WHERE WHAT IT READS IS OF BULK AT MOST 1048576: true; the input reads as it did. -/
def irOperandsUptoRow : OpenClaim := { program := "ytjdfcpjlmfaaaaa", sum := "958890a16a2327561270d66d539650c9cba96fe2ae5d2dada7d735309a100526", func := "ontime/ontimelaw17.IrOperands", spec := "irOperands", unfollowed := true, recurses := true, apart := false, narrowed := true }
def IrOperandsUptoSaid : Prop := irOperandsUptoRow.holds Try.pinned (OpenSpec.upto irOperandsSpec)

end Rows
end Go.Proofs.Ytjdfcpjlmfaaaaa
