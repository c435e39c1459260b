/-
  RefKinds: several texts in one (Ref11, Ref11Kind).
-/
import Derived.Test.YtgochgcchkdlmaaDoorLexAll
import Derived.Deep.QuietTactic
import Derived.BigQuiet
import Derived.Deep.Cut
import Derived.Deep.CutRange
import Derived.Deep.DeepCutAuto
/-
  Contracts: names, by the reference of layer 11.
-/
namespace Go.Proofs.YtgochgcchkdlmaaDoor
set_option linter.unusedVariables false
set_option linter.unusedSimpArgs false
open Go.RowKit
set_option maxRecDepth 100000

end Go.Proofs.YtgochgcchkdlmaaDoor

/-
  Contracts: the kind of a token, and names, by the reference of layer 11.
-/
namespace Go.Proofs.YtgochgcchkdlmaaDoor
set_option linter.unusedVariables false
set_option linter.unusedSimpArgs false
open Go.RowKit
set_option maxRecDepth 100000

end Go.Proofs.YtgochgcchkdlmaaDoor
