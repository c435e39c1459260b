/-
  The law InterpFuel (package ontimelaw16).
-/
import Derived.Test.YtgochgcchkdlmaaDoorPuts
import Derived.Test.YtgochgcchkdlmaaDoorInAwake
import Derived.Test.YtgochgcchkdlmaaDoorInRun
import Derived.Test.YtgochgcchkdlmaaDoorInEqs
import Derived.Test.YtgochgcchkdlmaaDoorInPlains
namespace Go.Proofs.YtgochgcchkdlmaaDoor
set_option linter.unusedVariables false
set_option linter.unusedSimpArgs false
open Go.RowKit Go.Maps
set_option maxRecDepth 100000
set_option maxHeartbeats 80000000

theorem OutAt.take {w : World} {a : Option Addr} {l : List (Int × Int)} (h : OutAt w a l) (n : Nat) : OutAt w a (l.take n) :=
  ⟨by have := h.1; rw [List.length_take]; omega, fun k x hx => h.2 k x (by
    rw [List.getElem?_take] at hx
    split at hx
    · exact hx
    · cases hx)⟩
end Go.Proofs.YtgochgcchkdlmaaDoor
