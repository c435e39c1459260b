/-
  Contracts: programs beyond the statements' limits (package ontimelaw12).
-/
import Derived.Test.YtnegdmhmhdojbaaDoorPrgTask
import Derived.Test.YtnegdmhmhdojbaaDoorRefEqual
namespace Go.Proofs.YtnegdmhmhdojbaaDoor
set_option linter.unusedVariables false
set_option linter.unusedSimpArgs false
open Go.RowKit
set_option maxRecDepth 100000

/-- a program beyond the statements' limits -/
noncomputable def tskGreat (t : Tsk) : Bool := decide (20 < t.vars.length) || (decide (10 < t.arrays.length) || @decide t.body.big (Classical.propDecidable _))
noncomputable def prgGreat (p : Prg) : Bool := decide (10 < p.shared.length) || (decide (10 < p.tasks.length) || p.tasks.any tskGreat)
theorem any_next {α : Type} (f : α → Bool) (l : List α) (d : α) (j : Nat) (h : j < l.length) : (l.take (j + 1)).any f = ((l.take j).any f || f (l.getD j d)) := by
  rw [List.take_succ_eq_append_getElem h, List.any_append]
  simp [h]
theorem any_hit {α : Type} (f : α → Bool) (l : List α) (d : α) (j : Nat) (h : j < l.length) (hf : f (l.getD j d) = true) : l.any f = true := by
  rw [List.any_eq_true]
  refine ⟨l.getD j d, ?_, hf⟩
  simp [h]

noncomputable def greatN (p : Prg) : Int := if prgGreat p then 1 else 0

end Go.Proofs.YtnegdmhmhdojbaaDoor
