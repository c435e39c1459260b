/-
  What the rows' listed variable gives: the table of package bits.
-/
import Derived.Test.YteknhnnlhhgppaaDoorRows
import Derived.Shelf.Spec.TrailingZeros
import Derived.Lib.LaidTab
import Derived.Lib.TrailingZeros
import Derived.FnData
namespace Go.Proofs.YteknhnnlhhgppaaDoor
set_option linter.unusedVariables false
set_option linter.unusedSimpArgs false
open Go.ChangeShapes Go.WideShapes Go.RowKit
def DBT : List Int := Lib.deBruijn64tab.map fun x : Nat => (x : Int)
def SG : Array Value := (DBT.map fun z => Value.int .u8 z).toArray
theorem gTab : Tryd.prog.globalNamed "math/bits.deBruijn64tab" = some 0 := by kernel_rfl
theorem gTabType : (Tryd.prog.globals[0]?).map (·.type) = some 140 := by kernel_rfl
theorem cellsTab : Tryd.prog.cellsOf 140 = 64 := by kernel_rfl
theorem cellsByte : Tryd.prog.cellsOf 5 = 1 := by kernel_rfl
theorem tab_eq : (Rows.laid_math_bits_deBruijn64tab : DataW Unit) = Lib.tabData .u8 DBT := by kernel_rfl
theorem tab_of_laid {W : World} (h : laidMetH Tryd.prog [("math/bits.deBruijn64tab", Rows.laid_math_bits_deBruijn64tab)] W) : TabAt 0 Lib.deBruijn64tab W := by
  have h0 : laidMet Tryd.prog [("math/bits.deBruijn64tab", Rows.laid_math_bits_deBruijn64tab)] W := h
  rw [tab_eq] at h0
  have h2 := Lib.tabIs_of_head gTab gTabType Tryd.underlying140 Tryd.underlying5 cellsByte cellsTab h0
  intro j hj
  have h3 := h2.cell gTab j (by show j < (Lib.deBruijn64tab.map _).length; rw [List.length_map]; exact hj)
  rw [h3]
  congr 2
  show (Lib.deBruijn64tab.map fun x : Nat => (x : Int)).getD j 0 = _
  rw [List.getD_eq_getElem?_getD, List.getD_eq_getElem?_getD, List.getElem?_map, List.getElem?_eq_getElem hj]
  rfl
end Go.Proofs.YteknhnnlhhgppaaDoor
