/-
  Contracts: expressions, statements and blocks (packages ast and ontimeref12).
-/
import Derived.Test.YtnegdmhmhdojbaaDoorAstIsValid
namespace Go.Proofs.YtnegdmhmhdojbaaDoor
set_option linter.unusedVariables false
set_option linter.unusedSimpArgs false
open Go.RowKit
set_option maxRecDepth 100000

theorem isStmt_any (t : Tree) (w : World) (a : Option Addr) (c : Nat) (hr : Rep w t a) (hg : SignsIn w) :
    Calls Tryd.prog 92 #[t.val a c] w fun e w' => e = .returned (.bool (t.vld 115)) ∧ Below w.heap.size w w' := by
  have hB0 : Below w.heap.size w (w.alloc (.cells #[.int .u8 t.kind, .int .i64 t.num, .string t.name, .slice a t.len c] 43)) := (Below.refl _ _).alloc (Nat.le_refl _) _
  have HR := Lib.hid (hr.below hB0)
  have HG := Lib.hid (hg.below hB0)
  clear hr hg
  go_enter Tryd.func92, Tryd.ntmps92
  go_wp2_with fail
  refine (isValid_any t _ a c 115 HR.out (by unfold Fm.cat; omega) HG.out).mono ?_
  rintro e w1 ⟨rfl, hB1⟩
  have hB2 := hB0.trans (hB1.mono (by simp))
  clear hB1
  go_wp2_with fail
  go_ret
  exact ⟨rfl, hB2⟩

theorem isBlock_any (t : Tree) (w : World) (a : Option Addr) (c : Nat) (hr : Rep w t a) (hg : SignsIn w) :
    Calls Tryd.prog 69 #[t.val a c] w fun e w' => e = .returned (.bool (t.vld 98)) ∧ Below w.heap.size w w' := by
  have hB0 : Below w.heap.size w (w.alloc (.cells #[.int .u8 t.kind, .int .i64 t.num, .string t.name, .slice a t.len c] 43)) := (Below.refl _ _).alloc (Nat.le_refl _) _
  have HR := Lib.hid (hr.below hB0)
  have HG := Lib.hid (hg.below hB0)
  clear hr hg
  go_enter Tryd.func69, Tryd.ntmps69
  go_wp2_with fail
  refine (isValid_any t _ a c 98 HR.out (by unfold Fm.cat; omega) HG.out).mono ?_
  rintro e w1 ⟨rfl, hB1⟩
  have hB2 := hB0.trans (hB1.mono (by simp))
  clear hB1
  go_wp2_with fail
  go_ret
  exact ⟨rfl, hB2⟩

end Go.Proofs.YtnegdmhmhdojbaaDoor
