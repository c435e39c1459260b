/-
  Contracts: expressions, statements and blocks (packages ast and ontimeref12).
-/
import Derived.Test.YtfkegjdgbnkicaaDoorAstIsValid
import Derived.Test.YtfkegjdgbnkicaaDoorRef12Is
namespace Go.Proofs.YtfkegjdgbnkicaaDoor
open Go.RowKit
set_option maxRecDepth 100000

theorem isExpr_any (t : Tree) (w : World) (a : Option Addr) (c : Nat) (hr : Rep w t a) (hg : SignsIn w) :
    Calls Tryd.prog 14 #[t.val a c] w fun e w' => e = .returned (.bool (t.vld 101)) ∧ Below w.heap.size w w' := by
  have hB0 : Below w.heap.size w (w.alloc (.cells #[.int .u8 t.kind, .int .i64 t.num, .string t.name, .slice a t.len c] 24)) := (Below.refl _ _).alloc (Nat.le_refl _) _
  have HR := Lib.hid (hr.below hB0)
  have HG := Lib.hid (hg.below hB0)
  clear hr hg
  go_enter Tryd.func14, Tryd.ntmps14
  go_wp2_with fail
  refine (isValid_any t _ a c 101 HR.out (by unfold Fm.cat; omega) HG.out).mono ?_
  rintro e w1 ⟨rfl, hB1⟩
  have hB2 := hB0.trans (hB1.mono (by simp))
  clear hB1
  go_wp2_with fail
  go_ret
  exact ⟨rfl, hB2⟩

theorem isStmt_any (t : Tree) (w : World) (a : Option Addr) (c : Nat) (hr : Rep w t a) (hg : SignsIn w) :
    Calls Tryd.prog 16 #[t.val a c] w fun e w' => e = .returned (.bool (t.vld 115)) ∧ Below w.heap.size w w' := by
  have hB0 : Below w.heap.size w (w.alloc (.cells #[.int .u8 t.kind, .int .i64 t.num, .string t.name, .slice a t.len c] 24)) := (Below.refl _ _).alloc (Nat.le_refl _) _
  have HR := Lib.hid (hr.below hB0)
  have HG := Lib.hid (hg.below hB0)
  clear hr hg
  go_enter Tryd.func16, Tryd.ntmps16
  go_wp2_with fail
  refine (isValid_any t _ a c 115 HR.out (by unfold Fm.cat; omega) HG.out).mono ?_
  rintro e w1 ⟨rfl, hB1⟩
  have hB2 := hB0.trans (hB1.mono (by simp))
  clear hB1
  go_wp2_with fail
  go_ret
  exact ⟨rfl, hB2⟩

theorem isBlock_any (t : Tree) (w : World) (a : Option Addr) (c : Nat) (hr : Rep w t a) (hg : SignsIn w) :
    Calls Tryd.prog 18 #[t.val a c] w fun e w' => e = .returned (.bool (t.vld 98)) ∧ Below w.heap.size w w' := by
  have hB0 : Below w.heap.size w (w.alloc (.cells #[.int .u8 t.kind, .int .i64 t.num, .string t.name, .slice a t.len c] 24)) := (Below.refl _ _).alloc (Nat.le_refl _) _
  have HR := Lib.hid (hr.below hB0)
  have HG := Lib.hid (hg.below hB0)
  clear hr hg
  go_enter Tryd.func18, Tryd.ntmps18
  go_wp2_with fail
  refine (isValid_any t _ a c 98 HR.out (by unfold Fm.cat; omega) HG.out).mono ?_
  rintro e w1 ⟨rfl, hB1⟩
  have hB2 := hB0.trans (hB1.mono (by simp))
  clear hB1
  go_wp2_with fail
  go_ret
  exact ⟨rfl, hB2⟩

theorem refExpr_any (t : Tree) (w : World) (a : Option Addr) (c : Nat) (hr : Rep w t a) :
    Calls Tryd.prog 15 #[t.val a c] w fun e w' => e = .returned (.bool (t.vld 101)) ∧ Below w.heap.size w w' := by
  have hB0 : Below w.heap.size w (w.alloc (.cells #[.int .u8 t.kind, .int .i64 t.num, .string t.name, .slice a t.len c] 24)) := (Below.refl _ _).alloc (Nat.le_refl _) _
  have HR := Lib.hid (hr.below hB0)
  clear hr
  go_enter Tryd.func15, Tryd.ntmps15
  go_wp2_with fail
  refine (is_any t _ a c 101 HR.out (by unfold Fm.cat; omega)).mono ?_
  rintro e w1 ⟨rfl, hB1⟩
  have hB2 := hB0.trans (hB1.mono (by simp))
  clear hB1
  go_wp2_with fail
  go_ret
  exact ⟨rfl, hB2⟩

theorem refStmt_any (t : Tree) (w : World) (a : Option Addr) (c : Nat) (hr : Rep w t a) :
    Calls Tryd.prog 17 #[t.val a c] w fun e w' => e = .returned (.bool (t.vld 115)) ∧ Below w.heap.size w w' := by
  have hB0 : Below w.heap.size w (w.alloc (.cells #[.int .u8 t.kind, .int .i64 t.num, .string t.name, .slice a t.len c] 24)) := (Below.refl _ _).alloc (Nat.le_refl _) _
  have HR := Lib.hid (hr.below hB0)
  clear hr
  go_enter Tryd.func17, Tryd.ntmps17
  go_wp2_with fail
  refine (is_any t _ a c 115 HR.out (by unfold Fm.cat; omega)).mono ?_
  rintro e w1 ⟨rfl, hB1⟩
  have hB2 := hB0.trans (hB1.mono (by simp))
  clear hB1
  go_wp2_with fail
  go_ret
  exact ⟨rfl, hB2⟩

theorem refBlock_any (t : Tree) (w : World) (a : Option Addr) (c : Nat) (hr : Rep w t a) :
    Calls Tryd.prog 19 #[t.val a c] w fun e w' => e = .returned (.bool (t.vld 98)) ∧ Below w.heap.size w w' := by
  have hB0 : Below w.heap.size w (w.alloc (.cells #[.int .u8 t.kind, .int .i64 t.num, .string t.name, .slice a t.len c] 24)) := (Below.refl _ _).alloc (Nat.le_refl _) _
  have HR := Lib.hid (hr.below hB0)
  clear hr
  go_enter Tryd.func19, Tryd.ntmps19
  go_wp2_with fail
  refine (is_any t _ a c 98 HR.out (by unfold Fm.cat; omega)).mono ?_
  rintro e w1 ⟨rfl, hB1⟩
  have hB2 := hB0.trans (hB1.mono (by simp))
  clear hB1
  go_wp2_with fail
  go_ret
  exact ⟨rfl, hB2⟩
end Go.Proofs.YtfkegjdgbnkicaaDoor
