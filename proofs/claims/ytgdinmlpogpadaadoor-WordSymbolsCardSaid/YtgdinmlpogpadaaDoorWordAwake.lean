/-
  Contract: the examples of layer 3's chapter hold.
-/
import Derived.Test.YtgdinmlpogpadaaDoorWordCalls
namespace Go.Proofs.YtgdinmlpogpadaaDoor
open Go.RowKit
set_option maxRecDepth 100000

theorem awake_any (w : World) : Calls Tryd.prog 7 #[] w fun e w' => e = .returned (.bool true) ∧ w = w' := by
  have e1 : Wd.apply 6 2147483647 1 = -2147483648 := by decide +kernel
  have e2 : Wd.apply 10 (-7) 2 = -1 := by decide +kernel
  have e3 : Wd.apply 15 (-7) 33 = -4 := by decide +kernel
  have f1 : Wd.err 6 1 = 0 := by decide +kernel
  have f2 : Wd.err 10 2 = 0 := by decide +kernel
  have f3 : Wd.err 15 33 = 0 := by decide +kernel
  go_enter Tryd.func7, Tryd.ntmps7
  go_wp2_with fail
  refine (apply_any _ _ _ (by omega) (by unfold Wd.W; omega) (by unfold Wd.W; omega) _).mono ?_
  rintro e w1 ⟨rfl, rfl⟩
  go_wp2_with fail
  refine (apply_any _ _ _ (by omega) (by unfold Wd.W; omega) (by unfold Wd.W; omega) _).mono ?_
  rintro e w1 ⟨rfl, rfl⟩
  go_wp2_with fail
  refine (apply_any _ _ _ (by omega) (by unfold Wd.W; omega) (by unfold Wd.W; omega) _).mono ?_
  rintro e w1 ⟨rfl, rfl⟩
  go_wp2_with fail
  go_ret
  exact ⟨rfl, rfl⟩
end Go.Proofs.YtgdinmlpogpadaaDoor
