/-
  Contracts of the statements' own small functions of layer 3: op, neg, not, awake.
-/
import Derived.Test.YtgdinmlpogpadaaWordCalls
namespace Go.Proofs.Ytgdinmlpogpadaa
open Go.RowKit
set_option maxRecDepth 100000

theorem op_any (k x y : Int) (hk : 0 ≤ k ∧ k ≤ 255) (hx : Wd.W x) (hy : Wd.W y) (w : World) :
    Calls Try.prog 14 #[.int .u8 k, .int .i32 x, .int .i32 y] w fun e w' => e = .returned (.int .i32 (Wd.apply k x y)) ∧ w = w' := by
  go_enter Try.func14, Try.ntmps14
  go_wp2_with (go_at_call 11; refine (apply_any _ _ _ hk hx hy _).mono ?_; rintro e w1 ⟨rfl, rfl⟩)
  go_ret
  exact ⟨rfl, rfl⟩

theorem neg_any (x : Int) (hx : Wd.W x) (w : World) :
    Calls Try.prog 18 #[.int .i32 x] w fun e w' => e = .returned (.int .i32 (wrap32 (-x))) ∧ w = w' := by
  go_enter Try.func18, Try.ntmps18
  go_wp2_with (go_at_call 16; refine (un4 _ hx _).mono ?_; rintro e w1 ⟨rfl, rfl⟩)
  go_ret
  exact ⟨rfl, rfl⟩

theorem not_any (x : Int) (hx : Wd.W x) (w : World) :
    Calls Try.prog 20 #[.int .i32 x] w fun e w' => e = .returned (.int .i32 (Wd.tr (x == 0))) ∧ w = w' := by
  go_enter Try.func20, Try.ntmps20
  go_wp2_with (go_at_call 16; refine (un5 _ hx _).mono ?_; rintro e w1 ⟨rfl, rfl⟩)
  go_ret
  exact ⟨rfl, rfl⟩

theorem awake_any (w : World) : Calls Try.prog 13 #[] w fun e w' => e = .returned (.bool true) ∧ w = w' := by
  have e1 : Wd.apply 6 2147483647 1 = -2147483648 := by decide +kernel
  have e2 : Wd.apply 10 (-7) 2 = -1 := by decide +kernel
  have e3 : Wd.apply 15 (-7) 33 = -4 := by decide +kernel
  have f1 : Wd.err 6 1 = 0 := by decide +kernel
  have f2 : Wd.err 10 2 = 0 := by decide +kernel
  have f3 : Wd.err 15 33 = 0 := by decide +kernel
  go_enter Try.func13, Try.ntmps13
  go_wp2_with fail
  refine (apply_any _ _ _ (by omega) (by unfold Wd.W; omega) (by unfold Wd.W; omega) _).mono ?_
  rintro e w1 ⟨rfl, rfl⟩
  go_wp2_with fail
  refine (apply_any _ _ _ (by omega) (by unfold Wd.W; omega) (by unfold Wd.W; omega) _).mono ?_
  rintro e w1 ⟨rfl, rfl⟩
  go_wp2_with fail
  refine (apply_any _ _ _ (by omega) (by unfold Wd.W; omega) (by unfold Wd.W; omega) _).mono ?_
  rintro e w1 ⟨rfl, rfl⟩
  go_wp2_with fail
  go_ret
  exact ⟨rfl, rfl⟩
end Go.Proofs.Ytgdinmlpogpadaa
