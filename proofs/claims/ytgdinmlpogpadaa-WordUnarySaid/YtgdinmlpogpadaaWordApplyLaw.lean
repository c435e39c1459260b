/-
  The walks of WordApply and WordUnary: each returns true, whatever the operator and the words.
-/
import Derived.Test.YtgdinmlpogpadaaRef03Calls
import Derived.Test.YtgdinmlpogpadaaWordLaw
import Derived.BigGuardPart
namespace Go.Proofs.Ytgdinmlpogpadaa
open Go.RowKit
set_option maxRecDepth 100000

theorem u8_wf {x : Int} (h : (Lit.int .u8 x).wf = true) : 0 ≤ x ∧ x ≤ 255 := by
  simpa [Lit.wf, IntKind.min, IntKind.max, IntKind.signed, IntKind.bits] using h
theorem Wd.err_bd (k y : Int) : 0 ≤ Wd.err k y ∧ Wd.err k y ≤ 9 := by unfold Wd.err; split <;> (try split) <;> omega
theorem Wd.uerr_bd (k : Int) : 0 ≤ Wd.uerr k ∧ Wd.uerr k ≤ 9 := by unfold Wd.uerr; split <;> omega

theorem lawApply_any (k x y : Int) (hk : 0 ≤ k ∧ k ≤ 255) (hx : Wd.W x) (hy : Wd.W y) (w : World) :
    Calls Try.prog 3 #[.int .u8 k, .int .i32 x, .int .i32 y] w fun e w' => e = .returned (.bool true) ∧ Grown w w' := by
  have hb := Wd.err_bd k y
  go_enter Try.func3, Try.ntmps3
  go_wp2_with (first | (go_at_call 11; refine (apply_any _ _ _ hk hx hy _).mono ?_; rintro e w1 ⟨rfl, rfl⟩) | (go_at_call 12; refine (refApply_any _ _ _ hk hx hy _).mono ?_; rintro e w1 ⟨rfl, rfl⟩) | (go_at_call 13; refine (awake_any _).mono ?_; rintro e w1 ⟨rfl, rfl⟩))
  go_ret
  exact ⟨rfl, Grown.refl _⟩

theorem lawUnary_any (k x : Int) (hk : 0 ≤ k ∧ k ≤ 255) (hx : Wd.W x) (w : World) :
    Calls Try.prog 6 #[.int .u8 k, .int .i32 x] w fun e w' => e = .returned (.bool true) ∧ Grown w w' := by
  have hb := Wd.uerr_bd k
  go_enter Try.func6, Try.ntmps6
  go_wp2_with (first | (go_at_call 16; refine (unary_any _ _ hk hx _).mono ?_; rintro e w1 ⟨rfl, rfl⟩) | (go_at_call 17; refine (refUnary_any _ _ hk hx _).mono ?_; rintro e w1 ⟨rfl, rfl⟩) | (go_at_call 13; refine (awake_any _).mono ?_; rintro e w1 ⟨rfl, rfl⟩))
  go_ret
  exact ⟨rfl, Grown.refl _⟩
end Go.Proofs.Ytgdinmlpogpadaa
