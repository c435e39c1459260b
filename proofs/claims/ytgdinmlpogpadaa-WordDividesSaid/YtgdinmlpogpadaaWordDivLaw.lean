/-
  The walk of WordDivides: it returns true, whatever the two words.
-/
import Derived.Test.YtgdinmlpogpadaaWordDivPlain
import Derived.Test.YtgdinmlpogpadaaWordLaw
import Derived.BigGuardPart
import Derived.Outline
namespace Go.Proofs.Ytgdinmlpogpadaa
open Go.RowKit
set_option maxRecDepth 100000

theorem size_any (n : Int) (hn : Wd.W n) (w : World) :
    Calls Try.prog 15 #[.int .i32 n] w fun e w' => e = .returned (.int .i64 (Wd.size n)) ∧ w = w' := by
  unfold Wd.W at hn
  go_enter Try.func15, Try.ntmps15
  go_wp2_with fail
  all_goals go_ret
  all_goals exact ⟨ret_int (by unfold Wd.size; omega), rfl⟩
theorem ret_bool {b : Bool} (h : b = true) : Ending.returned (.bool b) = .returned (.bool true) := by rw [h]
theorem sign_eq {q x y : Int} (a : q < 0 ↔ ¬ (x < 0 ↔ y < 0)) : (decide (q < 0) == !decide (x < 0) == decide (y < 0)) = true := by
  by_cases h1 : q < 0 <;> by_cases h2 : x < 0 <;> by_cases h3 : y < 0 <;> simp [h1, h2, h3] at a ⊢
theorem sign_eq' {q y : Int} (a : q < 0 ↔ ¬ y < 0) : (decide (q < 0) == !decide (y < 0)) = true := by
  by_cases h1 : q < 0 <;> by_cases h3 : y < 0 <;> simp [h1, h3] at a ⊢

set_option maxHeartbeats 1000000 in
theorem divides_zero (x : Int) (hx : Wd.W x) (w : World) :
    Calls Try.prog 4 #[.int .i32 x, .int .i32 0] w fun e w' => e = .returned (.bool true) ∧ Grown w w' := by
  have z : Wd.W 0 := by unfold Wd.W; omega
  have e1 : Wd.apply 9 x 0 = 0 := rfl
  have e2 : Wd.apply 10 x 0 = 0 := rfl
  have f1 : Wd.err 9 0 = 9 := rfl
  have f2 : Wd.err 10 0 = 9 := rfl
  go_enter Try.func4, Try.ntmps4
  go_wp2_with (first | (go_at_call 11; refine (apply_any _ _ _ (by omega) hx z _).mono ?_; rintro e w1 ⟨rfl, rfl⟩) | (go_at_call 13; refine (awake_any _).mono ?_; rintro e w1 ⟨rfl, rfl⟩))
  go_ret
  exact ⟨rfl, Grown.refl _⟩

set_option maxHeartbeats 4000000 in
theorem divides_some (x y : Int) (hx : Wd.W x) (hy : Wd.W y) (h0 : ¬ y = 0) (w : World) :
    Calls Try.prog 4 #[.int .i32 x, .int .i32 y] w fun e w' => e = .returned (.bool true) ∧ Grown w w' := by
  have h0' : (y == 0) = false := by simpa using h0
  have f1 : Wd.err 9 y = 0 := by unfold Wd.err; simp [h0]
  have f2 : Wd.err 10 y = 0 := by unfold Wd.err; simp [h0]
  have wq := Wd.W_apply 9 hx hy
  have wr := Wd.W_apply 10 hx hy
  have wm := Wd.W_apply 8 wq hy
  have t1 : (Wd.apply 6 (Wd.apply 8 (Wd.apply 9 x y) y) (Wd.apply 10 x y) != x) = false := by rw [Wd.div_back hx h0]; simp
  have t2 : decide (Wd.size (Wd.apply 10 x y) < Wd.size y) = true := by simpa using Wd.mod_small h0
  have T3 := Lib.hid (Wd.mod_sign (x := x) h0)
  have T4 := Lib.hid (Wd.quo_sign hx hy h0)
  go_enter Try.func4, Try.ntmps4
  go_wp2_with (first | (go_at_call 11; refine (apply_any _ _ _ (by omega) hx hy _).mono ?_; rintro e w1 ⟨rfl, rfl⟩) | (go_at_call 13; refine (awake_any _).mono ?_; rintro e w1 ⟨rfl, rfl⟩) | (go_at_call 14; refine (op_any _ _ _ (by omega) (by first | exact wq | exact wm) (by first | exact hy | exact wr) _).mono ?_; rintro e w1 ⟨rfl, rfl⟩) | (go_at_call 15; refine (size_any _ (by first | exact hy | exact wr) _).mono ?_; rintro e w1 ⟨rfl, rfl⟩))
  all_goals go_ret
  all_goals
    first
    | exact ⟨rfl, Grown.refl _⟩
    | exact absurd (decide_eq_decide.2 (T3.out ‹_›)) ‹_›
    | exact ⟨ret_bool (sign_eq (T4.out ‹_› (fun h => absurd h.1 ‹_›))), Grown.refl _⟩
    | (have hxm : x = -2147483648 := by assumption
       have hq : ¬ Wd.apply 9 x y = 0 := by assumption
       subst hxm
       exact ⟨ret_bool (sign_eq' (by have a := T4.out hq (fun h => absurd h.2 ‹_›); simpa using a)), Grown.refl _⟩)
theorem divides_any (x y : Int) (hx : Wd.W x) (hy : Wd.W y) (w : World) :
    Calls Try.prog 4 #[.int .i32 x, .int .i32 y] w fun e w' => e = .returned (.bool true) ∧ Grown w w' := by
  by_cases h0 : y = 0
  · subst h0; exact divides_zero x hx w
  · exact divides_some x y hx hy h0 w
end Go.Proofs.Ytgdinmlpogpadaa
