/-
  The walk of WordRing: it returns true, whatever the three words.
-/
import Derived.Test.YtgdinmlpogpadaaWordBv
import Derived.Test.YtgdinmlpogpadaaWordLaw
import Derived.BigGuardPart
import Derived.LoopTactic
import Derived.Outline
namespace Go.Proofs.Ytgdinmlpogpadaa
open Go.RowKit
set_option maxRecDepth 100000

namespace Wd
theorem W1' : W 1 := by unfold W; omega
def ringOp (k : Int) : Prop := k = 6 ∨ k = 8 ∨ k = 11 ∨ k = 12 ∨ k = 13
theorem ring_comm {k : Int} (h : ringOp k) (x y : Int) : apply k x y = apply k y x := by
  rcases h with rfl | rfl | rfl | rfl | rfl
  · rw [add_bv, add_bv, BitVec.add_comm]
  · rw [mul_bv, mul_bv, BitVec.mul_comm]
  · rw [and_bv, and_bv, BitVec.and_comm]
  · rw [or_bv, or_bv, BitVec.or_comm]
  · rw [xor_bv, xor_bv, BitVec.xor_comm]
theorem ring_assoc {k : Int} (h : ringOp k) (x y z : Int) : apply k (apply k x y) z = apply k x (apply k y z) := by
  rcases h with rfl | rfl | rfl | rfl | rfl
  · rw [add_bv, add_bv, add_bv, add_bv, B_toInt, B_toInt, BitVec.add_assoc]
  · rw [mul_bv, mul_bv, mul_bv, mul_bv, B_toInt, B_toInt, BitVec.mul_assoc]
  · rw [and_bv, and_bv, and_bv, and_bv, B_toInt, B_toInt, BitVec.and_assoc]
  · rw [or_bv, or_bv, or_bv, or_bv, B_toInt, B_toInt, BitVec.or_assoc]
  · rw [xor_bv, xor_bv, xor_bv, xor_bv, B_toInt, B_toInt, BitVec.xor_assoc]
theorem ring_distrib (x y z : Int) : apply 8 x (apply 6 y z) = apply 6 (apply 8 x y) (apply 8 x z) := by
  rw [add_bv, add_bv, mul_bv, mul_bv, mul_bv, B_toInt, B_toInt, B_toInt, BitVec.mul_add]
theorem ring_sub (x y : Int) : apply 7 x y = apply 6 x (wrap32 (-y)) := by
  rw [a7, a6, wrap_add_r]; rfl
theorem ring_neg (x : Int) : apply 6 x (wrap32 (-x)) = 0 := by
  rw [a6, wrap_add_r, Int.add_right_neg]; exact wrap_in (by unfold W; omega)
theorem ring_one (x : Int) (hx : W x) : apply 8 x 1 = x := by rw [a8, Int.mul_one, wrap_in hx]
end Wd

set_option maxHeartbeats 4000000 in
theorem ring_any (x y z : Int) (hx : Wd.W x) (hy : Wd.W y) (hz : Wd.W z) (w : World) :
    Calls Try.prog 7 #[.int .i32 x, .int .i32 y, .int .i32 z] w fun e w' => e = .returned (.bool true) ∧ Grown w w' := by
  have w1 := Wd.W1'
  have wny := Wd.W_wrap (-y)
  have wnx := Wd.W_wrap (-x)
  have wxy := fun k => Wd.W_apply k hx hy
  have wyz := fun k => Wd.W_apply k hy hz
  have wxz := fun k => Wd.W_apply k hx hz
  have c6 : (Wd.apply 6 x y != Wd.apply 6 y x) = false := by rw [Wd.ring_comm (by simp [Wd.ringOp])]; simp
  have c8 : (Wd.apply 8 x y != Wd.apply 8 y x) = false := by rw [Wd.ring_comm (by simp [Wd.ringOp])]; simp
  have c11 : (Wd.apply 11 x y != Wd.apply 11 y x) = false := by rw [Wd.ring_comm (by simp [Wd.ringOp])]; simp
  have c12 : (Wd.apply 12 x y != Wd.apply 12 y x) = false := by rw [Wd.ring_comm (by simp [Wd.ringOp])]; simp
  have c13 : (Wd.apply 13 x y != Wd.apply 13 y x) = false := by rw [Wd.ring_comm (by simp [Wd.ringOp])]; simp
  have s6 : (Wd.apply 6 (Wd.apply 6 x y) z != Wd.apply 6 x (Wd.apply 6 y z)) = false := by rw [Wd.ring_assoc (by simp [Wd.ringOp])]; simp
  have s8 : (Wd.apply 8 (Wd.apply 8 x y) z != Wd.apply 8 x (Wd.apply 8 y z)) = false := by rw [Wd.ring_assoc (by simp [Wd.ringOp])]; simp
  have s11 : (Wd.apply 11 (Wd.apply 11 x y) z != Wd.apply 11 x (Wd.apply 11 y z)) = false := by rw [Wd.ring_assoc (by simp [Wd.ringOp])]; simp
  have s12 : (Wd.apply 12 (Wd.apply 12 x y) z != Wd.apply 12 x (Wd.apply 12 y z)) = false := by rw [Wd.ring_assoc (by simp [Wd.ringOp])]; simp
  have s13 : (Wd.apply 13 (Wd.apply 13 x y) z != Wd.apply 13 x (Wd.apply 13 y z)) = false := by rw [Wd.ring_assoc (by simp [Wd.ringOp])]; simp
  have d1 : (Wd.apply 8 x (Wd.apply 6 y z) == Wd.apply 6 (Wd.apply 8 x y) (Wd.apply 8 x z)) = true := by rw [Wd.ring_distrib]; simp
  have d2 : (Wd.apply 7 x y == Wd.apply 6 x (wrap32 (-y))) = true := by rw [Wd.ring_sub]; simp
  have d3 : (Wd.apply 6 x (wrap32 (-x)) == 0) = true := by rw [Wd.ring_neg]; simp
  have d4 : (Wd.apply 8 x 1 == x) = true := by rw [Wd.ring_one x hx]; simp
  go_enter Try.func7, Try.ntmps7
  go_wp2_with (go_at_call 13; refine (awake_any _).mono ?_; rintro e w1 ⟨rfl, rfl⟩)
  go_loop [13] (fun i => ∃ j : Nat, j ≤ 5 ∧ i = .int .i64 j) (fun i => 5 - (intOf i).toNat)
  case atStart => exact ⟨0, by omega, rfl⟩
  case round =>
    obtain ⟨j, hj, rfl⟩ := hrel
    by_cases hlt : j < 5
    · have hc : j = 0 ∨ j = 1 ∨ j = 2 ∨ j = 3 ∨ j = 4 := by omega
      clear hlt hj
      rcases hc with rfl | rfl | rfl | rfl | rfl
      all_goals
        clear d1 d2 d3 d4
        go_wp2_with (go_at_call 14; refine (op_any _ _ _ (by omega) (by first | with_reducible exact hx | with_reducible exact hy | with_reducible exact wxy _) (by first | with_reducible exact hx | with_reducible exact hy | with_reducible exact hz | with_reducible exact wyz _) _).mono ?_; rintro e w1 ⟨rfl, rfl⟩)
        go_round
        case rel => exact ⟨_ + 1, by omega, rfl⟩
        case measure => simp [intOf]
    · obtain rfl : j = 5 := by omega
      clear hlt hj c6 c8 c11 c12 c13 s6 s8 s11 s12 s13
      go_wp2_with (first | (go_at_call 14; refine (op_any _ _ _ (by omega) (by first | with_reducible exact hx | with_reducible exact hy | with_reducible exact wxy _) (by first | with_reducible exact hy | with_reducible exact hz | with_reducible exact w1 | with_reducible exact wnx | with_reducible exact wny | with_reducible exact wyz _ | with_reducible exact wxz _) _).mono ?_; rintro e w1 ⟨rfl, rfl⟩) | (go_at_call 18; refine (neg_any _ (by first | with_reducible exact hx | with_reducible exact hy) _).mono ?_; rintro e w1 ⟨rfl, rfl⟩))
      go_ret
      exact ⟨rfl, by repeat (first | exact Grown.refl _ | apply Grown.drew | apply Grown.alloc)⟩
end Go.Proofs.Ytgdinmlpogpadaa
