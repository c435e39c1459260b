/-
  The walk of WordShifts: it returns true, whatever the words.
-/
import Derived.Test.YtgdinmlpogpadaaWordBv
import Derived.Test.YtgdinmlpogpadaaWordLaw
import Derived.BigGuardPart
import Derived.Outline
namespace Go.Proofs.Ytgdinmlpogpadaa
open Go.RowKit
set_option maxRecDepth 100000

namespace Wd
theorem and31 (n : Int) : bits .and .i64 n 31 = n % 32 := by
  show IntKind.i64.wrap ((BitVec.ofInt 64 n &&& BitVec.ofInt 64 31).toNat : Int) = n % 32
  have e : BitVec.ofInt 64 31 = BitVec.ofNat 64 31 := rfl
  rw [e, BitVec.toNat_and, BitVec.toNat_ofNat, BitVec.toNat_ofInt]
  have h := Nat.and_two_pow_sub_one_eq_mod ((n % ((2 ^ 64 : Nat) : Int)).toNat) 5
  simp only [Nat.reducePow, Nat.reduceSub, Nat.reduceMod] at h ⊢
  rw [h, IntWalk.i64_in _ (by omega)]
  omega
theorem same_count (b t : Int) : apply 6 b (apply 8 32 t) % 32 = b % 32 := by
  rw [a6, a8, wrap_add_r]
  unfold wrap32
  omega
theorem P_bd (b : Int) : (1 : Int) ≤ 2 ^ (b % 32).toNat ∧ (2 : Int) ^ (b % 32).toNat ≤ 2147483648 := by
  constructor
  · exact Int.pow_pos (by omega)
  · have h1 : 2 ^ (b % 32).toNat ≤ 2 ^ 31 := Nat.pow_le_pow_right (by omega) (by omega)
    have h2 : ((2 ^ (b % 32).toNat : Nat) : Int) ≤ ((2 ^ 31 : Nat) : Int) := Int.ofNat_le.2 h1
    simpa using h2
theorem P_bd' (b : Int) (h : b % 32 < 31) : (2 : Int) ^ (b % 32).toNat ≤ 1073741824 := by
  have h1 : 2 ^ (b % 32).toNat ≤ 2 ^ 30 := Nat.pow_le_pow_right (by omega) (by omega)
  have h2 : ((2 ^ (b % 32).toNat : Nat) : Int) ≤ ((2 ^ 30 : Nat) : Int) := Int.ofNat_le.2 h1
  simpa using h2
end Wd

set_option maxHeartbeats 1000000 in
theorem shifts_any (x b t : Int) (hx : Wd.W x) (hb : Wd.W b) (ht : -128 ≤ t ∧ t ≤ 127) (w : World) :
    Calls Try.prog 5 #[.int .i32 x, .int .i32 b, .int .i8 t] w fun e w' => e = .returned (.bool true) ∧ Grown w w' := by
  have hb' := hb
  have hx' := hx
  unfold Wd.W at hb' hx'
  have ha := Wd.and31 b
  have w32 : Wd.W 32 := by unfold Wd.W; omega
  have wt : Wd.W t := by unfold Wd.W; omega
  have ws := Wd.W_apply 8 w32 wt
  have wz := Wd.W_apply 6 hb ws
  have s1 : (Wd.apply 14 x b != Wd.apply 14 x (Wd.apply 6 b (Wd.apply 8 32 t))) = false := by rw [Wd.a14, Wd.a14, Wd.same_count]; simp
  have s2 : (Wd.apply 15 x b != Wd.apply 15 x (Wd.apply 6 b (Wd.apply 8 32 t))) = false := by rw [Wd.a15, Wd.a15, Wd.same_count]; simp
  have hP := Wd.P_bd b
  have hq := Wd.W_apply 15 hx hb
  have E15 : Hid (Wd.apply 15 x b = x / 2 ^ (b % 32).toNat) := Wd.a15 x b
  have hd : Wd.apply 15 x b * 2 ^ (b % 32).toNat ≤ x ∧ x < (Wd.apply 15 x b + 1) * 2 ^ (b % 32).toNat ∧ x - 2 ^ (b % 32).toNat < Wd.apply 15 x b * 2 ^ (b % 32).toNat ∧ (Wd.apply 15 x b + 1) * 2 ^ (b % 32).toNat ≤ x + 2 ^ (b % 32).toNat := by
    rw [E15.out]
    have h1 := Int.mul_ediv_add_emod x (2 ^ (b % 32).toNat)
    have h2 := Int.emod_lt_of_pos x (show (0 : Int) < 2 ^ (b % 32).toNat by omega)
    have h3 := Int.emod_nonneg x (show ¬ (2 : Int) ^ (b % 32).toNat = 0 by omega)
    rw [Int.add_mul, Int.one_mul, Int.mul_comm]
    omega
  unfold Wd.W at hq
  by_cases hn : b % 32 < 31
  · have hP' := Wd.P_bd' b hn
    have wp : Wd.W (2 ^ (b % 32).toNat) := by unfold Wd.W; omega
    have s3 : (Wd.apply 14 x b != Wd.apply 8 x (2 ^ (b % 32).toNat)) = false := by rw [Wd.a14, Wd.a8]; simp
    go_enter Try.func5, Try.ntmps5
    go_wp2_with (first | (go_at_call 13; refine (awake_any _).mono ?_; rintro e w1 ⟨rfl, rfl⟩) | (go_at_call 14; refine (op_any _ _ _ (by omega) (by first | with_reducible exact hx | with_reducible exact hb | with_reducible exact w32) (by first | with_reducible exact hb | with_reducible exact wt | with_reducible exact ws | with_reducible exact wz | with_reducible exact wp) _).mono ?_; rintro e w1 ⟨rfl, rfl⟩))
    go_ret
    exact ⟨rfl, Grown.refl _⟩
  · go_enter Try.func5, Try.ntmps5
    go_wp2_with (first | (go_at_call 13; refine (awake_any _).mono ?_; rintro e w1 ⟨rfl, rfl⟩) | (go_at_call 14; refine (op_any _ _ _ (by omega) (by first | with_reducible exact hx | with_reducible exact hb | with_reducible exact w32) (by first | with_reducible exact hb | with_reducible exact wt | with_reducible exact ws | with_reducible exact wz) _).mono ?_; rintro e w1 ⟨rfl, rfl⟩))
    go_ret
    exact ⟨rfl, Grown.refl _⟩
end Go.Proofs.Ytgdinmlpogpadaa
