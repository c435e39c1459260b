/-
  Plain lemmas: words as bit vectors.
-/
import Derived.Test.YtgochgcchkdlmaaDoorWordDivPlain
namespace Go.Proofs.YtgochgcchkdlmaaDoor.Wd
set_option linter.unusedVariables false
set_option linter.unusedSimpArgs false
open Go.RowKit

abbrev B (x : Int) : BitVec 32 := BitVec.ofInt 32 x

theorem wrap_toNat (r : BitVec 32) : wrap32 r.toNat = r.toInt := by
  have h := r.isLt
  have e := BitVec.toInt_eq_toNat_cond r
  unfold wrap32
  rw [e]
  split <;> omega
theorem toInt_B (x : Int) : (B x).toInt = wrap32 x := by
  rw [BitVec.toInt_ofInt]
  unfold wrap32 Int.bmod
  simp only [show ((2 ^ 32 : Nat) : Int) = 4294967296 from rfl]
  split <;> omega
theorem B_toInt (r : BitVec 32) : B r.toInt = r := by
  apply BitVec.eq_of_toInt_eq
  rw [toInt_B]
  apply wrap_in
  have h := BitVec.toInt_lt (x := r)
  have g := BitVec.le_toInt (x := r)
  unfold W
  omega
theorem back {x : Int} (h : W x) : (B x).toInt = x := by rw [toInt_B, wrap_in h]
theorem toInt_inj {x y : Int} (hx : W x) (hy : W y) (h : B x = B y) : x = y := by rw [← back hx, ← back hy, h]

theorem and_bv (x y : Int) : apply 11 x y = (B x &&& B y).toInt := by
  rw [a11, ← wrap_toNat, ← IntWalk.i32_left]; rfl
theorem or_bv (x y : Int) : apply 12 x y = (B x ||| B y).toInt := by
  rw [a12, ← wrap_toNat, ← IntWalk.i32_left]; rfl
theorem xor_bv (x y : Int) : apply 13 x y = (B x ^^^ B y).toInt := by
  rw [a13, ← wrap_toNat, ← IntWalk.i32_left]; rfl
theorem add_bv (x y : Int) : apply 6 x y = (B x + B y).toInt := by
  rw [a6, ← toInt_B]; simp [B, BitVec.ofInt_add]
theorem sub_bv (x y : Int) : apply 7 x y = (B x - B y).toInt := by
  rw [a7, ← toInt_B, Int.sub_eq_add_neg]; simp only [B]; rw [BitVec.ofInt_add, BitVec.ofInt_neg, ← BitVec.sub_eq_add_neg]
theorem mul_bv (x y : Int) : apply 8 x y = (B x * B y).toInt := by
  rw [a8, ← toInt_B]; simp [B, BitVec.ofInt_mul]
theorem neg_bv (x : Int) : wrap32 (-x) = (-(B x)).toInt := by
  rw [← toInt_B]; simp [B, BitVec.ofInt_neg]

theorem nat_and_or (n : Nat) : ∀ a b : Nat, a ≤ n → (a &&& b) + (a ||| b) = a + b := by
  induction n with
  | zero => intro a b h; obtain rfl : a = 0 := by omega
            simp
  | succ n ih =>
    intro a b h
    by_cases h0 : a = 0
    · subst h0; simp
    · have i := ih (a / 2) (b / 2) (by omega)
      have e1 := Nat.and_div_two (a := a) (b := b)
      have e2 := Nat.or_div_two (a := a) (b := b)
      have m1 : (a &&& b) % 2 = (a % 2) * (b % 2) := by
        have := Nat.and_mod_two_pow (a := a) (b := b) (n := 1)
        simp only [Nat.pow_one] at this
        rw [this]
        rcases Nat.mod_two_eq_zero_or_one a with h1 | h1 <;> rcases Nat.mod_two_eq_zero_or_one b with h2 | h2 <;> rw [h1, h2] <;> rfl
      have m2 : (a ||| b) % 2 = a % 2 + b % 2 - (a % 2) * (b % 2) := by
        have := Nat.or_mod_two_pow (a := a) (b := b) (n := 1)
        simp only [Nat.pow_one] at this
        rw [this]
        rcases Nat.mod_two_eq_zero_or_one a with h1 | h1 <;> rcases Nat.mod_two_eq_zero_or_one b with h2 | h2 <;> rw [h1, h2] <;> rfl
      rcases Nat.mod_two_eq_zero_or_one a with h1 | h1 <;> rcases Nat.mod_two_eq_zero_or_one b with h2 | h2 <;> rw [h1, h2] at m1 m2 <;> omega
theorem nat_and_xor (n : Nat) : ∀ a b : Nat, a ≤ n → (a ||| b) = (a &&& b) + (a ^^^ b) := by
  induction n with
  | zero => intro a b h; obtain rfl : a = 0 := by omega
            simp
  | succ n ih =>
    intro a b h
    by_cases h0 : a = 0
    · subst h0; simp
    · have i := ih (a / 2) (b / 2) (by omega)
      have e1 := Nat.and_div_two (a := a) (b := b)
      have e2 := Nat.or_div_two (a := a) (b := b)
      have e3 := Nat.xor_div_two (a := a) (b := b)
      have m1 : (a &&& b) % 2 = (a % 2) * (b % 2) := by
        have := Nat.and_mod_two_pow (a := a) (b := b) (n := 1)
        simp only [Nat.pow_one] at this
        rw [this]
        rcases Nat.mod_two_eq_zero_or_one a with h1 | h1 <;> rcases Nat.mod_two_eq_zero_or_one b with h2 | h2 <;> rw [h1, h2] <;> rfl
      have m2 : (a ||| b) % 2 = a % 2 + b % 2 - (a % 2) * (b % 2) := by
        have := Nat.or_mod_two_pow (a := a) (b := b) (n := 1)
        simp only [Nat.pow_one] at this
        rw [this]
        rcases Nat.mod_two_eq_zero_or_one a with h1 | h1 <;> rcases Nat.mod_two_eq_zero_or_one b with h2 | h2 <;> rw [h1, h2] <;> rfl
      have m3 : (a ^^^ b) % 2 = (a % 2 + b % 2) % 2 := by
        have := Nat.xor_mod_two_pow (a := a) (b := b) (n := 1)
        simp only [Nat.pow_one] at this
        rw [this]
        rcases Nat.mod_two_eq_zero_or_one a with h1 | h1 <;> rcases Nat.mod_two_eq_zero_or_one b with h2 | h2 <;> rw [h1, h2] <;> rfl
      rcases Nat.mod_two_eq_zero_or_one a with h1 | h1 <;> rcases Nat.mod_two_eq_zero_or_one b with h2 | h2 <;> rw [h1, h2] at m1 m2 m3 <;> omega
theorem bv_and_or (a b : BitVec 32) : (a &&& b) + (a ||| b) = a + b := by
  apply BitVec.eq_of_toNat_eq
  rw [BitVec.toNat_add, BitVec.toNat_add, BitVec.toNat_and, BitVec.toNat_or, nat_and_or _ _ _ (Nat.le_refl _)]
theorem bv_and_xor (a b : BitVec 32) : (a ||| b) - (a &&& b) = a ^^^ b := by
  have h : (a ||| b) = (a &&& b) + (a ^^^ b) := by
    apply BitVec.eq_of_toNat_eq
    rw [BitVec.toNat_add, BitVec.toNat_and, BitVec.toNat_or, BitVec.toNat_xor, ← nat_and_xor _ _ _ (Nat.le_refl _), ← BitVec.toNat_or, Nat.mod_eq_of_lt (BitVec.isLt _)]
  rw [h, BitVec.add_comm, BitVec.add_sub_cancel]
theorem bv_absorb (a b : BitVec 32) : a &&& (a ||| b) = a := by
  apply BitVec.eq_of_getLsbD_eq
  intro i hi
  simp
  exact fun h => Or.inl h
theorem bv_flip (a : BitVec 32) : -a - 1 = ~~~a := by
  rw [BitVec.neg_eq_not_add]; exact BitVec.add_sub_cancel _ _
end Go.Proofs.YtgochgcchkdlmaaDoor.Wd
