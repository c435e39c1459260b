/-
  Plain lemmas: the reference's arithmetic, bit by bit, agrees with that of words.
-/
import Derived.Test.YtgochgcchkdlmaaDoorWordBv
namespace Go.Proofs.YtgochgcchkdlmaaDoor.Rf
set_option linter.unusedVariables false
set_option linter.unusedSimpArgs false
open Go.RowKit
open Go.Proofs.YtgochgcchkdlmaaDoor.Wd

/-- the bit of a word with an index -/
def bit (x : Int) (i : Nat) : Int := x % 4294967296 / 2 ^ i % 2

/-- which sums of two bits count -/
def hit (k s : Int) : Bool := (k == 11 && s == 2) || (k == 12 && decide (1 ≤ s)) || (k == 13 && s == 1)

/-- the sum of the powers so far -/
def acc (k x y : Int) : Nat → Int
  | 0 => 0
  | i + 1 => acc k x y i + if hit k (bit x i + bit y i) then 2 ^ i else 0

theorem bit_01 (x : Int) (i : Nat) : 0 ≤ bit x i ∧ bit x i ≤ 1 := by
  have h := Int.emod_two_eq (x % 4294967296 / 2 ^ i)
  unfold bit
  omega

theorem acc_le (k x y : Int) (i : Nat) : 0 ≤ acc k x y i ∧ acc k x y i < 2 ^ i := by
  induction i with
  | zero => simp [acc]
  | succ i ih =>
    have hp : (2 : Int) ^ (i + 1) = 2 ^ i * 2 := Int.pow_succ 2 i
    have h0 : (0 : Int) < 2 ^ i := Int.pow_pos (by omega)
    unfold acc
    split <;> omega

theorem toNat_B (x : Int) : ((B x).toNat : Int) = x % 4294967296 := by
  rw [B, BitVec.toNat_ofInt]
  have : 0 ≤ x % 4294967296 := Int.emod_nonneg _ (by omega)
  simp only [show ((2 ^ 32 : Nat) : Int) = 4294967296 from rfl]
  omega
theorem bit_test (x : Int) (i : Nat) : bit x i = ((B x).toNat.testBit i).toNat := by
  unfold bit
  rw [← toNat_B]
  rw [Nat.toNat_testBit]
  norm_cast
theorem hit_test (k : Int) (p q : Bool) : hit k ((p.toNat : Int) + (q.toNat : Int)) = ((k == 11 && (p && q)) || (k == 12 && (p || q)) || (k == 13 && (p != q))) := by
  unfold hit
  cases p <;> cases q <;> simp

theorem acc_mod (k x y : Int) (r : BitVec 32) (hr : ∀ i, i < 32 → r.toNat.testBit i = hit k (bit x i + bit y i)) (i : Nat) (hi : i ≤ 32) :
    acc k x y i = ((r.toNat % 2 ^ i : Nat) : Int) := by
  induction i with
  | zero => simp [acc, Nat.mod_one]
  | succ i ih =>
    have h := ih (by omega)
    unfold acc
    rw [h, ← hr i (by omega), Nat.mod_pow_succ, ← Nat.toNat_testBit]
    cases r.toNat.testBit i <;> simp
theorem acc_all (k x y : Int) (r : BitVec 32) (hr : ∀ i, i < 32 → r.toNat.testBit i = hit k (bit x i + bit y i)) : wrap32 (acc k x y 32) = r.toInt := by
  rw [acc_mod k x y r hr 32 (Nat.le_refl _), Nat.mod_eq_of_lt r.isLt, wrap_toNat]
theorem acc_and (x y : Int) : wrap32 (acc 11 x y 32) = apply 11 x y := by
  rw [and_bv]; apply acc_all
  intro i _
  rw [bit_test, bit_test, hit_test, BitVec.toNat_and, Nat.testBit_and]; simp
theorem acc_or (x y : Int) : wrap32 (acc 12 x y 32) = apply 12 x y := by
  rw [or_bv]; apply acc_all
  intro i _
  rw [bit_test, bit_test, hit_test, BitVec.toNat_or, Nat.testBit_or]; simp
theorem acc_xor (x y : Int) : wrap32 (acc 13 x y 32) = apply 13 x y := by
  rw [xor_bv]; apply acc_all
  intro i _
  rw [bit_test, bit_test, hit_test, BitVec.toNat_xor, Nat.testBit_xor]
  simp

theorem pow2_le (j : Nat) (h : j ≤ 32) : (2 : Int) ^ j ≤ 4294967296 := by
  have h1 : 2 ^ j ≤ 2 ^ 32 := Nat.pow_le_pow_right (by omega) h
  have h2 : ((2 ^ j : Nat) : Int) ≤ ((2 ^ 32 : Nat) : Int) := Int.ofNat_le.2 h1
  simpa using h2
theorem bit0 (x : Int) : bit x 0 = x % 2 := by unfold bit; simp
theorem half (x : Int) : (x - bit x 0).tdiv 2 = x / 2 := by
  rw [bit0]
  obtain ⟨h, e⟩ : ∃ h, x = 2 * h + x % 2 := ⟨x / 2, by omega⟩
  have e1 : x - x % 2 = 2 * h := by omega
  rw [e1, Int.mul_tdiv_cancel_left _ (by omega)]
  omega
theorem shr_succ (x : Int) (i : Nat) : x / 2 ^ i / 2 = x / 2 ^ (i + 1) := by
  rw [Int.pow_succ, Int.ediv_ediv_of_nonneg (Int.le_of_lt (Int.pow_pos (by omega)))]
theorem shl_succ (x : Int) (i : Nat) : wrap32 (2 * wrap32 (x * 2 ^ i)) = wrap32 (x * 2 ^ (i + 1)) := by
  rw [wrap_mul_r, Int.pow_succ]; congr 1; rw [Int.mul_comm 2, Int.mul_assoc]
theorem ref_mod (x y : Int) (hx : W x) : wrap32 (x - wrap32 (x.tdiv y) * y) = x.tmod y := by
  obtain ⟨k, h⟩ := wrap_ex (x.tdiv y)
  rw [wrap_congr (b := x - x.tdiv y * y) (-(k * y)) (by rw [h, Int.add_mul, Int.mul_assoc]; omega)]
  have e : x - x.tdiv y * y = x.tmod y := by rw [Int.tmod_def, Int.mul_comm]
  rw [e]; exact wrap_in (W_tmod hx)
theorem tmod_neg (n : Int) (h : n < 0) : n.tmod 4294967296 = -((-n) % 4294967296) := by
  have : n.tmod 4294967296 = -((-n).tmod 4294967296) := by rw [Int.neg_tmod]; simp
  rw [this, Int.tmod_eq_emod_of_nonneg (by omega)]
theorem tmod32_neg (n : Int) (h : n < 0) : n.tmod 32 = -((-n) % 32) := by
  have : n.tmod 32 = -((-n).tmod 32) := by rw [Int.neg_tmod]; simp
  rw [this, Int.tmod_eq_emod_of_nonneg (by omega)]
end Go.Proofs.YtgochgcchkdlmaaDoor.Rf
