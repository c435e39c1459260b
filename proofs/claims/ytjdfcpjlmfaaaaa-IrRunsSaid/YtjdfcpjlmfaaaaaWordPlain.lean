/-
  Plain definitions and lemmas on 32-bit words: what word.Apply and word.Unary compute. No program is named here.
-/
import Derived.WalkKit
namespace Go.Proofs.Ytjdfcpjlmfaaaaa.Wd
set_option linter.unusedVariables false
set_option linter.unusedSimpArgs false
open Go.RowKit

def tr (b : Bool) : Int := if b then 1 else 0

/-- the value of a binary operator -/
def apply (k x y : Int) : Int :=
  if k = 6 then wrap32 (x + y)
  else if k = 7 then wrap32 (x - y)
  else if k = 8 then wrap32 (x * y)
  else if k = 9 then (if y = 0 then 0 else wrap32 (x.tdiv y))
  else if k = 10 then (if y = 0 then 0 else x.tmod y)
  else if k = 11 then bits .and .i32 x y
  else if k = 12 then bits .or .i32 x y
  else if k = 13 then bits .xor .i32 x y
  else if k = 14 then wrap32 (x * 2 ^ (y % 32).toNat)
  else if k = 15 then x / 2 ^ (y % 32).toNat
  else if k = 16 then tr (x == y)
  else if k = 17 then tr (x != y)
  else if k = 18 then tr (decide (x < y))
  else if k = 19 then tr (decide (x ≤ y))
  else if k = 20 then tr (decide (y < x))
  else if k = 21 then tr (decide (y ≤ x))
  else if k = 22 then tr (x != 0 && y != 0)
  else if k = 23 then tr (x != 0 || y != 0)
  else 0

/-- its error number -/
def err (k y : Int) : Int :=
  if k < 6 ∨ 23 < k then 1 else if (k = 9 ∨ k = 10) ∧ y = 0 then 9 else 0

def unary (k x : Int) : Int := if k = 4 then wrap32 (-x) else if k = 5 then tr (x == 0) else 0
def uerr (k : Int) : Int := if k = 4 ∨ k = 5 then 0 else 1

/-- a word -/
def W (x : Int) : Prop := -2147483648 ≤ x ∧ x ≤ 2147483647

theorem W_wrap (n : Int) : W (wrap32 n) := by unfold W wrap32; omega
theorem W_tr (b : Bool) : W (tr b) := by unfold W tr; split <;> omega
theorem W_wf {x : Int} (h : (Lit.int .i32 x).wf = true) : W x := by
  simpa [W, Lit.wf, IntKind.min, IntKind.max, IntKind.signed, IntKind.bits] using h

theorem bits_wrap (op : BinOp) (x y : Int) : W (bits op .i32 x y) := by
  have h : ∃ n : Int, bits op .i32 x y = IntKind.i32.wrap n := by
    unfold bits
    split <;> exact ⟨_, rfl⟩
  obtain ⟨n, h⟩ := h
  rw [h, IntWalk.i32_left]
  exact W_wrap n
theorem W_shr {x : Int} (h : W x) (n : Nat) : W (x / 2 ^ n) := by
  have hp : (0 : Int) < 2 ^ n := Int.pow_pos (by omega)
  unfold W at *
  constructor
  · rw [Int.le_ediv_iff_mul_le hp]
    have h1 : (1 : Int) ≤ 2 ^ n := hp
    have : (-2147483648 : Int) * 2 ^ n ≤ -2147483648 * 1 := Int.mul_le_mul_of_nonpos_left (by omega) h1
    omega
  · by_cases h0 : 0 ≤ x
    · have := Int.ediv_le_self (2 ^ n) h0; omega
    · have : x / 2 ^ n < 0 := Int.ediv_neg_of_neg_of_pos (by omega) hp
      omega
theorem W_tmod {x y : Int} (h : W x) : W (x.tmod y) := by
  unfold W at *
  have := Int.natAbs_tmod x y
  have h2 : x.natAbs % y.natAbs ≤ x.natAbs := Nat.mod_le _ _
  by_cases h0 : 0 ≤ x
  · have := Int.tmod_nonneg y h0; omega
  · have : x.tmod y = -((-x).tmod y) := by rw [Int.neg_tmod]; simp
    have := Int.tmod_nonneg y (show 0 ≤ -x by omega); omega

theorem W_ite {c : Prop} [Decidable c] {a b : Int} (ha : W a) (hb : W b) : W (if c then a else b) := by split <;> assumption
theorem W_apply {x y : Int} (k : Int) (hx : W x) (_hy : W y) : W (apply k x y) := by
  unfold apply
  have z : W 0 := by unfold W; omega
  repeat' (first | exact z | exact W_wrap _ | exact W_tr _ | exact bits_wrap _ _ _ | exact W_shr hx _ | exact W_tmod hx | refine W_ite ?_ ?_)
theorem W_unary (k x : Int) : W (unary k x) := by
  unfold unary
  have z : W 0 := by unfold W; omega
  repeat' (first | exact z | exact W_wrap _ | exact W_tr _ | split)

/-! ### each operator by itself -/
theorem a6 (x y : Int) : apply 6 x y = wrap32 (x + y) := rfl
theorem a7 (x y : Int) : apply 7 x y = wrap32 (x - y) := rfl
theorem a8 (x y : Int) : apply 8 x y = wrap32 (x * y) := rfl
theorem a9 (x y : Int) : apply 9 x y = if y = 0 then 0 else wrap32 (x.tdiv y) := rfl
theorem a10 (x y : Int) : apply 10 x y = if y = 0 then 0 else x.tmod y := rfl
theorem a11 (x y : Int) : apply 11 x y = bits .and .i32 x y := rfl
theorem a12 (x y : Int) : apply 12 x y = bits .or .i32 x y := rfl
theorem a13 (x y : Int) : apply 13 x y = bits .xor .i32 x y := rfl
theorem a14 (x y : Int) : apply 14 x y = wrap32 (x * 2 ^ (y % 32).toNat) := rfl
theorem a15 (x y : Int) : apply 15 x y = x / 2 ^ (y % 32).toNat := rfl
theorem a16 (x y : Int) : apply 16 x y = tr (x == y) := rfl
theorem a17 (x y : Int) : apply 17 x y = tr (x != y) := rfl
theorem a18 (x y : Int) : apply 18 x y = tr (decide (x < y)) := rfl
theorem a19 (x y : Int) : apply 19 x y = tr (decide (x ≤ y)) := rfl
theorem a20 (x y : Int) : apply 20 x y = tr (decide (y < x)) := rfl
theorem a21 (x y : Int) : apply 21 x y = tr (decide (y ≤ x)) := rfl
theorem a22 (x y : Int) : apply 22 x y = tr (x != 0 && y != 0) := rfl
theorem a23 (x y : Int) : apply 23 x y = tr (x != 0 || y != 0) := rfl
theorem aelse (k x y : Int) (h : k < 6 ∨ 23 < k) : apply k x y = 0 := by
  unfold apply
  repeat rw [if_neg (by omega)]
theorem eelse (k y : Int) (h : k < 6 ∨ 23 < k) : err k y = 1 := by unfold err; rw [if_pos h]
theorem e0 (k y : Int) (h : 6 ≤ k ∧ k ≤ 23) (h2 : ¬ ((k = 9 ∨ k = 10) ∧ y = 0)) : err k y = 0 := by
  unfold err; rw [if_neg (by omega), if_neg h2]
end Go.Proofs.Ytjdfcpjlmfaaaaa.Wd
