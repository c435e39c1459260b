/-
  Plain lemmas on words: wrap32 and division.
-/
import Derived.Test.YtgochgcchkdlmaaDoorPlainBase
namespace Go.Proofs.YtgochgcchkdlmaaDoor.Wd
set_option linter.unusedVariables false
set_option linter.unusedSimpArgs false
open Go.RowKit

theorem wrap_in {x : Int} (h : W x) : wrap32 x = x := by unfold wrap32; unfold W at h; omega
/-- two numbers have one wrap if they differ by a multiple of 2^32 -/
theorem wrap_congr {a b : Int} (k : Int) (h : a = b + 4294967296 * k) : wrap32 a = wrap32 b := by unfold wrap32; omega
theorem wrap_ex (a : Int) : ∃ k : Int, wrap32 a = a + 4294967296 * k := ⟨-((a + 2147483648) / 4294967296), by unfold wrap32; omega⟩
theorem wrap_add_l (a b : Int) : wrap32 (wrap32 a + b) = wrap32 (a + b) := by
  obtain ⟨k, h⟩ := wrap_ex a; exact wrap_congr k (by rw [h]; omega)
theorem wrap_add_r (a b : Int) : wrap32 (a + wrap32 b) = wrap32 (a + b) := by
  obtain ⟨k, h⟩ := wrap_ex b; exact wrap_congr k (by rw [h]; omega)
theorem wrap_sub_l (a b : Int) : wrap32 (wrap32 a - b) = wrap32 (a - b) := by
  obtain ⟨k, h⟩ := wrap_ex a; exact wrap_congr k (by rw [h]; omega)
theorem wrap_sub_r (a b : Int) : wrap32 (a - wrap32 b) = wrap32 (a - b) := by
  obtain ⟨k, h⟩ := wrap_ex b; exact wrap_congr (-k) (by rw [h]; omega)
theorem wrap_neg (a : Int) : wrap32 (-(wrap32 a)) = wrap32 (-a) := by
  obtain ⟨k, h⟩ := wrap_ex a; exact wrap_congr (-k) (by rw [h]; omega)
theorem wrap_mul_l (a b : Int) : wrap32 (wrap32 a * b) = wrap32 (a * b) := by
  obtain ⟨k, h⟩ := wrap_ex a
  exact wrap_congr (k * b) (by rw [h, Int.add_mul, Int.mul_assoc])
theorem wrap_mul_r (a b : Int) : wrap32 (a * wrap32 b) = wrap32 (a * b) := by
  rw [Int.mul_comm, wrap_mul_l, Int.mul_comm]
theorem wrap_wrap (a : Int) : wrap32 (wrap32 a) = wrap32 a := wrap_in (W_wrap a)

/-- the magnitude, as a 64-bit number -/
def size (n : Int) : Int := max n (-n)

section
variable {x y : Int}

theorem div_back (hx : W x) (h0 : ¬ y = 0) : apply 6 (apply 8 (apply 9 x y) y) (apply 10 x y) = x := by
  rw [a6, a8, a9, a10, if_neg h0, if_neg h0, wrap_mul_l, wrap_add_l, Int.mul_comm, Int.mul_tdiv_add_tmod]
  exact wrap_in hx
theorem mod_small (h0 : ¬ y = 0) : size (apply 10 x y) < size y := by
  rw [a10, if_neg h0]
  have h := Int.natAbs_tmod x y
  have h2 : x.natAbs % y.natAbs < y.natAbs := Nat.mod_lt _ (by omega)
  unfold size
  omega
theorem mod_sign (h0 : ¬ y = 0) (hr : ¬ apply 10 x y = 0) : apply 10 x y < 0 ↔ x < 0 := by
  rw [a10, if_neg h0] at *
  by_cases h : 0 ≤ x
  · have := Int.tmod_nonneg y h; omega
  · have e : x.tmod y = -((-x).tmod y) := by rw [Int.neg_tmod]; simp
    have := Int.tmod_nonneg y (show 0 ≤ -x by omega)
    omega
theorem quo_sign (hx : W x) (hy : W y) (h0 : ¬ y = 0) (hq : ¬ apply 9 x y = 0) (hm : ¬ (x = -2147483648 ∧ y = -1)) :
    apply 9 x y < 0 ↔ ¬ (x < 0 ↔ y < 0) := by
  rw [a9, if_neg h0] at *
  have hd : W (x.tdiv y) := by
    have h1 : (x.tdiv y).natAbs = x.natAbs / y.natAbs := Int.natAbs_tdiv x y
    have h2 : x.natAbs / y.natAbs ≤ x.natAbs := Nat.div_le_self _ _
    unfold W at *
    by_cases hneg : y = -1
    · subst hneg
      have h3 : x.tdiv (-1) = -x := by rw [Int.tdiv_neg, Int.tdiv_one]
      omega
    · by_cases h1' : y = 1
      · subst h1'; rw [Int.tdiv_one]; omega
      · have : x.natAbs / y.natAbs ≤ x.natAbs / 2 := Nat.div_le_div_left (by omega) (by omega)
        omega
  rw [wrap_in hd] at *
  have key : ∀ a b : Int, 0 ≤ a → 0 ≤ b → 0 ≤ a.tdiv b := fun a b ha hb => Int.tdiv_nonneg ha hb
  by_cases hx0 : 0 ≤ x
  · by_cases hy0 : 0 ≤ y
    · have := key x y hx0 hy0; omega
    · have e : x.tdiv y = -(x.tdiv (-y)) := by rw [Int.tdiv_neg]; simp
      have := key x (-y) hx0 (by omega)
      omega
  · by_cases hy0 : 0 ≤ y
    · have e : x.tdiv y = -((-x).tdiv y) := by rw [Int.neg_tdiv]; simp
      have := key (-x) y (by omega) hy0
      omega
    · have e : x.tdiv y = (-x).tdiv (-y) := by rw [Int.neg_tdiv, Int.tdiv_neg]; simp
      have := key (-x) (-y) (by omega) (by omega)
      omega
end
end Go.Proofs.YtgochgcchkdlmaaDoor.Wd
