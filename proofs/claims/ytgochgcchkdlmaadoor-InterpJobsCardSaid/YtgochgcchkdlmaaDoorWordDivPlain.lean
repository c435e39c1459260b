/-
  Plain lemmas on words: wrap32 and division.
-/
import Derived.Test.YtgochgcchkdlmaaDoorPlainBase
namespace Go.Proofs.YtgochgcchkdlmaaDoor.Wd
set_option linter.unusedVariables false
set_option linter.unusedSimpArgs false
open Go.RowKit

theorem wrap_in {x : Int} (h : W x) : wrap32 x = x := by unfold wrap32; unfold W at h; omega
/-- two numbers have one wrap if they differ by a multiple of 2^32 -/
theorem wrap_congr {a b : Int} (k : Int) (h : a = b + 4294967296 * k) : wrap32 a = wrap32 b := by unfold wrap32; omega
theorem wrap_ex (a : Int) : ∃ k : Int, wrap32 a = a + 4294967296 * k := ⟨-((a + 2147483648) / 4294967296), by unfold wrap32; omega⟩
theorem wrap_mul_l (a b : Int) : wrap32 (wrap32 a * b) = wrap32 (a * b) := by
  obtain ⟨k, h⟩ := wrap_ex a
  exact wrap_congr (k * b) (by rw [h, Int.add_mul, Int.mul_assoc])
theorem wrap_mul_r (a b : Int) : wrap32 (a * wrap32 b) = wrap32 (a * b) := by
  rw [Int.mul_comm, wrap_mul_l, Int.mul_comm]
/-- the magnitude, as a 64-bit number -/
def size (n : Int) : Int := max n (-n)

section
variable {x y : Int}

end
end Go.Proofs.YtgochgcchkdlmaaDoor.Wd
