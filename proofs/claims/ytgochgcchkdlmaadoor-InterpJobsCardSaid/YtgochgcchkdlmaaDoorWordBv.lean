/-
  Plain lemmas: words as bit vectors.
-/
import Derived.Test.YtgochgcchkdlmaaDoorWordDivPlain
namespace Go.Proofs.YtgochgcchkdlmaaDoor.Wd
set_option linter.unusedVariables false
set_option linter.unusedSimpArgs false
open Go.RowKit

abbrev B (x : Int) : BitVec 32 := BitVec.ofInt 32 x

theorem wrap_toNat (r : BitVec 32) : wrap32 r.toNat = r.toInt := by
  have h := r.isLt
  have e := BitVec.toInt_eq_toNat_cond r
  unfold wrap32
  rw [e]
  split <;> omega
theorem and_bv (x y : Int) : apply 11 x y = (B x &&& B y).toInt := by
  rw [a11, ← wrap_toNat, ← IntWalk.i32_left]; rfl
theorem or_bv (x y : Int) : apply 12 x y = (B x ||| B y).toInt := by
  rw [a12, ← wrap_toNat, ← IntWalk.i32_left]; rfl
theorem xor_bv (x y : Int) : apply 13 x y = (B x ^^^ B y).toInt := by
  rw [a13, ← wrap_toNat, ← IntWalk.i32_left]; rfl
end Go.Proofs.YtgochgcchkdlmaaDoor.Wd
