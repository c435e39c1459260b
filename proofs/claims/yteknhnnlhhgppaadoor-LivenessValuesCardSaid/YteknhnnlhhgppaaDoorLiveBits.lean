/-
  Plain: a set of registers as the bits of a number.
-/
import Derived.Test.YteknhnnlhhgppaaDoorIrRun
import Derived.Laws.Entries
namespace Go.Proofs.YteknhnnlhhgppaaDoor
set_option linter.unusedVariables false
set_option linter.unusedSimpArgs false
open Go.RowKit
set_option maxRecDepth 100000

theorem wrap_u64 (n : Nat) (h : n < 2 ^ 64) : IntKind.u64.wrap (n : Int) = (n : Int) := by
  unfold IntKind.wrap
  simp only [IntKind.bits, IntKind.signed]
  simp
  omega
theorem ofInt_u64 (n : Nat) : BitVec.ofInt 64 (n : Int) = BitVec.ofNat 64 n := by
  apply BitVec.eq_of_toNat_eq
  simp [BitVec.toNat_ofInt, BitVec.toNat_ofNat]
theorem bits_or (s t : Nat) (hs : s < 2 ^ 64) (ht : t < 2 ^ 64) : bits .or .u64 (s : Int) (t : Int) = ((s ||| t : Nat) : Int) := by
  show IntKind.u64.wrap ((BitVec.ofInt 64 (s : Int) ||| BitVec.ofInt 64 (t : Int)).toNat : Int) = _
  rw [ofInt_u64, ofInt_u64, wrap_u64 _ (BitVec.isLt _), BitVec.toNat_or, BitVec.toNat_ofNat, BitVec.toNat_ofNat, Nat.mod_eq_of_lt hs, Nat.mod_eq_of_lt ht]
theorem bits_and (s t : Nat) (hs : s < 2 ^ 64) (ht : t < 2 ^ 64) : bits .and .u64 (s : Int) (t : Int) = ((s &&& t : Nat) : Int) := by
  show IntKind.u64.wrap ((BitVec.ofInt 64 (s : Int) &&& BitVec.ofInt 64 (t : Int)).toNat : Int) = _
  rw [ofInt_u64, ofInt_u64, wrap_u64 _ (BitVec.isLt _), BitVec.toNat_and, BitVec.toNat_ofNat, BitVec.toNat_ofNat, Nat.mod_eq_of_lt hs, Nat.mod_eq_of_lt ht]
/-- s without r -/
def remB (s r : Nat) : Nat := s &&& (2 ^ 64 - (2 ^ r + 1))
def addB (s r : Nat) : Nat := s ||| 2 ^ r
theorem bits_not (s t : Nat) (hs : s < 2 ^ 64) (ht : t < 2 ^ 64) : bits .andNot .u64 (s : Int) (t : Int) = ((s &&& (2 ^ 64 - (t + 1)) : Nat) : Int) := by
  show IntKind.u64.wrap ((BitVec.ofInt 64 (s : Int) &&& ~~~ BitVec.ofInt 64 (t : Int)).toNat : Int) = _
  rw [ofInt_u64, ofInt_u64, wrap_u64 _ (BitVec.isLt _), BitVec.toNat_and, BitVec.toNat_not, BitVec.toNat_ofNat, BitVec.toNat_ofNat, Nat.mod_eq_of_lt hs, Nat.mod_eq_of_lt ht]
  congr 2
  omega
theorem pow_lt64 {r : Nat} (h : r < 12) : 2 ^ r < 2 ^ 64 := Nat.pow_lt_pow_right (by omega) (by omega)
theorem wrap_pow {r : Nat} (h : r < 12) : IntKind.u64.wrap ((2 : Int) ^ r) = ((2 ^ r : Nat) : Int) := by
  have := wrap_u64 (2 ^ r) (pow_lt64 h)
  rw [← this]
  congr 1
theorem addB_bit (s r j : Nat) : (addB s r).testBit j = (s.testBit j || decide (j = r)) := by
  unfold addB
  rw [Nat.testBit_or, Nat.testBit_two_pow]
  congr 1
  simp [eq_comm]
theorem remB_bit (s : Nat) {r : Nat} (hs : s < 2 ^ 12) (hr : r < 12) (j : Nat) : (remB s r).testBit j = (s.testBit j && !decide (j = r)) := by
  unfold remB
  rw [Nat.testBit_and, Nat.testBit_two_pow_sub_succ (pow_lt64 hr), Nat.testBit_two_pow]
  by_cases hj : j < 64
  · simp [hj, eq_comm]
  · have : s.testBit j = false := Nat.testBit_lt_two_pow (Nat.lt_of_lt_of_le hs (Nat.pow_le_pow_right (by omega) (by omega)))
    simp [this]
theorem lt_bits {s R : Nat} (h : ∀ j, s.testBit j = true → j < R) : s < 2 ^ R := by
  apply Nat.lt_pow_two_of_testBit
  intro i hi
  cases hb : s.testBit i with
  | false => rfl
  | true => have := h i hb; omega
theorem bit_lt {s R j : Nat} (h : s < 2 ^ R) (hj : s.testBit j = true) : j < R := by
  apply Classical.byContradiction
  intro hn
  have : s.testBit j = false := Nat.testBit_lt_two_pow (Nat.lt_of_lt_of_le h (Nat.pow_le_pow_right (by omega) (by omega)))
  rw [this] at hj; cases hj
theorem addB_lt {s r R : Nat} (hs : s < 2 ^ R) (hr : r < R) : addB s r < 2 ^ R := by
  apply lt_bits
  intro j hj
  rw [addB_bit, Bool.or_eq_true] at hj
  rcases hj with hj | hj
  · exact bit_lt hs hj
  · have : j = r := by simpa using hj
    omega
theorem remB_lt {s r R : Nat} (hs : s < 2 ^ R) : remB s r < 2 ^ R := Nat.lt_of_le_of_lt Nat.and_le_left hs
theorem or_lt {s t R : Nat} (hs : s < 2 ^ R) (ht : t < 2 ^ R) : s ||| t < 2 ^ R := Nat.or_lt_two_pow hs ht
/-- the registers of a set, ascending -/
def listB (s : Nat) : List Int := ((List.range 12).filter (fun j => s.testBit j)).map Int.ofNat
/-- the lowest register of a set -/
def tzB (s : Nat) : Nat := ((List.range 12).find? (fun j => s.testBit j)).getD 0
theorem list_all : ((List.range 4096).all fun s => s == 0 || (listB s == (tzB s : Int) :: listB (s &&& (s - 1)))) = true := by kernel_rfl
theorem list_step {s : Nat} (h : s < 4096) (h0 : s ≠ 0) : listB s = (tzB s : Int) :: listB (s &&& (s - 1)) := by
  have := List.all_eq_true.1 list_all s (List.mem_range.2 h)
  rw [Bool.or_eq_true] at this
  rcases this with h | h
  · exact absurd (by simpa using h) h0
  · exact eq_of_beq h
theorem list_len (s : Nat) : (listB s).length ≤ 12 := by
  unfold listB
  rw [List.length_map]
  exact Nat.le_trans (List.length_filter_le _ _) (by simp)
theorem mem_list {s : Nat} {j : Nat} (hs : s < 4096) : ((j : Int) ∈ listB s) ↔ s.testBit j = true := by
  unfold listB
  rw [List.mem_map]
  constructor
  · rintro ⟨k, hk, e⟩
    have : k = j := by exact Int.ofNat.inj e
    subst this
    exact (List.mem_filter.1 hk).2
  · intro h
    exact ⟨j, List.mem_filter.2 ⟨List.mem_range.2 (bit_lt (R := 12) hs h), h⟩, rfl⟩
theorem list_in {o R : Nat} (h : o < 2 ^ R) {r : Int} (hr : r ∈ listB o) : 0 ≤ r ∧ r < (R : Int) := by
  unfold listB at hr
  obtain ⟨k, hk, rfl⟩ := List.mem_map.1 hr
  have hb := bit_lt h (List.mem_filter.1 hk).2
  exact ⟨Int.natCast_nonneg k, by show (k : Int) < R; omega⟩
end Go.Proofs.YteknhnnlhhgppaaDoor
