/-
  Contracts: the kind of a token, and names, by the reference of layer 11.
-/
import Derived.Test.YtnegdmhmhdojbaaDoorRef11
namespace Go.Proofs.YtnegdmhmhdojbaaDoor
set_option linter.unusedVariables false
set_option linter.unusedSimpArgs false
open Go.RowKit
set_option maxRecDepth 100000

theorem inTo_iff (f : Nat → ByteArray) (s : ByteArray) (n : Nat) : inTo f s n = true ↔ ∃ i, i < n ∧ (f i).toList = s.toList := by
  induction n with
  | zero => simp [inTo]
  | succ n ih =>
    rw [inTo_succ, Bool.or_eq_true, ih]
    constructor
    · rintro (⟨i, hi, h⟩ | h)
      · exact ⟨i, by omega, h⟩
      · exact ⟨n, by omega, by simpa using h⟩
    · rintro ⟨i, hi, h⟩
      by_cases e : i = n
      · subst e; exact .inr (by simpa using h)
      · exact .inl ⟨i, by omega, h⟩
theorem keyword_inTo (s : ByteArray) : inTo kwAt s 13 = Lx.keyword s.toList := by
  rw [Bool.eq_iff_iff, inTo_iff]
  unfold Lx.keyword
  rw [List.contains_iff_mem]
  constructor
  · rintro ⟨i, hi, h⟩
    rw [← h]
    have : ∀ i, i < 13 → Lx.kws.getD i [] ∈ Lx.kws := by decide
    have e : (kwAt i).toList = Lx.kws.getD i [] := by simp [kwAt, ByteArray.toList_eq]
    rw [e]; exact this i hi
  · intro h
    obtain ⟨i, hi⟩ := List.getElem?_of_mem h
    have hl : i < 13 := (List.getElem?_eq_some_iff.1 hi).1
    refine ⟨i, hl, ?_⟩
    have e : (kwAt i).toList = Lx.kws.getD i [] := by simp [kwAt, ByteArray.toList_eq]
    rw [e, List.getD_eq_getElem?_getD, hi]; rfl

end Go.Proofs.YtnegdmhmhdojbaaDoor
