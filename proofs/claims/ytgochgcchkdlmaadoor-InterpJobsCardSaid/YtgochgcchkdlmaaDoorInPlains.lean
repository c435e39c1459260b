/-
  InPlains: several texts in one (InFuelP, InInputP, InSplitP).
-/
import Derived.Test.YtgochgcchkdlmaaDoorInBases
/-
  Fuel (package interp), plainly: a run with less fuel is the beginning of one with more. No program is named here.
-/
namespace Go.Proofs.YtgochgcchkdlmaaDoor
set_option linter.unusedVariables false
set_option linter.unusedSimpArgs false
open Go.RowKit

/-- what a run does to the counters: it adds steps, outputs, inputs; 13 only at the end of the fuel -/
def Grows (F : Int) (s : St) (r : SR) : Prop := s.st ≤ r.1.st ∧ (∃ l, r.1.out = s.out ++ l) ∧ s.rd ≤ r.1.rd ∧ (r.2 = 13 → F ≤ (r.1.st : Int)) ∧ ((s.st : Int) ≤ F → (r.1.st : Int) ≤ F)
theorem Grows.refl {F : Int} {s : St} {V : VF} {A : AF} {k : Int} (hk : k ≠ 13) : Grows F s (⟨V, A, s.out, s.rd, s.st⟩, k) := ⟨Nat.le_refl _, ⟨[], by simp⟩, Nat.le_refl _, fun h => absurd h hk, id⟩
theorem Grows.then {F : Int} {s : St} {r : SR} {f : St → SR} (h : Grows F s r) (hf : Grows F r.1 (f r.1)) : Grows F s (r.then f) := by
  by_cases h0 : r.2 = 0
  · rw [SR.then_ok h0]
    obtain ⟨h1, ⟨l, h2⟩, h3, h4, h5⟩ := h
    obtain ⟨g1, ⟨m, g2⟩, g3, g4, g5⟩ := hf
    exact ⟨Nat.le_trans h1 g1, ⟨l ++ m, by rw [g2, h2, List.append_assoc]⟩, Nat.le_trans h3 g3, g4, fun h => g5 (h5 h)⟩
  · rw [SR.then_er h0]; exact h
/-- two runs from the same state: alike, or the shorter one has ended with 13 -/
def Rel (F : Int) (r r' : SR) : Prop := (r.2 ≠ 13 ∧ r = r') ∨ (r.2 = 13 ∧ (r.1.st : Int) = F ∧ (∃ l, r'.1.out = r.1.out ++ l) ∧ r.1.rd ≤ r'.1.rd ∧ F < (r'.1.st : Int))
theorem Rel.refl {F : Int} {r : SR} (h : r.2 ≠ 13) : Rel F r r := .inl ⟨h, rfl⟩
theorem Rel.then {F F' : Int} {r r' : SR} {f f' : St → SR} (h : Rel F r r') (hf : r.2 = 0 → Rel F (f r.1) (f' r.1)) (hg : Grows F' r'.1 (f' r'.1)) : Rel F (r.then f) (r'.then f') := by
  rcases h with ⟨h1, rfl⟩ | ⟨h1, h2, ⟨l, h3⟩, h4, h5⟩
  · by_cases h0 : r.2 = 0
    · rw [SR.then_ok h0, SR.then_ok h0]; exact hf h0
    · rw [SR.then_er h0, SR.then_er h0]; exact .inl ⟨h1, rfl⟩
  · rw [SR.then_er (by rw [h1]; decide)]
    by_cases h0 : r'.2 = 0
    · rw [SR.then_ok h0]
      obtain ⟨g1, ⟨m, g2⟩, g3, _⟩ := hg
      exact .inr ⟨h1, h2, ⟨l ++ m, by rw [g2, h3, List.append_assoc]⟩, Nat.le_trans h4 g3, by omega⟩
    · rw [SR.then_er h0]; exact .inr ⟨h1, h2, ⟨l, h3⟩, h4, h5⟩
end Go.Proofs.YtgochgcchkdlmaaDoor

/-
  Input (package interp), plainly: a run depends on no value beyond those that it counts. No program is named here.
-/
namespace Go.Proofs.YtgochgcchkdlmaaDoor
set_option linter.unusedVariables false
set_option linter.unusedSimpArgs false
open Go.RowKit

/-- two lists that are alike from a place up to another -/
def Alike (inp inp' : List Int) (a b : Nat) : Prop := ∀ k, a ≤ k → k < b → inp'.getD k 0 = inp.getD k 0
/-- what a run reads counts; alike there, the runs are alike -/
def RdS (inp inp' : List Int) (s : St) (r r' : SR) : Prop := s.rd ≤ r.1.rd ∧ (Alike inp inp' s.rd r.1.rd → r' = r)
section
variable {inp inp' : List Int}
theorem RdS.same {s : St} {r : SR} (h : s.rd ≤ r.1.rd) : RdS inp inp' s r r := ⟨h, fun _ => rfl⟩
theorem RdS.then {s : St} {r r' : SR} {f f' : St → SR} (h : RdS inp inp' s r r') (hf : RdS inp inp' r.1 (f r.1) (f' r.1)) : RdS inp inp' s (r.then f) (r'.then f') := by
  obtain ⟨h1, h2⟩ := h
  by_cases h0 : r.2 = 0
  · rw [SR.then_ok h0]
    refine ⟨Nat.le_trans h1 hf.1, fun ha => ?_⟩
    rw [h2 (fun k hk1 hk2 => ha k hk1 (Nat.lt_of_lt_of_le hk2 hf.1)), SR.then_ok h0]
    exact hf.2 (fun k hk1 hk2 => ha k (Nat.le_trans h1 hk1) hk2)
  · rw [SR.then_er h0]
    refine ⟨h1, fun ha => ?_⟩
    rw [h2 ha, SR.then_er h0]
end
end Go.Proofs.YtgochgcchkdlmaaDoor

/-
  Steps (package interp), plainly: a run that begins one step later, with one more fuel, is the same run, one step later. No program is named here.
-/
namespace Go.Proofs.YtgochgcchkdlmaaDoor
set_option linter.unusedVariables false
set_option linter.unusedSimpArgs false
open Go.RowKit

/-- one step later -/
def up (s : St) : St := { s with st := s.st + 1 }
/-! ### a constant condition at the beginning of a body -/
/-- the first part of a block, or the rest -/
def blk (t : Tree) (a n : Nat) : Tree := .make 47 0 ⟨#[]⟩ n (fun i => t.kid (a + i))
end Go.Proofs.YtgochgcchkdlmaaDoor
