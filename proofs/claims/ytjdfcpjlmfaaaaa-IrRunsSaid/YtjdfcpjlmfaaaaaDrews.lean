/-
  Worlds that differ by draws alone. No program is named here.
-/
import Derived.WalkKit
import Derived.Below
import Derived.Deep.QuietTactic
namespace Go.Proofs.Ytjdfcpjlmfaaaaa
set_option linter.unusedVariables false
set_option linter.unusedSimpArgs false
open Go.RowKit

theorem below_drew {w w' : World} (h : ∃ m, w' = World.drewN w m) : Below w.heap.size w w' := by
  obtain ⟨m, rfl⟩ := h
  exact ⟨rfl, rfl, rfl, Nat.le_refl _, fun _ _ => rfl⟩
theorem drew_more {w w' V : World} {n : Nat} (h : ∃ m, w' = World.drewN w m) (hV : World.drewN w' n = V) : ∃ m, V = World.drewN w m := by
  obtain ⟨m, rfl⟩ := h
  exact ⟨m + n, by rw [← hV]; simp [World.drewN, Nat.add_assoc]⟩
end Go.Proofs.Ytjdfcpjlmfaaaaa
