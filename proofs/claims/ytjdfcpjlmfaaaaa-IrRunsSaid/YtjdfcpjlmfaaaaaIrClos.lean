/-
  Contracts: the closures of validIns (package ir): between, register.
-/
import Derived.Test.YtjdfcpjlmfaaaaaIrEnd
namespace Go.Proofs.Ytjdfcpjlmfaaaaa
set_option linter.unusedVariables false
set_option linter.unusedSimpArgs false
open Go.RowKit
set_option maxRecDepth 100000

set_option maxHeartbeats 2000000 in
theorem between_any (n lo hi : Int) (w : World) :
    Calls Try.prog 48 #[.int .i64 n, .int .i64 lo, .int .i64 hi] w fun e w' => e = .returned (.bool (decide (lo ≤ n) && decide (n ≤ hi))) ∧ w = w' := by
  go_enter Try.func48, Try.ntmps48
  go_wp2
  all_goals
    go_ret
    exact ⟨ret_bool (by first | (simp [*]; done) | (simp [*]; intros; omega)), rfl⟩

set_option maxHeartbeats 2000000 in
theorem isReg_any (n regs : Int) (b o : Nat) (w : World) (hc : w.cell? ⟨b, o + 1, none⟩ = some (.int .i64 regs)) :
    Calls Try.prog 49 #[.int .i64 n, .pointer (some ⟨b, o, none⟩)] w fun e w' => e = .returned (.bool (decide (0 ≤ n) && decide (n < regs))) ∧ w = w' := by
  go_enter Try.func49, Try.ntmps49
  go_wp2
  all_goals
    go_ret
    exact ⟨ret_bool (by first | (simp [*]; done) | (simp [*]; intros; omega)), rfl⟩
end Go.Proofs.Ytjdfcpjlmfaaaaa
