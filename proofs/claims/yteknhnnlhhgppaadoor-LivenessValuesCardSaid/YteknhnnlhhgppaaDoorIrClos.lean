/-
  Contracts: the closures of validIns (package ir): between, register.
-/
import Derived.Test.YteknhnnlhhgppaaDoorIrEnd
namespace Go.Proofs.YteknhnnlhhgppaaDoor
set_option linter.unusedVariables false
set_option linter.unusedSimpArgs false
open Go.RowKit
set_option maxRecDepth 100000

set_option maxHeartbeats 2000000 in
theorem between_any (n lo hi : Int) (w : World) :
    Calls Tryd.prog 114 #[.int .i64 n, .int .i64 lo, .int .i64 hi] w fun e w' => e = .returned (.bool (decide (lo ≤ n) && decide (n ≤ hi))) ∧ w = w' := by
  go_enter Tryd.func114, Tryd.ntmps114
  go_wp2
  all_goals
    go_ret
    exact ⟨ret_bool (by first | (simp [*]; done) | (simp [*]; intros; omega)), rfl⟩

set_option maxHeartbeats 2000000 in
theorem isReg_any (n regs : Int) (b o : Nat) (w : World) (hc : w.cell? ⟨b, o + 1, none⟩ = some (.int .i64 regs)) :
    Calls Tryd.prog 115 #[.int .i64 n, .pointer (some ⟨b, o, none⟩)] w fun e w' => e = .returned (.bool (decide (0 ≤ n) && decide (n < regs))) ∧ w = w' := by
  go_enter Tryd.func115, Tryd.ntmps115
  go_wp2
  all_goals
    go_ret
    exact ⟨ret_bool (by first | (simp [*]; done) | (simp [*]; intros; omega)), rfl⟩
end Go.Proofs.YteknhnnlhhgppaaDoor
