/-
  Contracts: validEnd (package ir), immediate, register (package ontimeref17).
-/
import Derived.Test.YteknhnnlhhgppaaDoorRef17
namespace Go.Proofs.YteknhnnlhhgppaaDoor
set_option linter.unusedVariables false
set_option linter.unusedSimpArgs false
open Go.RowKit
set_option maxRecDepth 100000

/-- the value of a function: its name, registers, arrays, blocks -/
abbrev fnVal (name : ByteArray) (regs : Int) (aa : Option Addr) (an ac : Nat) (ba : Option Addr) (bn bc : Nat) : Value := .agg #[.string name, .int .i64 regs, .slice aa an ac, .slice ba bn bc]
/-- whether an immediate operand is in range, by the reference -/
def immOk (op n : Int) : Bool :=
  bif op == 1 then decide (-2147483648 ≤ n) && decide (n < 2147483648)
  else bif op == 3 then decide (6 ≤ n) && decide (n ≤ 23)
  else bif (op == 8) || (op == 16) then decide (1 ≤ n) && decide (n ≤ 131071)
  else bif (op == 9) || (op == 10) then decide (0 ≤ n) && decide (n < 8)
  else bif (op == 13) || (op == 14) || (op == 15) then decide (0 ≤ n) && decide (n < 4)
  else n == 0
def regOk (used : Bool) (n regs : Int) : Bool := if used then decide (0 ≤ n) && decide (n < regs) else decide (n = 0)

theorem ret_bool {a b : Bool} (h : a = b) : Ending.returned (.bool a) = .returned (.bool b) := by rw [h]
/-- whether the end of a block is valid -/
def endOk (regs : Int) (n : Nat) (b : Blk) : Bool :=
  bif b.kind == 1 then decide (0 ≤ b.to) && decide (b.to < (n : Int)) && (b.x == 0) && (b.els == 0)
  else bif b.kind == 2 then decide (0 ≤ b.x) && decide (b.x < regs) && decide (0 ≤ b.to) && decide (b.to < (n : Int)) && decide (0 ≤ b.els) && decide (b.els < (n : Int))
  else bif b.kind == 3 then (b.x == 0) && (b.to == 0) && (b.els == 0)
  else false
set_option maxHeartbeats 8000000 in
theorem validEnd_any (name : ByteArray) (regs : Int) (aa ba : Option Addr) (an ac bn bc : Nat) (b : Blk) (a : Option Addr) (c : Nat) (w : World) (hn : bn ≤ 9223372036854775807) :
    Calls Tryd.prog 105 #[fnVal name regs aa an ac ba bn bc, b.val a c] w fun e w' => e = .returned (.bool (endOk regs bn b)) ∧ Below w.heap.size w w' := by
  unfold Blk.val
  go_enter Tryd.func105, Tryd.ntmps105
  go_wp2
  all_goals
    go_ret
    exact ⟨ret_bool (by first | (simp [endOk, *]; done) | (simp [endOk, *]; intros; omega)), ((Below.refl _ _).alloc (Nat.le_refl _) _).alloc (by simp) _⟩
end Go.Proofs.YteknhnnlhhgppaaDoor
