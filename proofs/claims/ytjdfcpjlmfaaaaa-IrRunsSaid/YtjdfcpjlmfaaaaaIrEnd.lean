/-
  Contracts: validEnd (package ir), immediate, register (package ontimeref17).
-/
import Derived.Test.YtjdfcpjlmfaaaaaRef17
namespace Go.Proofs.Ytjdfcpjlmfaaaaa
set_option linter.unusedVariables false
set_option linter.unusedSimpArgs false
open Go.RowKit
set_option maxRecDepth 100000

/-- the value of a function: its name, registers, arrays, blocks -/
abbrev fnVal (name : ByteArray) (regs : Int) (aa : Option Addr) (an ac : Nat) (ba : Option Addr) (bn bc : Nat) : Value := .agg #[.string name, .int .i64 regs, .slice aa an ac, .slice ba bn bc]
/-- whether an immediate operand is in range, by the reference -/
def immOk (op n : Int) : Bool :=
  bif op == 1 then decide (-2147483648 ≤ n) && decide (n < 2147483648)
  else bif op == 3 then decide (6 ≤ n) && decide (n ≤ 23)
  else bif (op == 8) || (op == 16) then decide (1 ≤ n) && decide (n ≤ 131071)
  else bif (op == 9) || (op == 10) then decide (0 ≤ n) && decide (n < 8)
  else bif (op == 13) || (op == 14) || (op == 15) then decide (0 ≤ n) && decide (n < 4)
  else n == 0
def regOk (used : Bool) (n regs : Int) : Bool := if used then decide (0 ≤ n) && decide (n < regs) else decide (n = 0)

set_option maxHeartbeats 4000000 in
theorem register_any (used : Bool) (n regs : Int) (w : World) :
    Calls Try.prog 52 #[.bool used, .int .i64 n, .int .i64 regs] w fun e w' => e = .returned (.bool (regOk used n regs)) ∧ w = w' := by
  cases used with
  | true =>
    by_cases h0 : 0 ≤ n
    · by_cases h1 : n < regs
      · have hd : regOk true n regs = true := by simp [regOk, h0, h1]
        rw [hd]
        go_enter Try.func52, Try.ntmps52
        go_wp2
        go_ret
        exact ⟨rfl, rfl⟩
      · have hd : regOk true n regs = false := by simp [regOk, h1]
        rw [hd]
        have h2 : decide (n < regs) = false := by simpa using h1
        go_enter Try.func52, Try.ntmps52
        go_wp2
        go_ret
        exact ⟨rfl, rfl⟩
    · have hd : regOk true n regs = false := by simp [regOk]; omega
      rw [hd]
      have h2 : decide (0 ≤ n) = false := by simpa using h0
      go_enter Try.func52, Try.ntmps52
      go_wp2
      go_ret
      exact ⟨rfl, rfl⟩
  | false =>
    have hd : regOk false n regs = (n == 0) := by simp [regOk]; rfl
    rw [hd]
    go_enter Try.func52, Try.ntmps52
    go_wp2
    go_ret
    exact ⟨rfl, rfl⟩
theorem ret_bool {a b : Bool} (h : a = b) : Ending.returned (.bool a) = .returned (.bool b) := by rw [h]
set_option maxHeartbeats 4000000 in
theorem immediate_any (op n : Int) (w : World) :
    Calls Try.prog 51 #[.int .u8 op, .int .i64 n] w fun e w' => e = .returned (.bool (immOk op n)) ∧ w = w' := by
  go_enter Try.func51, Try.ntmps51
  go_wp2
  all_goals
    go_ret
    exact ⟨ret_bool (by first | (simp [immOk, *]; done) | (simp [immOk, *]; intros; omega)), rfl⟩

/-- whether the end of a block is valid -/
def endOk (regs : Int) (n : Nat) (b : Blk) : Bool :=
  bif b.kind == 1 then decide (0 ≤ b.to) && decide (b.to < (n : Int)) && (b.x == 0) && (b.els == 0)
  else bif b.kind == 2 then decide (0 ≤ b.x) && decide (b.x < regs) && decide (0 ≤ b.to) && decide (b.to < (n : Int)) && decide (0 ≤ b.els) && decide (b.els < (n : Int))
  else bif b.kind == 3 then (b.x == 0) && (b.to == 0) && (b.els == 0)
  else false
set_option maxHeartbeats 8000000 in
theorem validEnd_any (name : ByteArray) (regs : Int) (aa ba : Option Addr) (an ac bn bc : Nat) (b : Blk) (a : Option Addr) (c : Nat) (w : World) (hn : bn ≤ 9223372036854775807) :
    Calls Try.prog 34 #[fnVal name regs aa an ac ba bn bc, b.val a c] w fun e w' => e = .returned (.bool (endOk regs bn b)) ∧ Below w.heap.size w w' := by
  unfold Blk.val
  go_enter Try.func34, Try.ntmps34
  go_wp2
  all_goals
    go_ret
    exact ⟨ret_bool (by first | (simp [endOk, *]; done) | (simp [endOk, *]; intros; omega)), ((Below.refl _ _).alloc (Nat.le_refl _) _).alloc (by simp) _⟩
end Go.Proofs.Ytjdfcpjlmfaaaaa
