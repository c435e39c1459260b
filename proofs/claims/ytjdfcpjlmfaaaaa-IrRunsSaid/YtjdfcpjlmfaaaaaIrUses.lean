/-
  Contracts: Uses, Defines, Succ (package ir).
-/
import Derived.Test.YtjdfcpjlmfaaaaaProg
import Derived.Test.YtjdfcpjlmfaaaaaIr
import Derived.WalkKit
import Derived.Outline
namespace Go.Proofs.Ytjdfcpjlmfaaaaa
set_option linter.unusedVariables false
set_option linter.unusedSimpArgs false
open Go.RowKit
set_option maxRecDepth 100000

set_option maxHeartbeats 2000000 in
theorem uses_any (i : Ins) (w : World) : Calls Try.prog 25 #[i.val] w (IntsNew i.uses w) := by
  unfold Ins.val
  go_enter Try.func25, Try.ntmps25
  go_wp2
  all_goals
    go_ret
    first
      | (have hu : i.uses = [i.x] := by simp_all [Ins.uses]
         rw [hu]
         exact ints_one)
      | (have hu : i.uses = [i.x, i.y] := by simp_all [Ins.uses]
         rw [hu]
         exact ints_two)
      | (have hu : i.uses = [] := by simp_all [Ins.uses]
         rw [hu]
         exact ints_none)

/-- the register that is written, or none -/
def DefOk (i : Ins) (w : World) (e : Ending) (w' : World) : Prop :=
  e = .returned (.tuple #[.int .i64 (i.defines.getD 0), .bool i.defines.isSome]) ∧ Below w.heap.size w w'
set_option maxHeartbeats 2000000 in
theorem defines_any (i : Ins) (w : World) : Calls Try.prog 26 #[i.val] w (DefOk i w) := by
  unfold Ins.val
  go_enter Try.func26, Try.ntmps26
  go_wp2
  all_goals
    go_ret2
    first
      | (have hu : i.defines = some i.dst := by simp_all [Ins.defines]
         unfold DefOk
         rw [hu]
         exact ⟨rfl, (Below.refl _ _).alloc (Nat.le_refl _) _⟩)
      | (have hu : i.defines = none := by simp_all [Ins.defines]
         unfold DefOk
         rw [hu]
         exact ⟨rfl, (Below.refl _ _).alloc (Nat.le_refl _) _⟩)

set_option maxHeartbeats 2000000 in
theorem succ_any (b : Blk) (a : Option Addr) (c : Nat) (w : World) : Calls Try.prog 29 #[b.val a c] w (IntsNew b.succ w) := by
  unfold Blk.val
  go_enter Try.func29, Try.ntmps29
  go_wp2
  all_goals
    go_ret
    first
      | (have hu : b.succ = [b.to] := by simp_all [Blk.succ]
         rw [hu]
         exact ints_one)
      | (have hu : b.succ = [b.to, b.els] := by simp_all [Blk.succ]
         rw [hu]
         exact ints_two)
      | (have hu : b.succ = [] := by simp_all [Blk.succ]
         rw [hu]
         exact ints_none)
end Go.Proofs.Ytjdfcpjlmfaaaaa
