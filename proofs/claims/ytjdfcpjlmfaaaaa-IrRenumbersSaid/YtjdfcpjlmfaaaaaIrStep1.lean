/-
  Contract: instruction (package ir: runner), operation by operation.
-/
import Derived.Test.YtjdfcpjlmfaaaaaIrStep
import Derived.BigRegion
import Derived.Deep.QuietTactic
import Derived.BigQuiet
namespace Go.Proofs.Ytjdfcpjlmfaaaaa
set_option linter.unusedVariables false
set_option linter.unusedSimpArgs false
open Go.RowKit
set_option maxRecDepth 100000
set_option maxHeartbeats 4000000
theorem instr_1 (N : Nat) (g : Geo) (names : List ByteArray) (inp : List Int) (d : Nat) (x : Int) (y : Int) (imm : Int) (sym : ByteArray) (w : World) (ov : Value) (s : St) (h : RunAt N g names w ov s) (hd : d < s.regs.length) (hi0 : -2147483648 ≤ imm) (hi1 : imm ≤ 2147483647) :
    Calls Try.prog 55 #[.pointer (some ⟨g.rb, 0, none⟩), Ins.val ⟨1, ((d : Nat) : Int), x, y, imm, sym⟩] w (StepOk N g names ov s w (step names inp ⟨1, ((d : Nat) : Int), x, y, imm, sym⟩ s)) := by
  obtain ⟨W, hW⟩ : ∃ W : World, w.alloc (.cells #[.int .u8 1, .int .i64 ((d : Nat) : Int), .int .i64 x, .int .i64 y, .int .i64 imm, .string sym] 60) = W := ⟨_, rfl⟩
  have hB : Below w.heap.size w W := by rw [← hW]; exact (Below.refl _ _).alloc (Nat.le_refl _) _
  have hWs : W.heap.size = w.heap.size + 1 := by rw [← hW]; simp
  have HR := Lib.hid (h.keep hB)
  have HF := Lib.hid (Frame.of_below (g := g) (ov := ov) hB)
  have i0 : W.cell? ⟨w.heap.size, 0, none⟩ = some (.int .u8 1) := by rw [← hW]; simp
  have i1 : W.cell? ⟨w.heap.size, 1, none⟩ = some (.int .i64 ((d : Nat) : Int)) := by rw [← hW]; simp
  have i2 : W.cell? ⟨w.heap.size, 2, none⟩ = some (.int .i64 x) := by rw [← hW]; simp
  have i3 : W.cell? ⟨w.heap.size, 3, none⟩ = some (.int .i64 y) := by rw [← hW]; simp
  have i4 : W.cell? ⟨w.heap.size, 4, none⟩ = some (.int .i64 imm) := by rw [← hW]; simp
  have i5 : W.cell? ⟨w.heap.size, 5, none⟩ = some (.string sym) := by rw [← hW]; simp
  have r0 : W.cell? ⟨g.rb, 0, none⟩ = some (.slice (some ⟨g.rg, 0, none⟩) s.regs.length s.regs.length) := HR.out.cell 0
  have vd := HR.out.reg hd
  have zd : W.frozen? ⟨g.rg, d, none⟩ = false := frozen_heap HR.out.regs d
  have d0 : (0 : Int) ≤ (d : Int) := by omega
  have d1 : (d : Int) < (s.regs.length : Int) := by omega
  have wd := HR.out.regw hd
  have d2 := wd.1
  have d3 := wd.2
  have Kd := Lib.hid wd
  clear wd
  clear h hB
  unfold Ins.val
  go_enter Try.func55, Try.ntmps55
  go_wp2_with fail
  clear hW
  go_region
  go_wp2_with fail
  go_ret
  refine StepOk.ok (by rw [step_1, wrap_id hi0 hi1]) (HR.out.setReg (k := d) ⟨hi0, hi1⟩) (HF.out.trans (Frame.setCell g.rg d _ (.inr (.inl rfl)))) rfl rfl rfl rfl

theorem instr_2 (N : Nat) (g : Geo) (names : List ByteArray) (inp : List Int) (d : Nat) (x : Nat) (y : Int) (imm : Int) (sym : ByteArray) (w : World) (ov : Value) (s : St) (h : RunAt N g names w ov s) (hd : d < s.regs.length) (hx : x < s.regs.length)  :
    Calls Try.prog 55 #[.pointer (some ⟨g.rb, 0, none⟩), Ins.val ⟨2, ((d : Nat) : Int), ((x : Nat) : Int), y, imm, sym⟩] w (StepOk N g names ov s w (step names inp ⟨2, ((d : Nat) : Int), ((x : Nat) : Int), y, imm, sym⟩ s)) := by
  obtain ⟨W, hW⟩ : ∃ W : World, w.alloc (.cells #[.int .u8 2, .int .i64 ((d : Nat) : Int), .int .i64 ((x : Nat) : Int), .int .i64 y, .int .i64 imm, .string sym] 60) = W := ⟨_, rfl⟩
  have hB : Below w.heap.size w W := by rw [← hW]; exact (Below.refl _ _).alloc (Nat.le_refl _) _
  have hWs : W.heap.size = w.heap.size + 1 := by rw [← hW]; simp
  have HR := Lib.hid (h.keep hB)
  have HF := Lib.hid (Frame.of_below (g := g) (ov := ov) hB)
  have i0 : W.cell? ⟨w.heap.size, 0, none⟩ = some (.int .u8 2) := by rw [← hW]; simp
  have i1 : W.cell? ⟨w.heap.size, 1, none⟩ = some (.int .i64 ((d : Nat) : Int)) := by rw [← hW]; simp
  have i2 : W.cell? ⟨w.heap.size, 2, none⟩ = some (.int .i64 ((x : Nat) : Int)) := by rw [← hW]; simp
  have i3 : W.cell? ⟨w.heap.size, 3, none⟩ = some (.int .i64 y) := by rw [← hW]; simp
  have i4 : W.cell? ⟨w.heap.size, 4, none⟩ = some (.int .i64 imm) := by rw [← hW]; simp
  have i5 : W.cell? ⟨w.heap.size, 5, none⟩ = some (.string sym) := by rw [← hW]; simp
  have r0 : W.cell? ⟨g.rb, 0, none⟩ = some (.slice (some ⟨g.rg, 0, none⟩) s.regs.length s.regs.length) := HR.out.cell 0
  have vd := HR.out.reg hd
  have zd : W.frozen? ⟨g.rg, d, none⟩ = false := frozen_heap HR.out.regs d
  have d0 : (0 : Int) ≤ (d : Int) := by omega
  have d1 : (d : Int) < (s.regs.length : Int) := by omega
  have wd := HR.out.regw hd
  have d2 := wd.1
  have d3 := wd.2
  have Kd := Lib.hid wd
  clear wd
  have vx := HR.out.reg hx
  have zx : W.frozen? ⟨g.rg, x, none⟩ = false := frozen_heap HR.out.regs x
  have x0 : (0 : Int) ≤ (x : Int) := by omega
  have x1 : (x : Int) < (s.regs.length : Int) := by omega
  have wx := HR.out.regw hx
  have x2 := wx.1
  have x3 := wx.2
  have Kx := Lib.hid wx
  clear wx
  clear h hB
  unfold Ins.val
  go_enter Try.func55, Try.ntmps55
  go_wp2_with fail
  clear hW
  go_region
  go_wp2_with fail
  go_ret
  refine StepOk.ok step_2 (HR.out.setReg (k := d) Kx.out) (HF.out.trans (Frame.setCell g.rg d _ (.inr (.inl rfl)))) rfl rfl rfl rfl

theorem instr_8 (N : Nat) (g : Geo) (names : List ByteArray) (inp : List Int) (d : Int) (x : Nat) (y : Int) (imm : Int) (sym : ByteArray) (w : World) (ov : Value) (s : St) (h : RunAt N g names w ov s) (hx : x < s.regs.length)  :
    Calls Try.prog 55 #[.pointer (some ⟨g.rb, 0, none⟩), Ins.val ⟨8, d, ((x : Nat) : Int), y, imm, sym⟩] w (StepOk N g names ov s w (step names inp ⟨8, d, ((x : Nat) : Int), y, imm, sym⟩ s)) := by
  obtain ⟨W, hW⟩ : ∃ W : World, w.alloc (.cells #[.int .u8 8, .int .i64 d, .int .i64 ((x : Nat) : Int), .int .i64 y, .int .i64 imm, .string sym] 60) = W := ⟨_, rfl⟩
  have hB : Below w.heap.size w W := by rw [← hW]; exact (Below.refl _ _).alloc (Nat.le_refl _) _
  have hWs : W.heap.size = w.heap.size + 1 := by rw [← hW]; simp
  have HR := Lib.hid (h.keep hB)
  have HF := Lib.hid (Frame.of_below (g := g) (ov := ov) hB)
  have i0 : W.cell? ⟨w.heap.size, 0, none⟩ = some (.int .u8 8) := by rw [← hW]; simp
  have i1 : W.cell? ⟨w.heap.size, 1, none⟩ = some (.int .i64 d) := by rw [← hW]; simp
  have i2 : W.cell? ⟨w.heap.size, 2, none⟩ = some (.int .i64 ((x : Nat) : Int)) := by rw [← hW]; simp
  have i3 : W.cell? ⟨w.heap.size, 3, none⟩ = some (.int .i64 y) := by rw [← hW]; simp
  have i4 : W.cell? ⟨w.heap.size, 4, none⟩ = some (.int .i64 imm) := by rw [← hW]; simp
  have i5 : W.cell? ⟨w.heap.size, 5, none⟩ = some (.string sym) := by rw [← hW]; simp
  have r0 : W.cell? ⟨g.rb, 0, none⟩ = some (.slice (some ⟨g.rg, 0, none⟩) s.regs.length s.regs.length) := HR.out.cell 0
  have vx := HR.out.reg hx
  have zx : W.frozen? ⟨g.rg, x, none⟩ = false := frozen_heap HR.out.regs x
  have x0 : (0 : Int) ≤ (x : Int) := by omega
  have x1 : (x : Int) < (s.regs.length : Int) := by omega
  have wx := HR.out.regw hx
  have x2 := wx.1
  have x3 := wx.2
  have Kx := Lib.hid wx
  clear wx
  clear h hB
  unfold Ins.val
  go_enter Try.func55, Try.ntmps55
  go_wp2_with fail
  clear hW
  go_quiet (fail)
  by_cases hc : s.reg x < 0 ∨ imm ≤ s.reg x
  · have hc' : s.reg x < 0 ∨ (decide (s.reg x < 0) = false ∧ imm ≤ s.reg x) := by
      by_cases q : s.reg x < 0
      · exact .inl q
      · exact .inr ⟨by simpa using q, by omega⟩
    rcases hc' with q | ⟨q, q'⟩
    all_goals
      go_wp2_with fail
      go_ret
      exact StepOk.trap (by rw [step_8, if_pos hc]) HR.out HF.out rfl rfl rfl rfl
  · have q : decide (s.reg x < 0) = false := by simp; omega
    have q' : decide (imm ≤ s.reg x) = false := by simp; omega
    go_wp2_with fail
    go_ret
    exact StepOk.ok (by rw [step_8, if_neg hc]) HR.out HF.out rfl rfl rfl rfl

end Go.Proofs.Ytjdfcpjlmfaaaaa
