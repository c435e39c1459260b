/-
  IrSteps: several texts in one (IrStep1, IrStep2, IrStep3, IrStep4, IrStep5, IrStep6, IrStep7, IrStep8, IrStep9, IrStep10, IrStep11).
-/
import Derived.Test.YtjdfcpjlmfaaaaaIrStep
import Derived.BigRegion
import Derived.Deep.QuietTactic
import Derived.BigQuiet
import Derived.Test.YtjdfcpjlmfaaaaaStepAppend
import Derived.Test.YtjdfcpjlmfaaaaaRef17Uses
import Derived.Deep.RegionLaw
import Derived.Deep.RegionHeld
import Derived.OrdersHeld
import Derived.Test.YtjdfcpjlmfaaaaaWordCalls
/-
  Contract: instruction (package ir: runner), operation by operation.
-/
namespace Go.Proofs.Ytjdfcpjlmfaaaaa
set_option linter.unusedVariables false
set_option linter.unusedSimpArgs false
open Go.RowKit
set_option maxRecDepth 100000
set_option maxHeartbeats 4000000
theorem instr_1 (N : Nat) (g : Geo) (names : List ByteArray) (inp : List Int) (d : Nat) (x : Int) (y : Int) (imm : Int) (sym : ByteArray) (w : World) (ov : Value) (s : St) (h : RunAt N g names w ov s) (hd : d < s.regs.length) (hi0 : -2147483648 ≤ imm) (hi1 : imm ≤ 2147483647) :
    Calls Try.prog 55 #[.pointer (some ⟨g.rb, 0, none⟩), Ins.val ⟨1, ((d : Nat) : Int), x, y, imm, sym⟩] w (StepOk N g names ov s w (step names inp ⟨1, ((d : Nat) : Int), x, y, imm, sym⟩ s)) := by
  obtain ⟨W, hW⟩ : ∃ W : World, w.alloc (.cells #[.int .u8 1, .int .i64 ((d : Nat) : Int), .int .i64 x, .int .i64 y, .int .i64 imm, .string sym] 60) = W := ⟨_, rfl⟩
  have hB : Below w.heap.size w W := by rw [← hW]; exact (Below.refl _ _).alloc (Nat.le_refl _) _
  have hWs : W.heap.size = w.heap.size + 1 := by rw [← hW]; simp
  have HR := Lib.hid (h.keep hB)
  have HF := Lib.hid (Frame.of_below (g := g) (ov := ov) hB)
  have i0 : W.cell? ⟨w.heap.size, 0, none⟩ = some (.int .u8 1) := by rw [← hW]; simp
  have i1 : W.cell? ⟨w.heap.size, 1, none⟩ = some (.int .i64 ((d : Nat) : Int)) := by rw [← hW]; simp
  have i2 : W.cell? ⟨w.heap.size, 2, none⟩ = some (.int .i64 x) := by rw [← hW]; simp
  have i3 : W.cell? ⟨w.heap.size, 3, none⟩ = some (.int .i64 y) := by rw [← hW]; simp
  have i4 : W.cell? ⟨w.heap.size, 4, none⟩ = some (.int .i64 imm) := by rw [← hW]; simp
  have i5 : W.cell? ⟨w.heap.size, 5, none⟩ = some (.string sym) := by rw [← hW]; simp
  have r0 : W.cell? ⟨g.rb, 0, none⟩ = some (.slice (some ⟨g.rg, 0, none⟩) s.regs.length s.regs.length) := HR.out.cell 0
  have vd := HR.out.reg hd
  have zd : W.frozen? ⟨g.rg, d, none⟩ = false := frozen_heap HR.out.regs d
  have d0 : (0 : Int) ≤ (d : Int) := by omega
  have d1 : (d : Int) < (s.regs.length : Int) := by omega
  have wd := HR.out.regw hd
  have d2 := wd.1
  have d3 := wd.2
  have Kd := Lib.hid wd
  clear wd
  clear h hB
  unfold Ins.val
  go_enter Try.func55, Try.ntmps55
  go_wp2_with fail
  clear hW
  go_region
  go_wp2_with fail
  go_ret
  refine StepOk.ok (by rw [step_1, wrap_id hi0 hi1]) (HR.out.setReg (k := d) ⟨hi0, hi1⟩) (HF.out.trans (Frame.setCell g.rg d _ (.inr (.inl rfl)))) rfl rfl rfl rfl

theorem instr_2 (N : Nat) (g : Geo) (names : List ByteArray) (inp : List Int) (d : Nat) (x : Nat) (y : Int) (imm : Int) (sym : ByteArray) (w : World) (ov : Value) (s : St) (h : RunAt N g names w ov s) (hd : d < s.regs.length) (hx : x < s.regs.length)  :
    Calls Try.prog 55 #[.pointer (some ⟨g.rb, 0, none⟩), Ins.val ⟨2, ((d : Nat) : Int), ((x : Nat) : Int), y, imm, sym⟩] w (StepOk N g names ov s w (step names inp ⟨2, ((d : Nat) : Int), ((x : Nat) : Int), y, imm, sym⟩ s)) := by
  obtain ⟨W, hW⟩ : ∃ W : World, w.alloc (.cells #[.int .u8 2, .int .i64 ((d : Nat) : Int), .int .i64 ((x : Nat) : Int), .int .i64 y, .int .i64 imm, .string sym] 60) = W := ⟨_, rfl⟩
  have hB : Below w.heap.size w W := by rw [← hW]; exact (Below.refl _ _).alloc (Nat.le_refl _) _
  have hWs : W.heap.size = w.heap.size + 1 := by rw [← hW]; simp
  have HR := Lib.hid (h.keep hB)
  have HF := Lib.hid (Frame.of_below (g := g) (ov := ov) hB)
  have i0 : W.cell? ⟨w.heap.size, 0, none⟩ = some (.int .u8 2) := by rw [← hW]; simp
  have i1 : W.cell? ⟨w.heap.size, 1, none⟩ = some (.int .i64 ((d : Nat) : Int)) := by rw [← hW]; simp
  have i2 : W.cell? ⟨w.heap.size, 2, none⟩ = some (.int .i64 ((x : Nat) : Int)) := by rw [← hW]; simp
  have i3 : W.cell? ⟨w.heap.size, 3, none⟩ = some (.int .i64 y) := by rw [← hW]; simp
  have i4 : W.cell? ⟨w.heap.size, 4, none⟩ = some (.int .i64 imm) := by rw [← hW]; simp
  have i5 : W.cell? ⟨w.heap.size, 5, none⟩ = some (.string sym) := by rw [← hW]; simp
  have r0 : W.cell? ⟨g.rb, 0, none⟩ = some (.slice (some ⟨g.rg, 0, none⟩) s.regs.length s.regs.length) := HR.out.cell 0
  have vd := HR.out.reg hd
  have zd : W.frozen? ⟨g.rg, d, none⟩ = false := frozen_heap HR.out.regs d
  have d0 : (0 : Int) ≤ (d : Int) := by omega
  have d1 : (d : Int) < (s.regs.length : Int) := by omega
  have wd := HR.out.regw hd
  have d2 := wd.1
  have d3 := wd.2
  have Kd := Lib.hid wd
  clear wd
  have vx := HR.out.reg hx
  have zx : W.frozen? ⟨g.rg, x, none⟩ = false := frozen_heap HR.out.regs x
  have x0 : (0 : Int) ≤ (x : Int) := by omega
  have x1 : (x : Int) < (s.regs.length : Int) := by omega
  have wx := HR.out.regw hx
  have x2 := wx.1
  have x3 := wx.2
  have Kx := Lib.hid wx
  clear wx
  clear h hB
  unfold Ins.val
  go_enter Try.func55, Try.ntmps55
  go_wp2_with fail
  clear hW
  go_region
  go_wp2_with fail
  go_ret
  refine StepOk.ok step_2 (HR.out.setReg (k := d) Kx.out) (HF.out.trans (Frame.setCell g.rg d _ (.inr (.inl rfl)))) rfl rfl rfl rfl

theorem instr_8 (N : Nat) (g : Geo) (names : List ByteArray) (inp : List Int) (d : Int) (x : Nat) (y : Int) (imm : Int) (sym : ByteArray) (w : World) (ov : Value) (s : St) (h : RunAt N g names w ov s) (hx : x < s.regs.length)  :
    Calls Try.prog 55 #[.pointer (some ⟨g.rb, 0, none⟩), Ins.val ⟨8, d, ((x : Nat) : Int), y, imm, sym⟩] w (StepOk N g names ov s w (step names inp ⟨8, d, ((x : Nat) : Int), y, imm, sym⟩ s)) := by
  obtain ⟨W, hW⟩ : ∃ W : World, w.alloc (.cells #[.int .u8 8, .int .i64 d, .int .i64 ((x : Nat) : Int), .int .i64 y, .int .i64 imm, .string sym] 60) = W := ⟨_, rfl⟩
  have hB : Below w.heap.size w W := by rw [← hW]; exact (Below.refl _ _).alloc (Nat.le_refl _) _
  have hWs : W.heap.size = w.heap.size + 1 := by rw [← hW]; simp
  have HR := Lib.hid (h.keep hB)
  have HF := Lib.hid (Frame.of_below (g := g) (ov := ov) hB)
  have i0 : W.cell? ⟨w.heap.size, 0, none⟩ = some (.int .u8 8) := by rw [← hW]; simp
  have i1 : W.cell? ⟨w.heap.size, 1, none⟩ = some (.int .i64 d) := by rw [← hW]; simp
  have i2 : W.cell? ⟨w.heap.size, 2, none⟩ = some (.int .i64 ((x : Nat) : Int)) := by rw [← hW]; simp
  have i3 : W.cell? ⟨w.heap.size, 3, none⟩ = some (.int .i64 y) := by rw [← hW]; simp
  have i4 : W.cell? ⟨w.heap.size, 4, none⟩ = some (.int .i64 imm) := by rw [← hW]; simp
  have i5 : W.cell? ⟨w.heap.size, 5, none⟩ = some (.string sym) := by rw [← hW]; simp
  have r0 : W.cell? ⟨g.rb, 0, none⟩ = some (.slice (some ⟨g.rg, 0, none⟩) s.regs.length s.regs.length) := HR.out.cell 0
  have vx := HR.out.reg hx
  have zx : W.frozen? ⟨g.rg, x, none⟩ = false := frozen_heap HR.out.regs x
  have x0 : (0 : Int) ≤ (x : Int) := by omega
  have x1 : (x : Int) < (s.regs.length : Int) := by omega
  have wx := HR.out.regw hx
  have x2 := wx.1
  have x3 := wx.2
  have Kx := Lib.hid wx
  clear wx
  clear h hB
  unfold Ins.val
  go_enter Try.func55, Try.ntmps55
  go_wp2_with fail
  clear hW
  go_quiet (fail)
  by_cases hc : s.reg x < 0 ∨ imm ≤ s.reg x
  · have hc' : s.reg x < 0 ∨ (decide (s.reg x < 0) = false ∧ imm ≤ s.reg x) := by
      by_cases q : s.reg x < 0
      · exact .inl q
      · exact .inr ⟨by simpa using q, by omega⟩
    rcases hc' with q | ⟨q, q'⟩
    all_goals
      go_wp2_with fail
      go_ret
      exact StepOk.trap (by rw [step_8, if_pos hc]) HR.out HF.out rfl rfl rfl rfl
  · have q : decide (s.reg x < 0) = false := by simp; omega
    have q' : decide (imm ≤ s.reg x) = false := by simp; omega
    go_wp2_with fail
    go_ret
    exact StepOk.ok (by rw [step_8, if_neg hc]) HR.out HF.out rfl rfl rfl rfl

end Go.Proofs.Ytjdfcpjlmfaaaaa

/-
  Contract: instruction (package ir: runner), operation by operation.
-/
namespace Go.Proofs.Ytjdfcpjlmfaaaaa
set_option linter.unusedVariables false
set_option linter.unusedSimpArgs false
open Go.RowKit
set_option maxRecDepth 100000
set_option maxHeartbeats 4000000
theorem instr_13_0 (N : Nat) (g : Geo) (names : List ByteArray) (inp : List Int) (d : Int) (x : Int) (y : Int) (sym : ByteArray) (w : World) (ov : Value) (s : St) (h : RunAt N g names w ov s)   :
    Calls Try.prog 55 #[.pointer (some ⟨g.rb, 0, none⟩), Ins.val ⟨13, d, x, y, (0 : Int), sym⟩] w (StepOk N g names ov s w (step names inp ⟨13, d, x, y, (0 : Int), sym⟩ s)) := by
  obtain ⟨W, hW⟩ : ∃ W : World, w.alloc (.cells #[.int .u8 13, .int .i64 d, .int .i64 x, .int .i64 y, .int .i64 (0 : Int), .string sym] 60) = W := ⟨_, rfl⟩
  have hB : Below w.heap.size w W := by rw [← hW]; exact (Below.refl _ _).alloc (Nat.le_refl _) _
  have hWs : W.heap.size = w.heap.size + 1 := by rw [← hW]; simp
  have HR := Lib.hid (h.keep hB)
  have HF := Lib.hid (Frame.of_below (g := g) (ov := ov) hB)
  have i0 : W.cell? ⟨w.heap.size, 0, none⟩ = some (.int .u8 13) := by rw [← hW]; simp
  have i1 : W.cell? ⟨w.heap.size, 1, none⟩ = some (.int .i64 d) := by rw [← hW]; simp
  have i2 : W.cell? ⟨w.heap.size, 2, none⟩ = some (.int .i64 x) := by rw [← hW]; simp
  have i3 : W.cell? ⟨w.heap.size, 3, none⟩ = some (.int .i64 y) := by rw [← hW]; simp
  have i4 : W.cell? ⟨w.heap.size, 4, none⟩ = some (.int .i64 (0 : Int)) := by rw [← hW]; simp
  have i5 : W.cell? ⟨w.heap.size, 5, none⟩ = some (.string sym) := by rw [← hW]; simp
  have r0 : W.cell? ⟨g.rb, 0, none⟩ = some (.slice (some ⟨g.rg, 0, none⟩) s.regs.length s.regs.length) := HR.out.cell 0
  have r1 : W.cell? ⟨g.rb, 1, none⟩ = some (.int .i32 (s.cnt.getD 0 0)) := HR.out.cell 1
  have z1 : W.frozen? ⟨g.rb, 1, none⟩ = false := frozen_heap HR.out.run 1
  have cw := (HR.out.wf.cnts _ (cnt_mem HR.out.wf 0 (by omega)))
  have cw0 := cw.1
  have cw1 := cw.2
  have CW := Lib.hid cw
  clear cw
  clear h hB
  unfold Ins.val
  go_enter Try.func55, Try.ntmps55
  go_wp2_with fail
  clear hW
  go_region
  go_wp2_with fail
  go_ret
  exact StepOk.ok step_13 (HR.out.setCount (k := 0) (by omega) ⟨by omega, by omega⟩ rfl) (HF.out.trans (Frame.setCell g.rb _ _ (.inl rfl))) rfl rfl rfl rfl

theorem instr_13_1 (N : Nat) (g : Geo) (names : List ByteArray) (inp : List Int) (d : Int) (x : Int) (y : Int) (sym : ByteArray) (w : World) (ov : Value) (s : St) (h : RunAt N g names w ov s)   :
    Calls Try.prog 55 #[.pointer (some ⟨g.rb, 0, none⟩), Ins.val ⟨13, d, x, y, (1 : Int), sym⟩] w (StepOk N g names ov s w (step names inp ⟨13, d, x, y, (1 : Int), sym⟩ s)) := by
  obtain ⟨W, hW⟩ : ∃ W : World, w.alloc (.cells #[.int .u8 13, .int .i64 d, .int .i64 x, .int .i64 y, .int .i64 (1 : Int), .string sym] 60) = W := ⟨_, rfl⟩
  have hB : Below w.heap.size w W := by rw [← hW]; exact (Below.refl _ _).alloc (Nat.le_refl _) _
  have hWs : W.heap.size = w.heap.size + 1 := by rw [← hW]; simp
  have HR := Lib.hid (h.keep hB)
  have HF := Lib.hid (Frame.of_below (g := g) (ov := ov) hB)
  have i0 : W.cell? ⟨w.heap.size, 0, none⟩ = some (.int .u8 13) := by rw [← hW]; simp
  have i1 : W.cell? ⟨w.heap.size, 1, none⟩ = some (.int .i64 d) := by rw [← hW]; simp
  have i2 : W.cell? ⟨w.heap.size, 2, none⟩ = some (.int .i64 x) := by rw [← hW]; simp
  have i3 : W.cell? ⟨w.heap.size, 3, none⟩ = some (.int .i64 y) := by rw [← hW]; simp
  have i4 : W.cell? ⟨w.heap.size, 4, none⟩ = some (.int .i64 (1 : Int)) := by rw [← hW]; simp
  have i5 : W.cell? ⟨w.heap.size, 5, none⟩ = some (.string sym) := by rw [← hW]; simp
  have r0 : W.cell? ⟨g.rb, 0, none⟩ = some (.slice (some ⟨g.rg, 0, none⟩) s.regs.length s.regs.length) := HR.out.cell 0
  have r2 : W.cell? ⟨g.rb, 2, none⟩ = some (.int .i32 (s.cnt.getD 1 0)) := HR.out.cell 2
  have z2 : W.frozen? ⟨g.rb, 2, none⟩ = false := frozen_heap HR.out.run 2
  have cw := (HR.out.wf.cnts _ (cnt_mem HR.out.wf 1 (by omega)))
  have cw0 := cw.1
  have cw1 := cw.2
  have CW := Lib.hid cw
  clear cw
  clear h hB
  unfold Ins.val
  go_enter Try.func55, Try.ntmps55
  go_wp2_with fail
  clear hW
  go_region
  go_wp2_with fail
  go_ret
  exact StepOk.ok step_13 (HR.out.setCount (k := 1) (by omega) ⟨by omega, by omega⟩ rfl) (HF.out.trans (Frame.setCell g.rb _ _ (.inl rfl))) rfl rfl rfl rfl

theorem instr_13_2 (N : Nat) (g : Geo) (names : List ByteArray) (inp : List Int) (d : Int) (x : Int) (y : Int) (sym : ByteArray) (w : World) (ov : Value) (s : St) (h : RunAt N g names w ov s)   :
    Calls Try.prog 55 #[.pointer (some ⟨g.rb, 0, none⟩), Ins.val ⟨13, d, x, y, (2 : Int), sym⟩] w (StepOk N g names ov s w (step names inp ⟨13, d, x, y, (2 : Int), sym⟩ s)) := by
  obtain ⟨W, hW⟩ : ∃ W : World, w.alloc (.cells #[.int .u8 13, .int .i64 d, .int .i64 x, .int .i64 y, .int .i64 (2 : Int), .string sym] 60) = W := ⟨_, rfl⟩
  have hB : Below w.heap.size w W := by rw [← hW]; exact (Below.refl _ _).alloc (Nat.le_refl _) _
  have hWs : W.heap.size = w.heap.size + 1 := by rw [← hW]; simp
  have HR := Lib.hid (h.keep hB)
  have HF := Lib.hid (Frame.of_below (g := g) (ov := ov) hB)
  have i0 : W.cell? ⟨w.heap.size, 0, none⟩ = some (.int .u8 13) := by rw [← hW]; simp
  have i1 : W.cell? ⟨w.heap.size, 1, none⟩ = some (.int .i64 d) := by rw [← hW]; simp
  have i2 : W.cell? ⟨w.heap.size, 2, none⟩ = some (.int .i64 x) := by rw [← hW]; simp
  have i3 : W.cell? ⟨w.heap.size, 3, none⟩ = some (.int .i64 y) := by rw [← hW]; simp
  have i4 : W.cell? ⟨w.heap.size, 4, none⟩ = some (.int .i64 (2 : Int)) := by rw [← hW]; simp
  have i5 : W.cell? ⟨w.heap.size, 5, none⟩ = some (.string sym) := by rw [← hW]; simp
  have r0 : W.cell? ⟨g.rb, 0, none⟩ = some (.slice (some ⟨g.rg, 0, none⟩) s.regs.length s.regs.length) := HR.out.cell 0
  have r3 : W.cell? ⟨g.rb, 3, none⟩ = some (.int .i32 (s.cnt.getD 2 0)) := HR.out.cell 3
  have z3 : W.frozen? ⟨g.rb, 3, none⟩ = false := frozen_heap HR.out.run 3
  have cw := (HR.out.wf.cnts _ (cnt_mem HR.out.wf 2 (by omega)))
  have cw0 := cw.1
  have cw1 := cw.2
  have CW := Lib.hid cw
  clear cw
  clear h hB
  unfold Ins.val
  go_enter Try.func55, Try.ntmps55
  go_wp2_with fail
  clear hW
  go_region
  go_wp2_with fail
  go_ret
  exact StepOk.ok step_13 (HR.out.setCount (k := 2) (by omega) ⟨by omega, by omega⟩ rfl) (HF.out.trans (Frame.setCell g.rb _ _ (.inl rfl))) rfl rfl rfl rfl

theorem instr_13_3 (N : Nat) (g : Geo) (names : List ByteArray) (inp : List Int) (d : Int) (x : Int) (y : Int) (sym : ByteArray) (w : World) (ov : Value) (s : St) (h : RunAt N g names w ov s)   :
    Calls Try.prog 55 #[.pointer (some ⟨g.rb, 0, none⟩), Ins.val ⟨13, d, x, y, (3 : Int), sym⟩] w (StepOk N g names ov s w (step names inp ⟨13, d, x, y, (3 : Int), sym⟩ s)) := by
  obtain ⟨W, hW⟩ : ∃ W : World, w.alloc (.cells #[.int .u8 13, .int .i64 d, .int .i64 x, .int .i64 y, .int .i64 (3 : Int), .string sym] 60) = W := ⟨_, rfl⟩
  have hB : Below w.heap.size w W := by rw [← hW]; exact (Below.refl _ _).alloc (Nat.le_refl _) _
  have hWs : W.heap.size = w.heap.size + 1 := by rw [← hW]; simp
  have HR := Lib.hid (h.keep hB)
  have HF := Lib.hid (Frame.of_below (g := g) (ov := ov) hB)
  have i0 : W.cell? ⟨w.heap.size, 0, none⟩ = some (.int .u8 13) := by rw [← hW]; simp
  have i1 : W.cell? ⟨w.heap.size, 1, none⟩ = some (.int .i64 d) := by rw [← hW]; simp
  have i2 : W.cell? ⟨w.heap.size, 2, none⟩ = some (.int .i64 x) := by rw [← hW]; simp
  have i3 : W.cell? ⟨w.heap.size, 3, none⟩ = some (.int .i64 y) := by rw [← hW]; simp
  have i4 : W.cell? ⟨w.heap.size, 4, none⟩ = some (.int .i64 (3 : Int)) := by rw [← hW]; simp
  have i5 : W.cell? ⟨w.heap.size, 5, none⟩ = some (.string sym) := by rw [← hW]; simp
  have r0 : W.cell? ⟨g.rb, 0, none⟩ = some (.slice (some ⟨g.rg, 0, none⟩) s.regs.length s.regs.length) := HR.out.cell 0
  have r4 : W.cell? ⟨g.rb, 4, none⟩ = some (.int .i32 (s.cnt.getD 3 0)) := HR.out.cell 4
  have z4 : W.frozen? ⟨g.rb, 4, none⟩ = false := frozen_heap HR.out.run 4
  have cw := (HR.out.wf.cnts _ (cnt_mem HR.out.wf 3 (by omega)))
  have cw0 := cw.1
  have cw1 := cw.2
  have CW := Lib.hid cw
  clear cw
  clear h hB
  unfold Ins.val
  go_enter Try.func55, Try.ntmps55
  go_wp2_with fail
  clear hW
  go_region
  go_wp2_with fail
  go_ret
  exact StepOk.ok step_13 (HR.out.setCount (k := 3) (by omega) ⟨by omega, by omega⟩ rfl) (HF.out.trans (Frame.setCell g.rb _ _ (.inl rfl))) rfl rfl rfl rfl


theorem instr_14_0 (N : Nat) (g : Geo) (names : List ByteArray) (inp : List Int) (d : Int) (x : Int) (y : Int) (sym : ByteArray) (w : World) (ov : Value) (s : St) (h : RunAt N g names w ov s)   :
    Calls Try.prog 55 #[.pointer (some ⟨g.rb, 0, none⟩), Ins.val ⟨14, d, x, y, (0 : Int), sym⟩] w (StepOk N g names ov s w (step names inp ⟨14, d, x, y, (0 : Int), sym⟩ s)) := by
  obtain ⟨W, hW⟩ : ∃ W : World, w.alloc (.cells #[.int .u8 14, .int .i64 d, .int .i64 x, .int .i64 y, .int .i64 (0 : Int), .string sym] 60) = W := ⟨_, rfl⟩
  have hB : Below w.heap.size w W := by rw [← hW]; exact (Below.refl _ _).alloc (Nat.le_refl _) _
  have hWs : W.heap.size = w.heap.size + 1 := by rw [← hW]; simp
  have HR := Lib.hid (h.keep hB)
  have HF := Lib.hid (Frame.of_below (g := g) (ov := ov) hB)
  have i0 : W.cell? ⟨w.heap.size, 0, none⟩ = some (.int .u8 14) := by rw [← hW]; simp
  have i1 : W.cell? ⟨w.heap.size, 1, none⟩ = some (.int .i64 d) := by rw [← hW]; simp
  have i2 : W.cell? ⟨w.heap.size, 2, none⟩ = some (.int .i64 x) := by rw [← hW]; simp
  have i3 : W.cell? ⟨w.heap.size, 3, none⟩ = some (.int .i64 y) := by rw [← hW]; simp
  have i4 : W.cell? ⟨w.heap.size, 4, none⟩ = some (.int .i64 (0 : Int)) := by rw [← hW]; simp
  have i5 : W.cell? ⟨w.heap.size, 5, none⟩ = some (.string sym) := by rw [← hW]; simp
  have r0 : W.cell? ⟨g.rb, 0, none⟩ = some (.slice (some ⟨g.rg, 0, none⟩) s.regs.length s.regs.length) := HR.out.cell 0
  have r1 : W.cell? ⟨g.rb, 1, none⟩ = some (.int .i32 (s.cnt.getD 0 0)) := HR.out.cell 1
  have z1 : W.frozen? ⟨g.rb, 1, none⟩ = false := frozen_heap HR.out.run 1
  have cw := (HR.out.wf.cnts _ (cnt_mem HR.out.wf 0 (by omega)))
  have cw0 := cw.1
  have cw1 := cw.2
  have CW := Lib.hid cw
  clear cw
  clear h hB
  unfold Ins.val
  go_enter Try.func55, Try.ntmps55
  go_wp2_with fail
  clear hW
  go_region
  go_wp2_with fail
  go_ret
  exact StepOk.ok step_14 (HR.out.setCount (k := 0) (by omega) (Wd.W_wrap _) rfl) (HF.out.trans (Frame.setCell g.rb _ _ (.inl rfl))) rfl rfl rfl rfl

theorem instr_14_1 (N : Nat) (g : Geo) (names : List ByteArray) (inp : List Int) (d : Int) (x : Int) (y : Int) (sym : ByteArray) (w : World) (ov : Value) (s : St) (h : RunAt N g names w ov s)   :
    Calls Try.prog 55 #[.pointer (some ⟨g.rb, 0, none⟩), Ins.val ⟨14, d, x, y, (1 : Int), sym⟩] w (StepOk N g names ov s w (step names inp ⟨14, d, x, y, (1 : Int), sym⟩ s)) := by
  obtain ⟨W, hW⟩ : ∃ W : World, w.alloc (.cells #[.int .u8 14, .int .i64 d, .int .i64 x, .int .i64 y, .int .i64 (1 : Int), .string sym] 60) = W := ⟨_, rfl⟩
  have hB : Below w.heap.size w W := by rw [← hW]; exact (Below.refl _ _).alloc (Nat.le_refl _) _
  have hWs : W.heap.size = w.heap.size + 1 := by rw [← hW]; simp
  have HR := Lib.hid (h.keep hB)
  have HF := Lib.hid (Frame.of_below (g := g) (ov := ov) hB)
  have i0 : W.cell? ⟨w.heap.size, 0, none⟩ = some (.int .u8 14) := by rw [← hW]; simp
  have i1 : W.cell? ⟨w.heap.size, 1, none⟩ = some (.int .i64 d) := by rw [← hW]; simp
  have i2 : W.cell? ⟨w.heap.size, 2, none⟩ = some (.int .i64 x) := by rw [← hW]; simp
  have i3 : W.cell? ⟨w.heap.size, 3, none⟩ = some (.int .i64 y) := by rw [← hW]; simp
  have i4 : W.cell? ⟨w.heap.size, 4, none⟩ = some (.int .i64 (1 : Int)) := by rw [← hW]; simp
  have i5 : W.cell? ⟨w.heap.size, 5, none⟩ = some (.string sym) := by rw [← hW]; simp
  have r0 : W.cell? ⟨g.rb, 0, none⟩ = some (.slice (some ⟨g.rg, 0, none⟩) s.regs.length s.regs.length) := HR.out.cell 0
  have r2 : W.cell? ⟨g.rb, 2, none⟩ = some (.int .i32 (s.cnt.getD 1 0)) := HR.out.cell 2
  have z2 : W.frozen? ⟨g.rb, 2, none⟩ = false := frozen_heap HR.out.run 2
  have cw := (HR.out.wf.cnts _ (cnt_mem HR.out.wf 1 (by omega)))
  have cw0 := cw.1
  have cw1 := cw.2
  have CW := Lib.hid cw
  clear cw
  clear h hB
  unfold Ins.val
  go_enter Try.func55, Try.ntmps55
  go_wp2_with fail
  clear hW
  go_region
  go_wp2_with fail
  go_ret
  exact StepOk.ok step_14 (HR.out.setCount (k := 1) (by omega) (Wd.W_wrap _) rfl) (HF.out.trans (Frame.setCell g.rb _ _ (.inl rfl))) rfl rfl rfl rfl

theorem instr_14_2 (N : Nat) (g : Geo) (names : List ByteArray) (inp : List Int) (d : Int) (x : Int) (y : Int) (sym : ByteArray) (w : World) (ov : Value) (s : St) (h : RunAt N g names w ov s)   :
    Calls Try.prog 55 #[.pointer (some ⟨g.rb, 0, none⟩), Ins.val ⟨14, d, x, y, (2 : Int), sym⟩] w (StepOk N g names ov s w (step names inp ⟨14, d, x, y, (2 : Int), sym⟩ s)) := by
  obtain ⟨W, hW⟩ : ∃ W : World, w.alloc (.cells #[.int .u8 14, .int .i64 d, .int .i64 x, .int .i64 y, .int .i64 (2 : Int), .string sym] 60) = W := ⟨_, rfl⟩
  have hB : Below w.heap.size w W := by rw [← hW]; exact (Below.refl _ _).alloc (Nat.le_refl _) _
  have hWs : W.heap.size = w.heap.size + 1 := by rw [← hW]; simp
  have HR := Lib.hid (h.keep hB)
  have HF := Lib.hid (Frame.of_below (g := g) (ov := ov) hB)
  have i0 : W.cell? ⟨w.heap.size, 0, none⟩ = some (.int .u8 14) := by rw [← hW]; simp
  have i1 : W.cell? ⟨w.heap.size, 1, none⟩ = some (.int .i64 d) := by rw [← hW]; simp
  have i2 : W.cell? ⟨w.heap.size, 2, none⟩ = some (.int .i64 x) := by rw [← hW]; simp
  have i3 : W.cell? ⟨w.heap.size, 3, none⟩ = some (.int .i64 y) := by rw [← hW]; simp
  have i4 : W.cell? ⟨w.heap.size, 4, none⟩ = some (.int .i64 (2 : Int)) := by rw [← hW]; simp
  have i5 : W.cell? ⟨w.heap.size, 5, none⟩ = some (.string sym) := by rw [← hW]; simp
  have r0 : W.cell? ⟨g.rb, 0, none⟩ = some (.slice (some ⟨g.rg, 0, none⟩) s.regs.length s.regs.length) := HR.out.cell 0
  have r3 : W.cell? ⟨g.rb, 3, none⟩ = some (.int .i32 (s.cnt.getD 2 0)) := HR.out.cell 3
  have z3 : W.frozen? ⟨g.rb, 3, none⟩ = false := frozen_heap HR.out.run 3
  have cw := (HR.out.wf.cnts _ (cnt_mem HR.out.wf 2 (by omega)))
  have cw0 := cw.1
  have cw1 := cw.2
  have CW := Lib.hid cw
  clear cw
  clear h hB
  unfold Ins.val
  go_enter Try.func55, Try.ntmps55
  go_wp2_with fail
  clear hW
  go_region
  go_wp2_with fail
  go_ret
  exact StepOk.ok step_14 (HR.out.setCount (k := 2) (by omega) (Wd.W_wrap _) rfl) (HF.out.trans (Frame.setCell g.rb _ _ (.inl rfl))) rfl rfl rfl rfl

theorem instr_14_3 (N : Nat) (g : Geo) (names : List ByteArray) (inp : List Int) (d : Int) (x : Int) (y : Int) (sym : ByteArray) (w : World) (ov : Value) (s : St) (h : RunAt N g names w ov s)   :
    Calls Try.prog 55 #[.pointer (some ⟨g.rb, 0, none⟩), Ins.val ⟨14, d, x, y, (3 : Int), sym⟩] w (StepOk N g names ov s w (step names inp ⟨14, d, x, y, (3 : Int), sym⟩ s)) := by
  obtain ⟨W, hW⟩ : ∃ W : World, w.alloc (.cells #[.int .u8 14, .int .i64 d, .int .i64 x, .int .i64 y, .int .i64 (3 : Int), .string sym] 60) = W := ⟨_, rfl⟩
  have hB : Below w.heap.size w W := by rw [← hW]; exact (Below.refl _ _).alloc (Nat.le_refl _) _
  have hWs : W.heap.size = w.heap.size + 1 := by rw [← hW]; simp
  have HR := Lib.hid (h.keep hB)
  have HF := Lib.hid (Frame.of_below (g := g) (ov := ov) hB)
  have i0 : W.cell? ⟨w.heap.size, 0, none⟩ = some (.int .u8 14) := by rw [← hW]; simp
  have i1 : W.cell? ⟨w.heap.size, 1, none⟩ = some (.int .i64 d) := by rw [← hW]; simp
  have i2 : W.cell? ⟨w.heap.size, 2, none⟩ = some (.int .i64 x) := by rw [← hW]; simp
  have i3 : W.cell? ⟨w.heap.size, 3, none⟩ = some (.int .i64 y) := by rw [← hW]; simp
  have i4 : W.cell? ⟨w.heap.size, 4, none⟩ = some (.int .i64 (3 : Int)) := by rw [← hW]; simp
  have i5 : W.cell? ⟨w.heap.size, 5, none⟩ = some (.string sym) := by rw [← hW]; simp
  have r0 : W.cell? ⟨g.rb, 0, none⟩ = some (.slice (some ⟨g.rg, 0, none⟩) s.regs.length s.regs.length) := HR.out.cell 0
  have r4 : W.cell? ⟨g.rb, 4, none⟩ = some (.int .i32 (s.cnt.getD 3 0)) := HR.out.cell 4
  have z4 : W.frozen? ⟨g.rb, 4, none⟩ = false := frozen_heap HR.out.run 4
  have cw := (HR.out.wf.cnts _ (cnt_mem HR.out.wf 3 (by omega)))
  have cw0 := cw.1
  have cw1 := cw.2
  have CW := Lib.hid cw
  clear cw
  clear h hB
  unfold Ins.val
  go_enter Try.func55, Try.ntmps55
  go_wp2_with fail
  clear hW
  go_region
  go_wp2_with fail
  go_ret
  exact StepOk.ok step_14 (HR.out.setCount (k := 3) (by omega) (Wd.W_wrap _) rfl) (HF.out.trans (Frame.setCell g.rb _ _ (.inl rfl))) rfl rfl rfl rfl


end Go.Proofs.Ytjdfcpjlmfaaaaa

/-
  Contract: instruction (package ir: runner), operation by operation.
-/
namespace Go.Proofs.Ytjdfcpjlmfaaaaa
set_option linter.unusedVariables false
set_option linter.unusedSimpArgs false
open Go.RowKit
set_option maxRecDepth 100000
set_option maxHeartbeats 4000000
theorem instr_15_0 (N : Nat) (g : Geo) (names : List ByteArray) (inp : List Int) (d : Nat) (x : Int) (y : Int) (sym : ByteArray) (w : World) (ov : Value) (s : St) (h : RunAt N g names w ov s) (hd : d < s.regs.length)  :
    Calls Try.prog 55 #[.pointer (some ⟨g.rb, 0, none⟩), Ins.val ⟨15, ((d : Nat) : Int), x, y, (0 : Int), sym⟩] w (StepOk N g names ov s w (step names inp ⟨15, ((d : Nat) : Int), x, y, (0 : Int), sym⟩ s)) := by
  obtain ⟨W, hW⟩ : ∃ W : World, w.alloc (.cells #[.int .u8 15, .int .i64 ((d : Nat) : Int), .int .i64 x, .int .i64 y, .int .i64 (0 : Int), .string sym] 60) = W := ⟨_, rfl⟩
  have hB : Below w.heap.size w W := by rw [← hW]; exact (Below.refl _ _).alloc (Nat.le_refl _) _
  have hWs : W.heap.size = w.heap.size + 1 := by rw [← hW]; simp
  have HR := Lib.hid (h.keep hB)
  have HF := Lib.hid (Frame.of_below (g := g) (ov := ov) hB)
  have i0 : W.cell? ⟨w.heap.size, 0, none⟩ = some (.int .u8 15) := by rw [← hW]; simp
  have i1 : W.cell? ⟨w.heap.size, 1, none⟩ = some (.int .i64 ((d : Nat) : Int)) := by rw [← hW]; simp
  have i2 : W.cell? ⟨w.heap.size, 2, none⟩ = some (.int .i64 x) := by rw [← hW]; simp
  have i3 : W.cell? ⟨w.heap.size, 3, none⟩ = some (.int .i64 y) := by rw [← hW]; simp
  have i4 : W.cell? ⟨w.heap.size, 4, none⟩ = some (.int .i64 (0 : Int)) := by rw [← hW]; simp
  have i5 : W.cell? ⟨w.heap.size, 5, none⟩ = some (.string sym) := by rw [← hW]; simp
  have r0 : W.cell? ⟨g.rb, 0, none⟩ = some (.slice (some ⟨g.rg, 0, none⟩) s.regs.length s.regs.length) := HR.out.cell 0
  have r1 : W.cell? ⟨g.rb, 1, none⟩ = some (.int .i32 (s.cnt.getD 0 0)) := HR.out.cell 1
  have z1 : W.frozen? ⟨g.rb, 1, none⟩ = false := frozen_heap HR.out.run 1
  have vd := HR.out.reg hd
  have zd : W.frozen? ⟨g.rg, d, none⟩ = false := frozen_heap HR.out.regs d
  have d0 : (0 : Int) ≤ (d : Int) := by omega
  have d1 : (d : Int) < (s.regs.length : Int) := by omega
  have wd := HR.out.regw hd
  have d2 := wd.1
  have d3 := wd.2
  have Kd := Lib.hid wd
  clear wd
  have cw := (HR.out.wf.cnts _ (cnt_mem HR.out.wf 0 (by omega)))
  have cw0 := cw.1
  have cw1 := cw.2
  have CW := Lib.hid cw
  clear cw
  clear h hB
  unfold Ins.val
  go_enter Try.func55, Try.ntmps55
  go_wp2_with fail
  clear hW
  go_region
  go_wp2_with fail
  go_ret
  exact StepOk.ok step_15 (HR.out.setReg (k := d) CW.out) (HF.out.trans (Frame.setCell g.rg d _ (.inr (.inl rfl)))) rfl rfl rfl rfl

theorem instr_15_1 (N : Nat) (g : Geo) (names : List ByteArray) (inp : List Int) (d : Nat) (x : Int) (y : Int) (sym : ByteArray) (w : World) (ov : Value) (s : St) (h : RunAt N g names w ov s) (hd : d < s.regs.length)  :
    Calls Try.prog 55 #[.pointer (some ⟨g.rb, 0, none⟩), Ins.val ⟨15, ((d : Nat) : Int), x, y, (1 : Int), sym⟩] w (StepOk N g names ov s w (step names inp ⟨15, ((d : Nat) : Int), x, y, (1 : Int), sym⟩ s)) := by
  obtain ⟨W, hW⟩ : ∃ W : World, w.alloc (.cells #[.int .u8 15, .int .i64 ((d : Nat) : Int), .int .i64 x, .int .i64 y, .int .i64 (1 : Int), .string sym] 60) = W := ⟨_, rfl⟩
  have hB : Below w.heap.size w W := by rw [← hW]; exact (Below.refl _ _).alloc (Nat.le_refl _) _
  have hWs : W.heap.size = w.heap.size + 1 := by rw [← hW]; simp
  have HR := Lib.hid (h.keep hB)
  have HF := Lib.hid (Frame.of_below (g := g) (ov := ov) hB)
  have i0 : W.cell? ⟨w.heap.size, 0, none⟩ = some (.int .u8 15) := by rw [← hW]; simp
  have i1 : W.cell? ⟨w.heap.size, 1, none⟩ = some (.int .i64 ((d : Nat) : Int)) := by rw [← hW]; simp
  have i2 : W.cell? ⟨w.heap.size, 2, none⟩ = some (.int .i64 x) := by rw [← hW]; simp
  have i3 : W.cell? ⟨w.heap.size, 3, none⟩ = some (.int .i64 y) := by rw [← hW]; simp
  have i4 : W.cell? ⟨w.heap.size, 4, none⟩ = some (.int .i64 (1 : Int)) := by rw [← hW]; simp
  have i5 : W.cell? ⟨w.heap.size, 5, none⟩ = some (.string sym) := by rw [← hW]; simp
  have r0 : W.cell? ⟨g.rb, 0, none⟩ = some (.slice (some ⟨g.rg, 0, none⟩) s.regs.length s.regs.length) := HR.out.cell 0
  have r2 : W.cell? ⟨g.rb, 2, none⟩ = some (.int .i32 (s.cnt.getD 1 0)) := HR.out.cell 2
  have z2 : W.frozen? ⟨g.rb, 2, none⟩ = false := frozen_heap HR.out.run 2
  have vd := HR.out.reg hd
  have zd : W.frozen? ⟨g.rg, d, none⟩ = false := frozen_heap HR.out.regs d
  have d0 : (0 : Int) ≤ (d : Int) := by omega
  have d1 : (d : Int) < (s.regs.length : Int) := by omega
  have wd := HR.out.regw hd
  have d2 := wd.1
  have d3 := wd.2
  have Kd := Lib.hid wd
  clear wd
  have cw := (HR.out.wf.cnts _ (cnt_mem HR.out.wf 1 (by omega)))
  have cw0 := cw.1
  have cw1 := cw.2
  have CW := Lib.hid cw
  clear cw
  clear h hB
  unfold Ins.val
  go_enter Try.func55, Try.ntmps55
  go_wp2_with fail
  clear hW
  go_region
  go_wp2_with fail
  go_ret
  exact StepOk.ok step_15 (HR.out.setReg (k := d) CW.out) (HF.out.trans (Frame.setCell g.rg d _ (.inr (.inl rfl)))) rfl rfl rfl rfl

theorem instr_15_2 (N : Nat) (g : Geo) (names : List ByteArray) (inp : List Int) (d : Nat) (x : Int) (y : Int) (sym : ByteArray) (w : World) (ov : Value) (s : St) (h : RunAt N g names w ov s) (hd : d < s.regs.length)  :
    Calls Try.prog 55 #[.pointer (some ⟨g.rb, 0, none⟩), Ins.val ⟨15, ((d : Nat) : Int), x, y, (2 : Int), sym⟩] w (StepOk N g names ov s w (step names inp ⟨15, ((d : Nat) : Int), x, y, (2 : Int), sym⟩ s)) := by
  obtain ⟨W, hW⟩ : ∃ W : World, w.alloc (.cells #[.int .u8 15, .int .i64 ((d : Nat) : Int), .int .i64 x, .int .i64 y, .int .i64 (2 : Int), .string sym] 60) = W := ⟨_, rfl⟩
  have hB : Below w.heap.size w W := by rw [← hW]; exact (Below.refl _ _).alloc (Nat.le_refl _) _
  have hWs : W.heap.size = w.heap.size + 1 := by rw [← hW]; simp
  have HR := Lib.hid (h.keep hB)
  have HF := Lib.hid (Frame.of_below (g := g) (ov := ov) hB)
  have i0 : W.cell? ⟨w.heap.size, 0, none⟩ = some (.int .u8 15) := by rw [← hW]; simp
  have i1 : W.cell? ⟨w.heap.size, 1, none⟩ = some (.int .i64 ((d : Nat) : Int)) := by rw [← hW]; simp
  have i2 : W.cell? ⟨w.heap.size, 2, none⟩ = some (.int .i64 x) := by rw [← hW]; simp
  have i3 : W.cell? ⟨w.heap.size, 3, none⟩ = some (.int .i64 y) := by rw [← hW]; simp
  have i4 : W.cell? ⟨w.heap.size, 4, none⟩ = some (.int .i64 (2 : Int)) := by rw [← hW]; simp
  have i5 : W.cell? ⟨w.heap.size, 5, none⟩ = some (.string sym) := by rw [← hW]; simp
  have r0 : W.cell? ⟨g.rb, 0, none⟩ = some (.slice (some ⟨g.rg, 0, none⟩) s.regs.length s.regs.length) := HR.out.cell 0
  have r3 : W.cell? ⟨g.rb, 3, none⟩ = some (.int .i32 (s.cnt.getD 2 0)) := HR.out.cell 3
  have z3 : W.frozen? ⟨g.rb, 3, none⟩ = false := frozen_heap HR.out.run 3
  have vd := HR.out.reg hd
  have zd : W.frozen? ⟨g.rg, d, none⟩ = false := frozen_heap HR.out.regs d
  have d0 : (0 : Int) ≤ (d : Int) := by omega
  have d1 : (d : Int) < (s.regs.length : Int) := by omega
  have wd := HR.out.regw hd
  have d2 := wd.1
  have d3 := wd.2
  have Kd := Lib.hid wd
  clear wd
  have cw := (HR.out.wf.cnts _ (cnt_mem HR.out.wf 2 (by omega)))
  have cw0 := cw.1
  have cw1 := cw.2
  have CW := Lib.hid cw
  clear cw
  clear h hB
  unfold Ins.val
  go_enter Try.func55, Try.ntmps55
  go_wp2_with fail
  clear hW
  go_region
  go_wp2_with fail
  go_ret
  exact StepOk.ok step_15 (HR.out.setReg (k := d) CW.out) (HF.out.trans (Frame.setCell g.rg d _ (.inr (.inl rfl)))) rfl rfl rfl rfl

theorem instr_15_3 (N : Nat) (g : Geo) (names : List ByteArray) (inp : List Int) (d : Nat) (x : Int) (y : Int) (sym : ByteArray) (w : World) (ov : Value) (s : St) (h : RunAt N g names w ov s) (hd : d < s.regs.length)  :
    Calls Try.prog 55 #[.pointer (some ⟨g.rb, 0, none⟩), Ins.val ⟨15, ((d : Nat) : Int), x, y, (3 : Int), sym⟩] w (StepOk N g names ov s w (step names inp ⟨15, ((d : Nat) : Int), x, y, (3 : Int), sym⟩ s)) := by
  obtain ⟨W, hW⟩ : ∃ W : World, w.alloc (.cells #[.int .u8 15, .int .i64 ((d : Nat) : Int), .int .i64 x, .int .i64 y, .int .i64 (3 : Int), .string sym] 60) = W := ⟨_, rfl⟩
  have hB : Below w.heap.size w W := by rw [← hW]; exact (Below.refl _ _).alloc (Nat.le_refl _) _
  have hWs : W.heap.size = w.heap.size + 1 := by rw [← hW]; simp
  have HR := Lib.hid (h.keep hB)
  have HF := Lib.hid (Frame.of_below (g := g) (ov := ov) hB)
  have i0 : W.cell? ⟨w.heap.size, 0, none⟩ = some (.int .u8 15) := by rw [← hW]; simp
  have i1 : W.cell? ⟨w.heap.size, 1, none⟩ = some (.int .i64 ((d : Nat) : Int)) := by rw [← hW]; simp
  have i2 : W.cell? ⟨w.heap.size, 2, none⟩ = some (.int .i64 x) := by rw [← hW]; simp
  have i3 : W.cell? ⟨w.heap.size, 3, none⟩ = some (.int .i64 y) := by rw [← hW]; simp
  have i4 : W.cell? ⟨w.heap.size, 4, none⟩ = some (.int .i64 (3 : Int)) := by rw [← hW]; simp
  have i5 : W.cell? ⟨w.heap.size, 5, none⟩ = some (.string sym) := by rw [← hW]; simp
  have r0 : W.cell? ⟨g.rb, 0, none⟩ = some (.slice (some ⟨g.rg, 0, none⟩) s.regs.length s.regs.length) := HR.out.cell 0
  have r4 : W.cell? ⟨g.rb, 4, none⟩ = some (.int .i32 (s.cnt.getD 3 0)) := HR.out.cell 4
  have z4 : W.frozen? ⟨g.rb, 4, none⟩ = false := frozen_heap HR.out.run 4
  have vd := HR.out.reg hd
  have zd : W.frozen? ⟨g.rg, d, none⟩ = false := frozen_heap HR.out.regs d
  have d0 : (0 : Int) ≤ (d : Int) := by omega
  have d1 : (d : Int) < (s.regs.length : Int) := by omega
  have wd := HR.out.regw hd
  have d2 := wd.1
  have d3 := wd.2
  have Kd := Lib.hid wd
  clear wd
  have cw := (HR.out.wf.cnts _ (cnt_mem HR.out.wf 3 (by omega)))
  have cw0 := cw.1
  have cw1 := cw.2
  have CW := Lib.hid cw
  clear cw
  clear h hB
  unfold Ins.val
  go_enter Try.func55, Try.ntmps55
  go_wp2_with fail
  clear hW
  go_region
  go_wp2_with fail
  go_ret
  exact StepOk.ok step_15 (HR.out.setReg (k := d) CW.out) (HF.out.trans (Frame.setCell g.rg d _ (.inr (.inl rfl)))) rfl rfl rfl rfl


end Go.Proofs.Ytjdfcpjlmfaaaaa

/-
  Contract: instruction (package ir: runner), operation by operation.
-/
namespace Go.Proofs.Ytjdfcpjlmfaaaaa
set_option linter.unusedVariables false
set_option linter.unusedSimpArgs false
open Go.RowKit
set_option maxRecDepth 100000
set_option maxHeartbeats 4000000
theorem instr_11t (N : Nat) (g : Geo) (names : List ByteArray) (inp : List Int) (d : Int) (x : Int) (y : Int) (imm : Int) (sym : ByteArray) (w : World) (ov : Value) (s : St) (h : RunAt N g names w ov s)  (hs : sym.size ≤ 9223372036854775807) (hl : s.locked = true) :
    Calls Try.prog 55 #[.pointer (some ⟨g.rb, 0, none⟩), Ins.val ⟨11, d, x, y, imm, sym⟩] w (StepOk N g names ov s w (step names inp ⟨11, d, x, y, imm, sym⟩ s)) := by
  obtain ⟨W, hW⟩ : ∃ W : World, w.alloc (.cells #[.int .u8 11, .int .i64 d, .int .i64 x, .int .i64 y, .int .i64 imm, .string sym] 60) = W := ⟨_, rfl⟩
  have hB : Below w.heap.size w W := by rw [← hW]; exact (Below.refl _ _).alloc (Nat.le_refl _) _
  have hWs : W.heap.size = w.heap.size + 1 := by rw [← hW]; simp
  have HR := Lib.hid (h.keep hB)
  have HF := Lib.hid (Frame.of_below (g := g) (ov := ov) hB)
  have i0 : W.cell? ⟨w.heap.size, 0, none⟩ = some (.int .u8 11) := by rw [← hW]; simp
  have i1 : W.cell? ⟨w.heap.size, 1, none⟩ = some (.int .i64 d) := by rw [← hW]; simp
  have i2 : W.cell? ⟨w.heap.size, 2, none⟩ = some (.int .i64 x) := by rw [← hW]; simp
  have i3 : W.cell? ⟨w.heap.size, 3, none⟩ = some (.int .i64 y) := by rw [← hW]; simp
  have i4 : W.cell? ⟨w.heap.size, 4, none⟩ = some (.int .i64 imm) := by rw [← hW]; simp
  have i5 : W.cell? ⟨w.heap.size, 5, none⟩ = some (.string sym) := by rw [← hW]; simp
  have r0 : W.cell? ⟨g.rb, 0, none⟩ = some (.slice (some ⟨g.rg, 0, none⟩) s.regs.length s.regs.length) := HR.out.cell 0
  have r6 : W.cell? ⟨g.rb, 6, none⟩ = some (.bool s.locked) := HR.out.cell 6
  have z6 : W.frozen? ⟨g.rb, 6, none⟩ = false := frozen_heap HR.out.run 6
  have r7 : W.cell? ⟨g.rb, 7, none⟩ = some (.string s.held) := HR.out.cell 7
  have z7 : W.frozen? ⟨g.rb, 7, none⟩ = false := frozen_heap HR.out.run 7
  rw [hl] at r6
  clear h hB
  unfold Ins.val
  go_enter Try.func55, Try.ntmps55
  go_wp2_with fail
  clear hW
  go_ret
  exact StepOk.trap (by rw [step_11, if_pos hl]) HR.out HF.out rfl rfl rfl rfl

theorem instr_11f (N : Nat) (g : Geo) (names : List ByteArray) (inp : List Int) (d : Int) (x : Int) (y : Int) (imm : Int) (sym : ByteArray) (w : World) (ov : Value) (s : St) (h : RunAt N g names w ov s)  (hs : sym.size ≤ 9223372036854775807) (hl : s.locked = false) :
    Calls Try.prog 55 #[.pointer (some ⟨g.rb, 0, none⟩), Ins.val ⟨11, d, x, y, imm, sym⟩] w (StepOk N g names ov s w (step names inp ⟨11, d, x, y, imm, sym⟩ s)) := by
  obtain ⟨W, hW⟩ : ∃ W : World, w.alloc (.cells #[.int .u8 11, .int .i64 d, .int .i64 x, .int .i64 y, .int .i64 imm, .string sym] 60) = W := ⟨_, rfl⟩
  have hB : Below w.heap.size w W := by rw [← hW]; exact (Below.refl _ _).alloc (Nat.le_refl _) _
  have hWs : W.heap.size = w.heap.size + 1 := by rw [← hW]; simp
  have HR := Lib.hid (h.keep hB)
  have HF := Lib.hid (Frame.of_below (g := g) (ov := ov) hB)
  have i0 : W.cell? ⟨w.heap.size, 0, none⟩ = some (.int .u8 11) := by rw [← hW]; simp
  have i1 : W.cell? ⟨w.heap.size, 1, none⟩ = some (.int .i64 d) := by rw [← hW]; simp
  have i2 : W.cell? ⟨w.heap.size, 2, none⟩ = some (.int .i64 x) := by rw [← hW]; simp
  have i3 : W.cell? ⟨w.heap.size, 3, none⟩ = some (.int .i64 y) := by rw [← hW]; simp
  have i4 : W.cell? ⟨w.heap.size, 4, none⟩ = some (.int .i64 imm) := by rw [← hW]; simp
  have i5 : W.cell? ⟨w.heap.size, 5, none⟩ = some (.string sym) := by rw [← hW]; simp
  have r0 : W.cell? ⟨g.rb, 0, none⟩ = some (.slice (some ⟨g.rg, 0, none⟩) s.regs.length s.regs.length) := HR.out.cell 0
  have r6 : W.cell? ⟨g.rb, 6, none⟩ = some (.bool s.locked) := HR.out.cell 6
  have z6 : W.frozen? ⟨g.rb, 6, none⟩ = false := frozen_heap HR.out.run 6
  have r7 : W.cell? ⟨g.rb, 7, none⟩ = some (.string s.held) := HR.out.cell 7
  have z7 : W.frozen? ⟨g.rb, 7, none⟩ = false := frozen_heap HR.out.run 7
  rw [hl] at r6
  clear h hB
  unfold Ins.val
  go_enter Try.func55, Try.ntmps55
  go_wp2_with fail
  clear hW
  go_region
  all_goals
    go_wp2_with fail
    go_ret
    first
      | exact StepOk.ok (by rw [step_11, if_neg (by rw [hl]; simp)]) ((HR.out.setLocked true).setHeld sym hs) ((HF.out.trans (Frame.setCell g.rb _ _ (.inl rfl))).trans (Frame.setCell g.rb _ _ (.inl rfl))) rfl rfl rfl rfl
      | exact StepOk.ok (by rw [step_11, if_neg (by rw [hl]; simp)]) ((HR.out.setHeld sym hs).setLocked true) ((HF.out.trans (Frame.setCell g.rb _ _ (.inl rfl))).trans (Frame.setCell g.rb _ _ (.inl rfl))) rfl rfl rfl rfl

theorem instr_12 (N : Nat) (g : Geo) (names : List ByteArray) (inp : List Int) (d : Int) (x : Int) (y : Int) (imm : Int) (sym : ByteArray) (w : World) (ov : Value) (s : St) (h : RunAt N g names w ov s)   :
    Calls Try.prog 55 #[.pointer (some ⟨g.rb, 0, none⟩), Ins.val ⟨12, d, x, y, imm, sym⟩] w (StepOk N g names ov s w (step names inp ⟨12, d, x, y, imm, sym⟩ s)) := by
  obtain ⟨W, hW⟩ : ∃ W : World, w.alloc (.cells #[.int .u8 12, .int .i64 d, .int .i64 x, .int .i64 y, .int .i64 imm, .string sym] 60) = W := ⟨_, rfl⟩
  have hB : Below w.heap.size w W := by rw [← hW]; exact (Below.refl _ _).alloc (Nat.le_refl _) _
  have hWs : W.heap.size = w.heap.size + 1 := by rw [← hW]; simp
  have HR := Lib.hid (h.keep hB)
  have HF := Lib.hid (Frame.of_below (g := g) (ov := ov) hB)
  have i0 : W.cell? ⟨w.heap.size, 0, none⟩ = some (.int .u8 12) := by rw [← hW]; simp
  have i1 : W.cell? ⟨w.heap.size, 1, none⟩ = some (.int .i64 d) := by rw [← hW]; simp
  have i2 : W.cell? ⟨w.heap.size, 2, none⟩ = some (.int .i64 x) := by rw [← hW]; simp
  have i3 : W.cell? ⟨w.heap.size, 3, none⟩ = some (.int .i64 y) := by rw [← hW]; simp
  have i4 : W.cell? ⟨w.heap.size, 4, none⟩ = some (.int .i64 imm) := by rw [← hW]; simp
  have i5 : W.cell? ⟨w.heap.size, 5, none⟩ = some (.string sym) := by rw [← hW]; simp
  have r0 : W.cell? ⟨g.rb, 0, none⟩ = some (.slice (some ⟨g.rg, 0, none⟩) s.regs.length s.regs.length) := HR.out.cell 0
  have r6 : W.cell? ⟨g.rb, 6, none⟩ = some (.bool s.locked) := HR.out.cell 6
  have z6 : W.frozen? ⟨g.rb, 6, none⟩ = false := frozen_heap HR.out.run 6
  have r7 : W.cell? ⟨g.rb, 7, none⟩ = some (.string s.held) := HR.out.cell 7
  have z7 : W.frozen? ⟨g.rb, 7, none⟩ = false := frozen_heap HR.out.run 7
  clear h hB
  unfold Ins.val
  go_enter Try.func55, Try.ntmps55
  go_wp2_with fail
  clear hW
  cases hl : s.locked with
  | false =>
    rw [hl] at r6
    go_quiet (fail)
    go_wp2_with fail
    go_ret
    exact StepOk.trap (by rw [step_12, if_pos (.inl hl)]) HR.out HF.out rfl rfl rfl rfl
  | true =>
    rw [hl] at r6
    by_cases hh : s.held = sym
    · have hh' : (s.held.toList == sym.toList) = true := by simp [hh]
      go_quiet (fail)
      generalize hV : World.drewN _ _ = V
      have HRV : Hid (RunAt N g names V ov s) := by show RunAt _ _ _ _ _ _; rw [← hV]; exact HR.out.same rfl
      have HFV : Hid (Frame g ov ov w V) := by show Frame _ _ _ _ _; rw [← hV]; exact ⟨HF.out.os, HF.out.tape, HF.out.output, HF.out.size, HF.out.block, HF.out.ovs⟩
      have q6 : V.cell? ⟨g.rb, 6, none⟩ = some (.bool s.locked) := HRV.out.cell 6
      have q7 : V.cell? ⟨g.rb, 7, none⟩ = some (.string s.held) := HRV.out.cell 7
      have y6 : V.frozen? ⟨g.rb, 6, none⟩ = false := frozen_heap HRV.out.run 6
      have y7 : V.frozen? ⟨g.rb, 7, none⟩ = false := frozen_heap HRV.out.run 7
      clear hV r0 r6 r7 z6 z7 i0 i1 i2 i3 i4 i5 hWs HR HF W
      go_wp2_with fail
      all_goals
        go_ret
        first
          | exact StepOk.ok (by rw [step_12, if_neg (by rw [hl]; simp [hh])]) ((HRV.out.setLocked false).setHeld ⟨#[]⟩ (by decide)) ((HFV.out.trans (Frame.setCell g.rb _ _ (.inl rfl))).trans (Frame.setCell g.rb _ _ (.inl rfl))) rfl rfl rfl rfl
          | exact StepOk.ok (by rw [step_12, if_neg (by rw [hl]; simp [hh])]) ((HRV.out.setHeld ⟨#[]⟩ (by decide)).setLocked false) ((HFV.out.trans (Frame.setCell g.rb _ _ (.inl rfl))).trans (Frame.setCell g.rb _ _ (.inl rfl))) rfl rfl rfl rfl
    · have hh' : (s.held.toList == sym.toList) = false := by simpa using bytes_ne hh
      go_quiet (fail)
      go_wp2_with fail
      go_ret
      exact StepOk.trap (by rw [step_12, if_pos (.inr hh)]) HR.out HF.out rfl rfl rfl rfl

end Go.Proofs.Ytjdfcpjlmfaaaaa

/-
  Contract: instruction (package ir: runner), operation by operation.
-/
namespace Go.Proofs.Ytjdfcpjlmfaaaaa
set_option linter.unusedVariables false
set_option linter.unusedSimpArgs false
open Go.RowKit
set_option maxRecDepth 100000
set_option maxHeartbeats 4000000
theorem instr_16_0 (N : Nat) (g : Geo) (names : List ByteArray) (inp : List Int) (d : Int) (y : Int) (imm : Int) (sym : ByteArray) (w : World) (ov : Value) (s : St) (h : RunAt N g names w ov s)   :
    Calls Try.prog 55 #[.pointer (some ⟨g.rb, 0, none⟩), Ins.val ⟨16, d, (0 : Int), y, imm, sym⟩] w (StepOk N g names ov s w (step names inp ⟨16, d, (0 : Int), y, imm, sym⟩ s)) := by
  obtain ⟨W, hW⟩ : ∃ W : World, w.alloc (.cells #[.int .u8 16, .int .i64 d, .int .i64 (0 : Int), .int .i64 y, .int .i64 imm, .string sym] 60) = W := ⟨_, rfl⟩
  have hB : Below w.heap.size w W := by rw [← hW]; exact (Below.refl _ _).alloc (Nat.le_refl _) _
  have hWs : W.heap.size = w.heap.size + 1 := by rw [← hW]; simp
  have HR := Lib.hid (h.keep hB)
  have HF := Lib.hid (Frame.of_below (g := g) (ov := ov) hB)
  have i0 : W.cell? ⟨w.heap.size, 0, none⟩ = some (.int .u8 16) := by rw [← hW]; simp
  have i1 : W.cell? ⟨w.heap.size, 1, none⟩ = some (.int .i64 d) := by rw [← hW]; simp
  have i2 : W.cell? ⟨w.heap.size, 2, none⟩ = some (.int .i64 (0 : Int)) := by rw [← hW]; simp
  have i3 : W.cell? ⟨w.heap.size, 3, none⟩ = some (.int .i64 y) := by rw [← hW]; simp
  have i4 : W.cell? ⟨w.heap.size, 4, none⟩ = some (.int .i64 imm) := by rw [← hW]; simp
  have i5 : W.cell? ⟨w.heap.size, 5, none⟩ = some (.string sym) := by rw [← hW]; simp
  have r0 : W.cell? ⟨g.rb, 0, none⟩ = some (.slice (some ⟨g.rg, 0, none⟩) s.regs.length s.regs.length) := HR.out.cell 0
  have r1 : W.cell? ⟨g.rb, 1, none⟩ = some (.int .i32 (s.cnt.getD 0 0)) := HR.out.cell 1
  have z1 : W.frozen? ⟨g.rb, 1, none⟩ = false := frozen_heap HR.out.run 1
  have cw := (HR.out.wf.cnts _ (cnt_mem HR.out.wf 0 (by omega)))
  have cw0 := cw.1
  have cw1 := cw.2
  have CW := Lib.hid cw
  clear cw
  clear h hB
  unfold Ins.val
  go_enter Try.func55, Try.ntmps55
  go_wp2_with fail
  clear hW
  have hs16 : step names inp ⟨16, d, (0 : Int), y, imm, sym⟩ s = if s.cnt.getD 0 0 < 0 ∨ imm ≤ s.cnt.getD 0 0 then .error 11 else .ok s := rfl
  generalize s.cnt.getD 0 0 = cv at *
  go_quiet (fail)
  by_cases hc : cv < 0 ∨ imm ≤ cv
  · have hc' : cv < 0 ∨ (decide (cv < 0) = false ∧ imm ≤ cv) := by
      by_cases q : cv < 0
      · exact .inl q
      · exact .inr ⟨by simpa using q, by omega⟩
    rcases hc' with q | ⟨q, q'⟩
    all_goals
      go_wp2_with fail
      go_ret
      exact StepOk.trap (hs16.trans (if_pos hc)) HR.out HF.out rfl rfl rfl rfl
  · have q : decide (cv < 0) = false := by simp; omega
    have q' : decide (imm ≤ cv) = false := by simp; omega
    go_wp2_with fail
    go_ret
    exact StepOk.ok (hs16.trans (if_neg hc)) HR.out HF.out rfl rfl rfl rfl

theorem instr_16_1 (N : Nat) (g : Geo) (names : List ByteArray) (inp : List Int) (d : Int) (y : Int) (imm : Int) (sym : ByteArray) (w : World) (ov : Value) (s : St) (h : RunAt N g names w ov s)   :
    Calls Try.prog 55 #[.pointer (some ⟨g.rb, 0, none⟩), Ins.val ⟨16, d, (1 : Int), y, imm, sym⟩] w (StepOk N g names ov s w (step names inp ⟨16, d, (1 : Int), y, imm, sym⟩ s)) := by
  obtain ⟨W, hW⟩ : ∃ W : World, w.alloc (.cells #[.int .u8 16, .int .i64 d, .int .i64 (1 : Int), .int .i64 y, .int .i64 imm, .string sym] 60) = W := ⟨_, rfl⟩
  have hB : Below w.heap.size w W := by rw [← hW]; exact (Below.refl _ _).alloc (Nat.le_refl _) _
  have hWs : W.heap.size = w.heap.size + 1 := by rw [← hW]; simp
  have HR := Lib.hid (h.keep hB)
  have HF := Lib.hid (Frame.of_below (g := g) (ov := ov) hB)
  have i0 : W.cell? ⟨w.heap.size, 0, none⟩ = some (.int .u8 16) := by rw [← hW]; simp
  have i1 : W.cell? ⟨w.heap.size, 1, none⟩ = some (.int .i64 d) := by rw [← hW]; simp
  have i2 : W.cell? ⟨w.heap.size, 2, none⟩ = some (.int .i64 (1 : Int)) := by rw [← hW]; simp
  have i3 : W.cell? ⟨w.heap.size, 3, none⟩ = some (.int .i64 y) := by rw [← hW]; simp
  have i4 : W.cell? ⟨w.heap.size, 4, none⟩ = some (.int .i64 imm) := by rw [← hW]; simp
  have i5 : W.cell? ⟨w.heap.size, 5, none⟩ = some (.string sym) := by rw [← hW]; simp
  have r0 : W.cell? ⟨g.rb, 0, none⟩ = some (.slice (some ⟨g.rg, 0, none⟩) s.regs.length s.regs.length) := HR.out.cell 0
  have r2 : W.cell? ⟨g.rb, 2, none⟩ = some (.int .i32 (s.cnt.getD 1 0)) := HR.out.cell 2
  have z2 : W.frozen? ⟨g.rb, 2, none⟩ = false := frozen_heap HR.out.run 2
  have cw := (HR.out.wf.cnts _ (cnt_mem HR.out.wf 1 (by omega)))
  have cw0 := cw.1
  have cw1 := cw.2
  have CW := Lib.hid cw
  clear cw
  clear h hB
  unfold Ins.val
  go_enter Try.func55, Try.ntmps55
  go_wp2_with fail
  clear hW
  have hs16 : step names inp ⟨16, d, (1 : Int), y, imm, sym⟩ s = if s.cnt.getD 1 0 < 0 ∨ imm ≤ s.cnt.getD 1 0 then .error 11 else .ok s := rfl
  generalize s.cnt.getD 1 0 = cv at *
  go_quiet (fail)
  by_cases hc : cv < 0 ∨ imm ≤ cv
  · have hc' : cv < 0 ∨ (decide (cv < 0) = false ∧ imm ≤ cv) := by
      by_cases q : cv < 0
      · exact .inl q
      · exact .inr ⟨by simpa using q, by omega⟩
    rcases hc' with q | ⟨q, q'⟩
    all_goals
      go_wp2_with fail
      go_ret
      exact StepOk.trap (hs16.trans (if_pos hc)) HR.out HF.out rfl rfl rfl rfl
  · have q : decide (cv < 0) = false := by simp; omega
    have q' : decide (imm ≤ cv) = false := by simp; omega
    go_wp2_with fail
    go_ret
    exact StepOk.ok (hs16.trans (if_neg hc)) HR.out HF.out rfl rfl rfl rfl

theorem instr_16_2 (N : Nat) (g : Geo) (names : List ByteArray) (inp : List Int) (d : Int) (y : Int) (imm : Int) (sym : ByteArray) (w : World) (ov : Value) (s : St) (h : RunAt N g names w ov s)   :
    Calls Try.prog 55 #[.pointer (some ⟨g.rb, 0, none⟩), Ins.val ⟨16, d, (2 : Int), y, imm, sym⟩] w (StepOk N g names ov s w (step names inp ⟨16, d, (2 : Int), y, imm, sym⟩ s)) := by
  obtain ⟨W, hW⟩ : ∃ W : World, w.alloc (.cells #[.int .u8 16, .int .i64 d, .int .i64 (2 : Int), .int .i64 y, .int .i64 imm, .string sym] 60) = W := ⟨_, rfl⟩
  have hB : Below w.heap.size w W := by rw [← hW]; exact (Below.refl _ _).alloc (Nat.le_refl _) _
  have hWs : W.heap.size = w.heap.size + 1 := by rw [← hW]; simp
  have HR := Lib.hid (h.keep hB)
  have HF := Lib.hid (Frame.of_below (g := g) (ov := ov) hB)
  have i0 : W.cell? ⟨w.heap.size, 0, none⟩ = some (.int .u8 16) := by rw [← hW]; simp
  have i1 : W.cell? ⟨w.heap.size, 1, none⟩ = some (.int .i64 d) := by rw [← hW]; simp
  have i2 : W.cell? ⟨w.heap.size, 2, none⟩ = some (.int .i64 (2 : Int)) := by rw [← hW]; simp
  have i3 : W.cell? ⟨w.heap.size, 3, none⟩ = some (.int .i64 y) := by rw [← hW]; simp
  have i4 : W.cell? ⟨w.heap.size, 4, none⟩ = some (.int .i64 imm) := by rw [← hW]; simp
  have i5 : W.cell? ⟨w.heap.size, 5, none⟩ = some (.string sym) := by rw [← hW]; simp
  have r0 : W.cell? ⟨g.rb, 0, none⟩ = some (.slice (some ⟨g.rg, 0, none⟩) s.regs.length s.regs.length) := HR.out.cell 0
  have r3 : W.cell? ⟨g.rb, 3, none⟩ = some (.int .i32 (s.cnt.getD 2 0)) := HR.out.cell 3
  have z3 : W.frozen? ⟨g.rb, 3, none⟩ = false := frozen_heap HR.out.run 3
  have cw := (HR.out.wf.cnts _ (cnt_mem HR.out.wf 2 (by omega)))
  have cw0 := cw.1
  have cw1 := cw.2
  have CW := Lib.hid cw
  clear cw
  clear h hB
  unfold Ins.val
  go_enter Try.func55, Try.ntmps55
  go_wp2_with fail
  clear hW
  have hs16 : step names inp ⟨16, d, (2 : Int), y, imm, sym⟩ s = if s.cnt.getD 2 0 < 0 ∨ imm ≤ s.cnt.getD 2 0 then .error 11 else .ok s := rfl
  generalize s.cnt.getD 2 0 = cv at *
  go_quiet (fail)
  by_cases hc : cv < 0 ∨ imm ≤ cv
  · have hc' : cv < 0 ∨ (decide (cv < 0) = false ∧ imm ≤ cv) := by
      by_cases q : cv < 0
      · exact .inl q
      · exact .inr ⟨by simpa using q, by omega⟩
    rcases hc' with q | ⟨q, q'⟩
    all_goals
      go_wp2_with fail
      go_ret
      exact StepOk.trap (hs16.trans (if_pos hc)) HR.out HF.out rfl rfl rfl rfl
  · have q : decide (cv < 0) = false := by simp; omega
    have q' : decide (imm ≤ cv) = false := by simp; omega
    go_wp2_with fail
    go_ret
    exact StepOk.ok (hs16.trans (if_neg hc)) HR.out HF.out rfl rfl rfl rfl

theorem instr_16_3 (N : Nat) (g : Geo) (names : List ByteArray) (inp : List Int) (d : Int) (y : Int) (imm : Int) (sym : ByteArray) (w : World) (ov : Value) (s : St) (h : RunAt N g names w ov s)   :
    Calls Try.prog 55 #[.pointer (some ⟨g.rb, 0, none⟩), Ins.val ⟨16, d, (3 : Int), y, imm, sym⟩] w (StepOk N g names ov s w (step names inp ⟨16, d, (3 : Int), y, imm, sym⟩ s)) := by
  obtain ⟨W, hW⟩ : ∃ W : World, w.alloc (.cells #[.int .u8 16, .int .i64 d, .int .i64 (3 : Int), .int .i64 y, .int .i64 imm, .string sym] 60) = W := ⟨_, rfl⟩
  have hB : Below w.heap.size w W := by rw [← hW]; exact (Below.refl _ _).alloc (Nat.le_refl _) _
  have hWs : W.heap.size = w.heap.size + 1 := by rw [← hW]; simp
  have HR := Lib.hid (h.keep hB)
  have HF := Lib.hid (Frame.of_below (g := g) (ov := ov) hB)
  have i0 : W.cell? ⟨w.heap.size, 0, none⟩ = some (.int .u8 16) := by rw [← hW]; simp
  have i1 : W.cell? ⟨w.heap.size, 1, none⟩ = some (.int .i64 d) := by rw [← hW]; simp
  have i2 : W.cell? ⟨w.heap.size, 2, none⟩ = some (.int .i64 (3 : Int)) := by rw [← hW]; simp
  have i3 : W.cell? ⟨w.heap.size, 3, none⟩ = some (.int .i64 y) := by rw [← hW]; simp
  have i4 : W.cell? ⟨w.heap.size, 4, none⟩ = some (.int .i64 imm) := by rw [← hW]; simp
  have i5 : W.cell? ⟨w.heap.size, 5, none⟩ = some (.string sym) := by rw [← hW]; simp
  have r0 : W.cell? ⟨g.rb, 0, none⟩ = some (.slice (some ⟨g.rg, 0, none⟩) s.regs.length s.regs.length) := HR.out.cell 0
  have r4 : W.cell? ⟨g.rb, 4, none⟩ = some (.int .i32 (s.cnt.getD 3 0)) := HR.out.cell 4
  have z4 : W.frozen? ⟨g.rb, 4, none⟩ = false := frozen_heap HR.out.run 4
  have cw := (HR.out.wf.cnts _ (cnt_mem HR.out.wf 3 (by omega)))
  have cw0 := cw.1
  have cw1 := cw.2
  have CW := Lib.hid cw
  clear cw
  clear h hB
  unfold Ins.val
  go_enter Try.func55, Try.ntmps55
  go_wp2_with fail
  clear hW
  have hs16 : step names inp ⟨16, d, (3 : Int), y, imm, sym⟩ s = if s.cnt.getD 3 0 < 0 ∨ imm ≤ s.cnt.getD 3 0 then .error 11 else .ok s := rfl
  generalize s.cnt.getD 3 0 = cv at *
  go_quiet (fail)
  by_cases hc : cv < 0 ∨ imm ≤ cv
  · have hc' : cv < 0 ∨ (decide (cv < 0) = false ∧ imm ≤ cv) := by
      by_cases q : cv < 0
      · exact .inl q
      · exact .inr ⟨by simpa using q, by omega⟩
    rcases hc' with q | ⟨q, q'⟩
    all_goals
      go_wp2_with fail
      go_ret
      exact StepOk.trap (hs16.trans (if_pos hc)) HR.out HF.out rfl rfl rfl rfl
  · have q : decide (cv < 0) = false := by simp; omega
    have q' : decide (imm ≤ cv) = false := by simp; omega
    go_wp2_with fail
    go_ret
    exact StepOk.ok (hs16.trans (if_neg hc)) HR.out HF.out rfl rfl rfl rfl


end Go.Proofs.Ytjdfcpjlmfaaaaa

/-
  Contract: instruction (package ir: runner), operation by operation.
-/
namespace Go.Proofs.Ytjdfcpjlmfaaaaa
set_option linter.unusedVariables false
set_option linter.unusedSimpArgs false
open Go.RowKit
set_option maxRecDepth 100000
set_option maxHeartbeats 4000000
theorem instr_9 (N : Nat) (g : Geo) (names : List ByteArray) (inp : List Int) (d : Nat) (x : Int) (y : Int) (imm : Int) (sym : ByteArray) (w : World) (ov : Value) (s : St) (h : RunAt N g names w ov s) (hd : d < s.regs.length) (ia : Option Addr) (ic : Nat) (hinv : g.inv = .slice ia inp.length ic) (hin : WordsAt w ia inp) (hNw : ∀ b, 0 < inp.length → ia.map Addr.block = some b → b < N) (hrd : s.read < 8000000000) :
    Calls Try.prog 55 #[.pointer (some ⟨g.rb, 0, none⟩), Ins.val ⟨9, ((d : Nat) : Int), x, y, imm, sym⟩] w (StepOk N g names ov s w (step names inp ⟨9, ((d : Nat) : Int), x, y, imm, sym⟩ s)) := by
  obtain ⟨W, hW⟩ : ∃ W : World, w.alloc (.cells #[.int .u8 9, .int .i64 ((d : Nat) : Int), .int .i64 x, .int .i64 y, .int .i64 imm, .string sym] 60) = W := ⟨_, rfl⟩
  have hB : Below w.heap.size w W := by rw [← hW]; exact (Below.refl _ _).alloc (Nat.le_refl _) _
  have hWs : W.heap.size = w.heap.size + 1 := by rw [← hW]; simp
  have HR := Lib.hid (h.keep hB)
  have HF := Lib.hid (Frame.of_below (g := g) (ov := ov) hB)
  have i0 : W.cell? ⟨w.heap.size, 0, none⟩ = some (.int .u8 9) := by rw [← hW]; simp
  have i1 : W.cell? ⟨w.heap.size, 1, none⟩ = some (.int .i64 ((d : Nat) : Int)) := by rw [← hW]; simp
  have i2 : W.cell? ⟨w.heap.size, 2, none⟩ = some (.int .i64 x) := by rw [← hW]; simp
  have i3 : W.cell? ⟨w.heap.size, 3, none⟩ = some (.int .i64 y) := by rw [← hW]; simp
  have i4 : W.cell? ⟨w.heap.size, 4, none⟩ = some (.int .i64 imm) := by rw [← hW]; simp
  have i5 : W.cell? ⟨w.heap.size, 5, none⟩ = some (.string sym) := by rw [← hW]; simp
  have r0 : W.cell? ⟨g.rb, 0, none⟩ = some (.slice (some ⟨g.rg, 0, none⟩) s.regs.length s.regs.length) := HR.out.cell 0
  have r8 : W.cell? ⟨g.rb, 8, none⟩ = some (g.inv) := HR.out.cell 8
  have z8 : W.frozen? ⟨g.rb, 8, none⟩ = false := frozen_heap HR.out.run 8
  have r10 : W.cell? ⟨g.rb, 10, none⟩ = some (.int .i64 s.read) := HR.out.cell 10
  have z10 : W.frozen? ⟨g.rb, 10, none⟩ = false := frozen_heap HR.out.run 10
  have vd := HR.out.reg hd
  have zd : W.frozen? ⟨g.rg, d, none⟩ = false := frozen_heap HR.out.regs d
  have d0 : (0 : Int) ≤ (d : Int) := by omega
  have d1 : (d : Int) < (s.regs.length : Int) := by omega
  have wd := HR.out.regw hd
  have d2 := wd.1
  have d3 := wd.2
  have Kd := Lib.hid wd
  clear wd
  have HIN := Lib.hid (hin.below hB)
  have hil := hin.fits
  rw [hinv] at r8
  have HH := Lib.hid h
  clear hin
  clear h hB
  unfold Ins.val
  go_enter Try.func55, Try.ntmps55
  go_wp2_with fail
  clear hW
  go_region
  go_wp2_with fail
  generalize hV : World.drew _ = V
  have HRV : Hid (RunAt N g names V ov (s.setReg d 0)) := by show RunAt _ _ _ _ _ _; rw [← hV]; exact (HR.out.setReg (k := d) ⟨by omega, by omega⟩).same rfl
  have HFV : Hid (Frame g ov ov w V) := by show Frame _ _ _ _ _; rw [← hV]; exact (HF.out.trans (Frame.setCell g.rg d _ (.inr (.inl rfl)))).drew
  have HFW : Hid (Frame g ov ov W V) := by show Frame _ _ _ _ _; rw [← hV]; exact (Frame.setCell g.rg d _ (.inr (.inl rfl))).drew
  have q0 : V.cell? ⟨g.rb, 0, none⟩ = some (.slice (some ⟨g.rg, 0, none⟩) s.regs.length s.regs.length) := by have := HRV.out.cell 0; simpa [runCells, St.setReg] using this
  have q8 : V.cell? ⟨g.rb, 8, none⟩ = some (.slice ia inp.length ic) := by rw [← hinv]; exact HRV.out.cell 8
  have q10 : V.cell? ⟨g.rb, 10, none⟩ = some (.int .i64 s.read) := HRV.out.cell 10
  have y10 : V.frozen? ⟨g.rb, 10, none⟩ = false := frozen_heap HRV.out.run 10
  have yd : V.frozen? ⟨g.rg, d, none⟩ = false := frozen_heap HRV.out.regs d
  have qd := HRV.out.reg (k := d) (by simpa [St.setReg] using hd)
  have qi : V.cell? ⟨w.heap.size, 1, none⟩ = some (.int .i64 ((d : Nat) : Int)) :=
    (World.cell?_of_block (a := ⟨w.heap.size, 1, none⟩) (HFW.out.block w.heap.size (by omega) (fun h0 => by have := (HH.out.ours h0).2; omega))).trans i1
  have hr0 : (0 : Int) ≤ (s.read : Int) := by omega
  have hr1 : (s.read : Int) + 1 ≤ 9223372036854775807 := by omega
  clear hV r0 r8 r10 z8 z10 zd vd i0 i1 i2 i3 i4 i5
  by_cases hlt : s.read < inp.length
  · have hlt' : (s.read : Int) < (inp.length : Int) := by omega
    rcases HIN.out.at_ with h0 | ⟨ib, io, rfl, hk⟩
    · omega
    obtain ⟨xv, hx⟩ : ∃ v, inp[s.read]? = some v := ⟨_, List.getElem?_eq_getElem hlt⟩
    have xw := HIN.out.words xv (List.mem_of_getElem? hx)
    have HXW := Lib.hid xw
    have HXV : Hid (inp.getD s.read 0 = xv) := by show _ = _; simp [hx]
    have ci0 := hk s.read xv hx
    have ci : V.cell? ⟨ib, io + s.read, none⟩ = some (.int .i32 xv) := (World.cell?_of_block (a := ⟨ib, io + s.read, none⟩) (HFW.out.block ib (World.block_lt_of_cell? _ _ ci0) (fun h0 => by have := (HH.out.ours h0).1; have := hNw ib (by omega) rfl; omega))).trans ci0
    clear hk hx ci0 xw
    go_quiet (fail)
    generalize hU : World.drewN _ _ = U
    have HRU : Hid (RunAt N g names U ov (s.setReg d 0)) := by show RunAt _ _ _ _ _ _; rw [← hU]; exact HRV.out.same rfl
    have HFU : Hid (Frame g ov ov w U) := by show Frame _ _ _ _ _; rw [← hU]; exact ⟨HFV.out.os, HFV.out.tape, HFV.out.output, HFV.out.size, HFV.out.block, HFV.out.ovs⟩
    have p0 : U.cell? ⟨g.rb, 0, none⟩ = some (.slice (some ⟨g.rg, 0, none⟩) s.regs.length s.regs.length) := by rw [← hU]; exact q0
    have p8 : U.cell? ⟨g.rb, 8, none⟩ = some (.slice (some ⟨ib, io, none⟩) inp.length ic) := by rw [← hU]; exact q8
    have p10 : U.cell? ⟨g.rb, 10, none⟩ = some (.int .i64 s.read) := by rw [← hU]; exact q10
    have u10 : U.frozen? ⟨g.rb, 10, none⟩ = false := by rw [← hU]; exact y10
    have ud : U.frozen? ⟨g.rg, d, none⟩ = false := by rw [← hU]; exact yd
    have pd : U.cell? ⟨g.rg, d, none⟩ = some (.int .i32 (St.reg (s.setReg d 0) d)) := by rw [← hU]; exact qd
    have pi : U.cell? ⟨w.heap.size, 1, none⟩ = some (.int .i64 ((d : Nat) : Int)) := by rw [← hU]; exact qi
    have pc : U.cell? ⟨ib, io + s.read, none⟩ = some (.int .i32 xv) := by rw [← hU]; exact ci
    clear hU q0 q8 q10 y10 yd qd qi ci HRV HFV HFW HR HF V
    go_wp2_with fail
    go_region
    generalize hT : World.drew _ = T
    have HRT : Hid (RunAt N g names T ov ((s.setReg d 0).setReg d xv)) := by show RunAt _ _ _ _ _ _; rw [← hT]; exact (HRU.out.setReg (k := d) HXW.out).same rfl
    have HFT : Hid (Frame g ov ov w T) := by show Frame _ _ _ _ _; rw [← hT]; exact (HFU.out.trans (Frame.setCell g.rg d _ (.inr (.inl rfl)))).drew
    have t10 : T.cell? ⟨g.rb, 10, none⟩ = some (.int .i64 s.read) := HRT.out.cell 10
    have s10 : T.frozen? ⟨g.rb, 10, none⟩ = false := frozen_heap HRT.out.run 10
    clear hT p0 p8 p10 u10 ud pd pi pc HRU HFU U
    go_wp2_with fail
    go_ret
    refine StepOk.ok step_9 ?_ (HFT.out.trans (Frame.setCell g.rb 10 _ (.inl rfl))) rfl rfl rfl rfl
    have e := HRT.out.setRead (s.read + 1)
    rw [HXV.out]
    simpa [St.setReg] using e
  · have hlt' : decide ((s.read : Int) < (inp.length : Int)) = false := by simp; omega
    have HXV : Hid (inp.getD s.read 0 = 0) := by show _ = _; simp [List.getElem?_eq_none (Nat.le_of_not_lt hlt)]
    go_quiet (fail)
    generalize hU : World.drewN _ _ = U
    have HRU : Hid (RunAt N g names U ov (s.setReg d 0)) := by show RunAt _ _ _ _ _ _; rw [← hU]; exact HRV.out.same rfl
    have HFU : Hid (Frame g ov ov w U) := by show Frame _ _ _ _ _; rw [← hU]; exact ⟨HFV.out.os, HFV.out.tape, HFV.out.output, HFV.out.size, HFV.out.block, HFV.out.ovs⟩
    have p10 : U.cell? ⟨g.rb, 10, none⟩ = some (.int .i64 s.read) := by rw [← hU]; exact q10
    have u10 : U.frozen? ⟨g.rb, 10, none⟩ = false := by rw [← hU]; exact y10
    clear hU q0 q8 q10 y10 yd qd qi HRV HFV HFW HR HF V
    go_wp2_with fail
    go_ret
    refine StepOk.ok step_9 ?_ (HFU.out.trans (Frame.setCell g.rb 10 _ (.inl rfl))) rfl rfl rfl rfl
    have e := HRU.out.setRead (s.read + 1)
    rw [HXV.out]
    simpa [St.setReg] using e

end Go.Proofs.Ytjdfcpjlmfaaaaa

/-
  Contract: instruction (package ir: runner), operation by operation.
-/
namespace Go.Proofs.Ytjdfcpjlmfaaaaa
set_option linter.unusedVariables false
set_option linter.unusedSimpArgs false
open Go.RowKit
set_option maxRecDepth 100000
set_option maxHeartbeats 4000000
theorem Try.infoOut : (Try.prog.info? 80).map (fun i => (i.zero, i.size, i.bytes)) = some (some (.agg #[.int .i64 0, .int .i32 0]), 2, 16) := by kernel_rfl
theorem out_new (w : World) (u v : Value) : ∀ (j : Nat) (x : Value), [u, v][j]? = some x → (w.alloc (.cells #[u, v] 80)).cell? ((⟨w.heap.size, 0, none⟩ : Addr).add j) = some x := by
  intro j x hx
  match j, hx with
  | 0, hx => cases hx; exact World.cell?_alloc_new _ _ _ 0
  | 1, hx => cases hx; exact World.cell?_alloc_new _ _ _ 1
/-- what the statement reads, apart from the outputs -/
def S10 (g : Geo) (b : Nat) (x : Nat) (imm : Int) (s : St) (w : World) : Prop := w.cell? ⟨b, 2, none⟩ = some (.int .i64 (x : Int)) ∧ w.cell? ⟨b, 4, none⟩ = some (.int .i64 imm) ∧ w.cell? ⟨g.rb, 0, none⟩ = some (.slice (some ⟨g.rg, 0, none⟩) s.regs.length s.regs.length) ∧ w.cell? ⟨g.rg, x, none⟩ = some (.int .i32 (s.reg x))


theorem instr_10 (N : Nat) (g : Geo) (names : List ByteArray) (inp : List Int) (d : Int) (x : Nat) (y : Int) (imm : Int) (sym : ByteArray) (w : World) (ov : Value) (s : St) (h : RunAt N g names w ov s) (hx : x < s.regs.length) (hol : s.out.length < 8000000000) :
    Calls Try.prog 55 #[.pointer (some ⟨g.rb, 0, none⟩), Ins.val ⟨10, d, ((x : Nat) : Int), y, imm, sym⟩] w (StepOk N g names ov s w (step names inp ⟨10, d, ((x : Nat) : Int), y, imm, sym⟩ s)) := by
  obtain ⟨W, hW⟩ : ∃ W : World, w.alloc (.cells #[.int .u8 10, .int .i64 d, .int .i64 ((x : Nat) : Int), .int .i64 y, .int .i64 imm, .string sym] 60) = W := ⟨_, rfl⟩
  have hB : Below w.heap.size w W := by rw [← hW]; exact (Below.refl _ _).alloc (Nat.le_refl _) _
  have hWs : W.heap.size = w.heap.size + 1 := by rw [← hW]; simp
  have HR := Lib.hid (h.keep hB)
  have HF := Lib.hid (Frame.of_below (g := g) (ov := ov) hB)
  have i0 : W.cell? ⟨w.heap.size, 0, none⟩ = some (.int .u8 10) := by rw [← hW]; simp
  have i1 : W.cell? ⟨w.heap.size, 1, none⟩ = some (.int .i64 d) := by rw [← hW]; simp
  have i2 : W.cell? ⟨w.heap.size, 2, none⟩ = some (.int .i64 ((x : Nat) : Int)) := by rw [← hW]; simp
  have i3 : W.cell? ⟨w.heap.size, 3, none⟩ = some (.int .i64 y) := by rw [← hW]; simp
  have i4 : W.cell? ⟨w.heap.size, 4, none⟩ = some (.int .i64 imm) := by rw [← hW]; simp
  have i5 : W.cell? ⟨w.heap.size, 5, none⟩ = some (.string sym) := by rw [← hW]; simp
  have r0 : W.cell? ⟨g.rb, 0, none⟩ = some (.slice (some ⟨g.rg, 0, none⟩) s.regs.length s.regs.length) := HR.out.cell 0
  have r9 : W.cell? ⟨g.rb, 9, none⟩ = some (ov) := HR.out.cell 9
  have z9 : W.frozen? ⟨g.rb, 9, none⟩ = false := frozen_heap HR.out.run 9
  have vx := HR.out.reg hx
  have zx : W.frozen? ⟨g.rg, x, none⟩ = false := frozen_heap HR.out.regs x
  have x0 : (0 : Int) ≤ (x : Int) := by omega
  have x1 : (x : Int) < (s.regs.length : Int) := by omega
  have wx := HR.out.regw hx
  have x2 := wx.1
  have x3 := wx.2
  have Kx := Lib.hid wx
  clear wx
  have HH := Lib.hid h
  clear h hB
  unfold Ins.val
  go_enter Try.func55, Try.ntmps55
  go_wp2_with fail
  clear hW
  have HO := Lib.hid HR.out.out
  obtain ⟨i0, hi, hz0, hz1, hz2⟩ := info_parts Try.infoOut
  have hb9 : g.rb < W.heap.size := lt_heap HR.out.run
  have hg9 : g.rg < W.heap.size := lt_heap HR.out.regs
  have hw9 : w.heap.size < W.heap.size := by omega
  have HS : Hid (∀ w', (∀ k, k < W.heap.size → (k = g.rb ∨ k = g.rg ∨ k = w.heap.size) → ∀ o, (k = g.rb → o ≠ 9) → w'.cell? ⟨k, o, none⟩ = W.cell? ⟨k, o, none⟩) → S10 g w.heap.size x imm s w') := fun w' hh => ⟨(hh _ hw9 (.inr (.inr rfl)) 2 (fun e => by omega)).trans i2, (hh _ hw9 (.inr (.inr rfl)) 4 (fun e => by omega)).trans i4, (hh _ hb9 (.inl rfl) 0 (fun _ => by omega)).trans r0, (hh _ hg9 (.inr (.inl rfl)) x (fun e => absurd e.symm HR.out.ne1)).trans vx⟩
  clear hWs z9 zx i1 i3 i5
  refine wp_region_held_drew (S := S10 g w.heap.size x imm s) (by kernel_rfl) (HS.out _ (fun _ _ _ _ _ => rfl)) (fun hHeld => ?_)
  have HBD : Hid (Below W.heap.size W W.drew) := (Below.refl _ _).drew
  have HOD : Hid (W.drew.ownsRow N 80 2 ov s.out.length (outs s.out)) := ownsRow_move HO.out (fun _ _ _ => rfl)
  generalize hwd : W.drew = D at hHeld HBD HOD ⊢
  have r9' : D.cell? ⟨g.rb, 9, none⟩ = some ov := by rw [← hwd]; exact r9
  have hDs : D.heap.size = W.heap.size := by rw [← hwd]; rfl
  clear hwd
  refine wpAnyH_take (i := 0) (v := .pointer (some ⟨g.rb, 0, none⟩)) rfl (by kernel_rfl) (by kernel_rfl) (by kernel_rfl) (fun _ _ _ h => h) (Or.inl ⟨by rfl, ?_⟩) (by assumption) ?_
  · intro w' hSw; go_simp
  (try simp only [Act.put, List.getElem_toArray, List.getElem_cons_zero, List.setIfInBounds_toArray, List.set_cons_zero, List.set_cons_succ])
  refine wpAnyH_take (i := 1) (v := .pointer (some ⟨g.rb, 0, none⟩)) rfl (by kernel_rfl) (by kernel_rfl) (by kernel_rfl) (fun _ _ _ h => h) (Or.inl ⟨by rfl, ?_⟩) (by assumption) ?_
  · intro w' hSw; go_simp
  (try simp only [Act.put, List.getElem_toArray, List.getElem_cons_zero, List.getElem_cons_succ, List.setIfInBounds_toArray, List.set_cons_zero, List.set_cons_succ])
  refine wpAnyH_take (i := 2) (v := .pointer (some ⟨g.rb, 0, none⟩)) rfl (by kernel_rfl) (by kernel_rfl) (by kernel_rfl) (fun _ _ _ h => h) (Or.inl ⟨by rfl, ?_⟩) (by assumption) ?_
  · intro w' hSw; go_simp
  (try simp only [Act.put, List.getElem_toArray, List.getElem_cons_zero, List.getElem_cons_succ, List.setIfInBounds_toArray, List.set_cons_zero, List.set_cons_succ])
  refine wpAnyH_take (i := 3) (v := .pointer (some ⟨g.rb, 9, none⟩)) rfl (by kernel_rfl) (by kernel_rfl) (by kernel_rfl) (fun _ _ _ h => h) (Or.inl ⟨by rfl, ?_⟩) (by assumption) ?_
  · intro w' hSw; go_simp
  (try simp only [Act.put, List.getElem_toArray, List.getElem_cons_zero, List.getElem_cons_succ, List.setIfInBounds_toArray, List.set_cons_zero, List.set_cons_succ])
  refine wpAnyH_take (i := 5) (v := .pointer (some ⟨w.heap.size, 4, none⟩)) rfl (by kernel_rfl) (by kernel_rfl) (by kernel_rfl) (fun _ _ _ h => h) (Or.inl ⟨by rfl, ?_⟩) (by assumption) ?_
  · intro w' hSw; go_simp
  (try simp only [Act.put, List.getElem_toArray, List.getElem_cons_zero, List.getElem_cons_succ, List.setIfInBounds_toArray, List.set_cons_zero, List.set_cons_succ])
  refine wpAnyH_take (i := 6) (v := .int .i64 imm) rfl (by kernel_rfl) (by kernel_rfl) (by kernel_rfl) (fun _ _ _ h => h) (Or.inl ⟨by rfl, ?_⟩) (by assumption) ?_
  · intro w' hSw; obtain ⟨s1, s2, s3, s4⟩ := hSw; go_simp
  (try simp only [Act.put, List.getElem_toArray, List.getElem_cons_zero, List.getElem_cons_succ, List.setIfInBounds_toArray, List.set_cons_zero, List.set_cons_succ])
  refine wpAnyH_take (i := 7) (v := .pointer (some ⟨g.rb, 0, none⟩)) rfl (by kernel_rfl) (by kernel_rfl) (by kernel_rfl) (fun _ _ _ h => h) (Or.inl ⟨by rfl, ?_⟩) (by assumption) ?_
  · intro w' hSw; go_simp
  (try simp only [Act.put, List.getElem_toArray, List.getElem_cons_zero, List.getElem_cons_succ, List.setIfInBounds_toArray, List.set_cons_zero, List.set_cons_succ])
  refine wpAnyH_take (i := 8) (v := .pointer (some ⟨g.rb, 0, none⟩)) rfl (by kernel_rfl) (by kernel_rfl) (by kernel_rfl) (fun _ _ _ h => h) (Or.inl ⟨by rfl, ?_⟩) (by assumption) ?_
  · intro w' hSw; go_simp
  (try simp only [Act.put, List.getElem_toArray, List.getElem_cons_zero, List.getElem_cons_succ, List.setIfInBounds_toArray, List.set_cons_zero, List.set_cons_succ])
  refine wpAnyH_take (i := 9) (v := .pointer (some ⟨g.rb, 0, none⟩)) rfl (by kernel_rfl) (by kernel_rfl) (by kernel_rfl) (fun _ _ _ h => h) (Or.inl ⟨by rfl, ?_⟩) (by assumption) ?_
  · intro w' hSw; go_simp
  (try simp only [Act.put, List.getElem_toArray, List.getElem_cons_zero, List.getElem_cons_succ, List.setIfInBounds_toArray, List.set_cons_zero, List.set_cons_succ])
  refine wpAnyH_take (i := 10) (v := .slice (some ⟨g.rg, 0, none⟩) s.regs.length s.regs.length) rfl (by kernel_rfl) (by kernel_rfl) (by kernel_rfl) (fun _ _ _ h => h) (Or.inl ⟨by rfl, ?_⟩) (by assumption) ?_
  · intro w' hSw; obtain ⟨s1, s2, s3, s4⟩ := hSw; go_simp
  (try simp only [Act.put, List.getElem_toArray, List.getElem_cons_zero, List.getElem_cons_succ, List.setIfInBounds_toArray, List.set_cons_zero, List.set_cons_succ])
  refine wpAnyH_take (i := 11) (v := .pointer (some ⟨w.heap.size, 2, none⟩)) rfl (by kernel_rfl) (by kernel_rfl) (by kernel_rfl) (fun _ _ _ h => h) (Or.inl ⟨by rfl, ?_⟩) (by assumption) ?_
  · intro w' hSw; go_simp
  (try simp only [Act.put, List.getElem_toArray, List.getElem_cons_zero, List.getElem_cons_succ, List.setIfInBounds_toArray, List.set_cons_zero, List.set_cons_succ])
  refine wpAnyH_take (i := 12) (v := .int .i64 (x : Int)) rfl (by kernel_rfl) (by kernel_rfl) (by kernel_rfl) (fun _ _ _ h => h) (Or.inl ⟨by rfl, ?_⟩) (by assumption) ?_
  · intro w' hSw; obtain ⟨s1, s2, s3, s4⟩ := hSw; go_simp
  (try simp only [Act.put, List.getElem_toArray, List.getElem_cons_zero, List.getElem_cons_succ, List.setIfInBounds_toArray, List.set_cons_zero, List.set_cons_succ])
  refine wpAnyH_take (i := 13) (v := .pointer (some ⟨g.rg, x, none⟩)) rfl (by kernel_rfl) (by kernel_rfl) (by kernel_rfl) (fun _ _ _ h => h) (Or.inl ⟨by rfl, ?_⟩) (by assumption) ?_
  · intro w' hSw; go_simp
  (try simp only [Act.put, List.getElem_toArray, List.getElem_cons_zero, List.getElem_cons_succ, List.setIfInBounds_toArray, List.set_cons_zero, List.set_cons_succ])
  refine wpAnyH_take (i := 14) (v := .int .i32 (s.reg x)) rfl (by kernel_rfl) (by kernel_rfl) (by kernel_rfl) (fun _ _ _ h => h) (Or.inl ⟨by rfl, ?_⟩) (by assumption) ?_
  · intro w' hSw; obtain ⟨s1, s2, s3, s4⟩ := hSw; go_simp
  (try simp only [Act.put, List.getElem_toArray, List.getElem_cons_zero, List.getElem_cons_succ, List.setIfInBounds_toArray, List.set_cons_zero, List.set_cons_succ])
  refine wpAnyH_take (i := 15) (v := .agg #[.int .i64 imm, .int .i32 (s.reg x)]) rfl (by kernel_rfl) (by kernel_rfl) (by kernel_rfl) (fun _ _ _ h => h) (Or.inl ⟨by rfl, ?_⟩) (by assumption) ?_
  · intro w' hSw; go_simp
  (try simp only [Act.put, List.getElem_toArray, List.getElem_cons_zero, List.getElem_cons_succ, List.setIfInBounds_toArray, List.set_cons_zero, List.set_cons_succ])
  refine wpAnyH_ready (rs := [4, 16]) (by kernel_rfl) (by simp) (AllReadyH.cons rfl (fun K hK => ?_) (AllReadyH.cons rfl (fun K hK => ?_) AllReadyH.nil))
  · go_simp
    refine hK.out _ _ (hHeld) (fun hHeld => ?_)
    clear hK K
    rename_i hOld
    clear hOld
    (try simp only [Act.put, List.getElem_toArray, List.getElem_cons_zero, List.getElem_cons_succ, List.setIfInBounds_toArray, List.set_cons_zero, List.set_cons_succ])
    refine wpAnyH_ready (rs := [16]) (by kernel_rfl) (by simp) (AllReadyH.cons rfl (fun K hK => ?_) AllReadyH.nil)
    go_simp
    have HBA := Lib.hid (HBD.out.alloc (by omega) (.cells #[.int .i64 imm, .int .i32 (s.reg x)] 80))
    refine hK.out _ _ (HS.out _ (fun k hk hk1 o ho => HBA.out.cell (p := ⟨k, o, none⟩) hk)) (fun hHeld => ?_)
    clear hK K
    rename_i hOld
    clear hOld
    (try simp only [Act.put, List.getElem_toArray, List.getElem_cons_zero, List.getElem_cons_succ, List.setIfInBounds_toArray, List.set_cons_zero, List.set_cons_succ])
    refine wpAnyH_ready (rs := [17]) (by kernel_rfl) (by simp) (AllReadyH.cons rfl (fun K hK => ?_) AllReadyH.nil)
    refine step_append_row rfl (.tmp 152) (.tmp 164) 38 rfl N 80 i0 _ 2 16 Try.underlying38 hi hz0 hz1 hz2 rfl (by decide) ov s.out.length (outs s.out) (by simp [Act.eval]) (HOD.out.alloc _) ⟨D.heap.size, 0, none⟩ 1 1 [.int .i64 imm, .int .i32 (s.reg x)] (by simp [Act.eval]) rfl (out_new D _ _) (by simp [Value.oneCell']) (by decide) (by unfold maxLen; omega) (by omega) (by have := HR.out.rb_; simp; omega) ?_
    intro gb cap w2 hown2 hgrow hplace
    have q9 : w2.cell? ⟨g.rb, 9, none⟩ = some ov := (cell_heap ((HR.out.grown HBA.out hgrow (lt_heap HR.out.run) HR.out.one.1).trans HR.out.run) 9)
    have y9 : w2.frozen? ⟨g.rb, 9, none⟩ = false := frozen_heap ((HR.out.grown HBA.out hgrow (lt_heap HR.out.run) HR.out.one.1).trans HR.out.run) 9
    have hold : ∀ k, k < W.heap.size → (k = g.rb ∨ k = g.rg ∨ k = w.heap.size) → w2.heap[k]? = W.heap[k]? := fun k hk hk1 => HR.out.grown HBA.out hgrow hk (by rcases hk1 with rfl | rfl | rfl; exact HR.out.one.1; exact HR.out.one.2.1; exact fun e => absurd (ownsRow_lt HH.out.out e).2 (Nat.lt_irrefl _))
    have HO2 := Lib.hid hown2
    have HG2 := Lib.hid hgrow
    have HP2 := Lib.hid hplace
    have HOLD := Lib.hid hold
    clear hown2 hgrow hplace hold
    refine hK.out _ _ (HS.out _ (fun k hk hk1 o ho => World.cell?_of_block (a := ⟨k, o, none⟩) (HOLD.out k hk hk1))) (fun hHeld => ?_)
    clear hK K
    rename_i hOld
    clear hOld
    (try simp only [Act.put, List.getElem_toArray, List.getElem_cons_zero, List.getElem_cons_succ, List.setIfInBounds_toArray, List.set_cons_zero, List.set_cons_succ])
    refine wpAnyH_take (i := 18) (v := .pointer (some ⟨g.rb, 0, none⟩)) rfl (by kernel_rfl) (by kernel_rfl) (by kernel_rfl) (fun _ _ _ h => h) (Or.inl ⟨by rfl, ?_⟩) (by assumption) ?_
    · intro w' hSw; go_simp
    (try simp only [Act.put, List.getElem_toArray, List.getElem_cons_zero, List.getElem_cons_succ, List.setIfInBounds_toArray, List.set_cons_zero, List.set_cons_succ])
    refine wpAnyH_take (i := 19) (v := .pointer (some ⟨g.rb, 9, none⟩)) rfl (by kernel_rfl) (by kernel_rfl) (by kernel_rfl) (fun _ _ _ h => h) (Or.inl ⟨by rfl, ?_⟩) (by assumption) ?_
    · intro w' hSw; go_simp
    (try simp only [Act.put, List.getElem_toArray, List.getElem_cons_zero, List.getElem_cons_succ, List.setIfInBounds_toArray, List.set_cons_zero, List.set_cons_succ])
    refine wpAnyH_ready (rs := [20]) (by kernel_rfl) (by simp) (AllReadyH.cons rfl (fun K hK => ?_) AllReadyH.nil)
    go_simp
    refine hK.out _ _ (HS.out _ (fun k hk hk1 o ho => ?_)) (fun hHeld => ?_)
    · by_cases hkb : k = g.rb
      · rw [World.cell?_setCell_other _ _ _ _ (fun e => by injection e with e1 e2; exact ho hkb e2.symm)]
        exact World.cell?_of_block (a := ⟨k, o, none⟩) (HOLD.out k hk hk1)
      · rw [World.cell?_setCell_other _ _ _ _ (fun e => by injection e with e1; exact hkb e1.symm)]
        exact World.cell?_of_block (a := ⟨k, o, none⟩) (HOLD.out k hk hk1)
    · refine wpAnyH_done (by kernel_rfl) ?_ _
      go_wp2_with fail
      go_ret
      exact StepOk.ok step_10 (HR.out.push HBA.out HG2.out HO2.out HP2.out) (HF.out.trans (HR.out.pushFrame HBA.out HG2.out HP2.out _ _ _)) rfl rfl rfl rfl
  · go_simp
    have HBA := Lib.hid (HBD.out.alloc (by omega) (.cells #[.int .i64 imm, .int .i32 (s.reg x)] 80))
    have r9a := (HBA.out.cell (p := ⟨g.rb, 9, none⟩) hb9).trans r9
    refine hK.out _ _ (HS.out _ (fun k hk hk1 o ho => HBA.out.cell (p := ⟨k, o, none⟩) hk)) (fun hHeld => ?_)
    clear hK K
    rename_i hOld
    clear hOld
    (try simp only [Act.put, List.getElem_toArray, List.getElem_cons_zero, List.getElem_cons_succ, List.setIfInBounds_toArray, List.set_cons_zero, List.set_cons_succ])
    refine wpAnyH_ready (rs := [4]) (by kernel_rfl) (by simp) (AllReadyH.cons rfl (fun K hK => ?_) AllReadyH.nil)
    go_simp
    refine hK.out _ _ (hHeld) (fun hHeld => ?_)
    clear hK K
    rename_i hOld
    clear hOld
    (try simp only [Act.put, List.getElem_toArray, List.getElem_cons_zero, List.getElem_cons_succ, List.setIfInBounds_toArray, List.set_cons_zero, List.set_cons_succ])
    refine wpAnyH_ready (rs := [17]) (by kernel_rfl) (by simp) (AllReadyH.cons rfl (fun K hK => ?_) AllReadyH.nil)
    refine step_append_row rfl (.tmp 152) (.tmp 164) 38 rfl N 80 i0 _ 2 16 Try.underlying38 hi hz0 hz1 hz2 rfl (by decide) ov s.out.length (outs s.out) (by simp [Act.eval]) (HOD.out.alloc _) ⟨D.heap.size, 0, none⟩ 1 1 [.int .i64 imm, .int .i32 (s.reg x)] (by simp [Act.eval]) rfl (out_new D _ _) (by simp [Value.oneCell']) (by decide) (by unfold maxLen; omega) (by omega) (by have := HR.out.rb_; simp; omega) ?_
    intro gb cap w2 hown2 hgrow hplace
    have q9 : w2.cell? ⟨g.rb, 9, none⟩ = some ov := (cell_heap ((HR.out.grown HBA.out hgrow (lt_heap HR.out.run) HR.out.one.1).trans HR.out.run) 9)
    have y9 : w2.frozen? ⟨g.rb, 9, none⟩ = false := frozen_heap ((HR.out.grown HBA.out hgrow (lt_heap HR.out.run) HR.out.one.1).trans HR.out.run) 9
    have hold : ∀ k, k < W.heap.size → (k = g.rb ∨ k = g.rg ∨ k = w.heap.size) → w2.heap[k]? = W.heap[k]? := fun k hk hk1 => HR.out.grown HBA.out hgrow hk (by rcases hk1 with rfl | rfl | rfl; exact HR.out.one.1; exact HR.out.one.2.1; exact fun e => absurd (ownsRow_lt HH.out.out e).2 (Nat.lt_irrefl _))
    have HO2 := Lib.hid hown2
    have HG2 := Lib.hid hgrow
    have HP2 := Lib.hid hplace
    have HOLD := Lib.hid hold
    clear hown2 hgrow hplace hold
    refine hK.out _ _ (HS.out _ (fun k hk hk1 o ho => World.cell?_of_block (a := ⟨k, o, none⟩) (HOLD.out k hk hk1))) (fun hHeld => ?_)
    clear hK K
    rename_i hOld
    clear hOld
    (try simp only [Act.put, List.getElem_toArray, List.getElem_cons_zero, List.getElem_cons_succ, List.setIfInBounds_toArray, List.set_cons_zero, List.set_cons_succ])
    refine wpAnyH_take (i := 18) (v := .pointer (some ⟨g.rb, 0, none⟩)) rfl (by kernel_rfl) (by kernel_rfl) (by kernel_rfl) (fun _ _ _ h => h) (Or.inl ⟨by rfl, ?_⟩) (by assumption) ?_
    · intro w' hSw; go_simp
    (try simp only [Act.put, List.getElem_toArray, List.getElem_cons_zero, List.getElem_cons_succ, List.setIfInBounds_toArray, List.set_cons_zero, List.set_cons_succ])
    refine wpAnyH_take (i := 19) (v := .pointer (some ⟨g.rb, 9, none⟩)) rfl (by kernel_rfl) (by kernel_rfl) (by kernel_rfl) (fun _ _ _ h => h) (Or.inl ⟨by rfl, ?_⟩) (by assumption) ?_
    · intro w' hSw; go_simp
    (try simp only [Act.put, List.getElem_toArray, List.getElem_cons_zero, List.getElem_cons_succ, List.setIfInBounds_toArray, List.set_cons_zero, List.set_cons_succ])
    refine wpAnyH_ready (rs := [20]) (by kernel_rfl) (by simp) (AllReadyH.cons rfl (fun K hK => ?_) AllReadyH.nil)
    go_simp
    refine hK.out _ _ (HS.out _ (fun k hk hk1 o ho => ?_)) (fun hHeld => ?_)
    · by_cases hkb : k = g.rb
      · rw [World.cell?_setCell_other _ _ _ _ (fun e => by injection e with e1 e2; exact ho hkb e2.symm)]
        exact World.cell?_of_block (a := ⟨k, o, none⟩) (HOLD.out k hk hk1)
      · rw [World.cell?_setCell_other _ _ _ _ (fun e => by injection e with e1; exact hkb e1.symm)]
        exact World.cell?_of_block (a := ⟨k, o, none⟩) (HOLD.out k hk hk1)
    · refine wpAnyH_done (by kernel_rfl) ?_ _
      go_wp2_with fail
      go_ret
      exact StepOk.ok step_10 (HR.out.push HBA.out HG2.out HO2.out HP2.out) (HF.out.trans (HR.out.pushFrame HBA.out HG2.out HP2.out _ _ _)) rfl rfl rfl rfl

end Go.Proofs.Ytjdfcpjlmfaaaaa

/-
  Contract: instruction (package ir: runner), operation by operation.
-/
namespace Go.Proofs.Ytjdfcpjlmfaaaaa
set_option linter.unusedVariables false
set_option linter.unusedSimpArgs false
open Go.RowKit
set_option maxRecDepth 100000
set_option maxHeartbeats 4000000
theorem access_4 (N : Nat) (g : Geo) (names : List ByteArray) (inp : List Int) (d : Nat) (x : Nat) (y : Int) (imm : Int) (sym : ByteArray) (w : World) (ov : Value) (s : St) (h : RunAt N g names w ov s) (hd : d < s.regs.length) (hx : x < s.regs.length) (hs : sym.size ≤ 9223372036854775807) (hj : pos names sym < names.length) :
    Calls Try.prog 58 #[.pointer (some ⟨g.rb, 0, none⟩), Ins.val ⟨4, ((d : Nat) : Int), ((x : Nat) : Int), y, imm, sym⟩] w (StepOk N g names ov s w (step names inp ⟨4, ((d : Nat) : Int), ((x : Nat) : Int), y, imm, sym⟩ s)) := by
  obtain ⟨W, hW⟩ : ∃ W : World, w.alloc (.cells #[.int .u8 4, .int .i64 ((d : Nat) : Int), .int .i64 ((x : Nat) : Int), .int .i64 y, .int .i64 imm, .string sym] 60) = W := ⟨_, rfl⟩
  have hB : Below w.heap.size w W := by rw [← hW]; exact (Below.refl _ _).alloc (Nat.le_refl _) _
  have hWs : W.heap.size = w.heap.size + 1 := by rw [← hW]; simp
  have HR := Lib.hid (h.keep hB)
  have HF := Lib.hid (Frame.of_below (g := g) (ov := ov) hB)
  have i0 : W.cell? ⟨w.heap.size, 0, none⟩ = some (.int .u8 4) := by rw [← hW]; simp
  have i1 : W.cell? ⟨w.heap.size, 1, none⟩ = some (.int .i64 ((d : Nat) : Int)) := by rw [← hW]; simp
  have i2 : W.cell? ⟨w.heap.size, 2, none⟩ = some (.int .i64 ((x : Nat) : Int)) := by rw [← hW]; simp
  have i3 : W.cell? ⟨w.heap.size, 3, none⟩ = some (.int .i64 y) := by rw [← hW]; simp
  have i4 : W.cell? ⟨w.heap.size, 4, none⟩ = some (.int .i64 imm) := by rw [← hW]; simp
  have i5 : W.cell? ⟨w.heap.size, 5, none⟩ = some (.string sym) := by rw [← hW]; simp
  have r0 : W.cell? ⟨g.rb, 0, none⟩ = some (.slice (some ⟨g.rg, 0, none⟩) s.regs.length s.regs.length) := HR.out.cell 0
  have r5 : W.cell? ⟨g.rb, 5, none⟩ = some (.map (some g.mb)) := HR.out.cell 5
  have z5 : W.frozen? ⟨g.rb, 5, none⟩ = false := frozen_heap HR.out.run 5
  have vd := HR.out.reg hd
  have zd : W.frozen? ⟨g.rg, d, none⟩ = false := frozen_heap HR.out.regs d
  have d0 : (0 : Int) ≤ (d : Int) := by omega
  have d1 : (d : Int) < (s.regs.length : Int) := by omega
  have wd := HR.out.regw hd
  have d2 := wd.1
  have d3 := wd.2
  have Kd := Lib.hid wd
  clear wd
  have vx := HR.out.reg hx
  have zx : W.frozen? ⟨g.rg, x, none⟩ = false := frozen_heap HR.out.regs x
  have x0 : (0 : Int) ≤ (x : Int) := by omega
  have x1 : (x : Int) < (s.regs.length : Int) := by omega
  have wx := HR.out.regw hx
  have x2 := wx.1
  have x3 := wx.2
  have Kx := Lib.hid wx
  clear wx
  have HL := Lib.hid (look_zip (rows := g.rows) hj (HR.out.nnames.trans HR.out.nrows.symm))
  have hjm : pos names sym < s.mem.length := by rw [← HR.out.nnames]; exact hj
  have HOW := Lib.hid (HR.out.rows _ hjm)
  have hrl := ownsRow_len HOW.out
  obtain ⟨ra, rc, hrv⟩ := ownsRow_val HOW.out
  have hrun : ∀ n, (Instr.lookup 90 (.map (some g.mb)) (.string sym) false).run Try.prog (W.drewN n) = .ok (.slice ra (s.row (pos names sym)).length rc) (W.drewN n) := fun n => by
    rw [(HR.out.map.move (w' := W.drewN n) rfl).run Try.underlying9 Try.underlying90 (zeroR _) hs, HL.out, hrv]
    rfl
  have HJ := Lib.hid hj
  clear hj
  clear h hB
  unfold Ins.val
  go_enter Try.func58, Try.ntmps58
  go_wp2_with fail
  clear hW
  go_quiet (fail)
  generalize hV : World.drewN _ _ = V
  have HRV : Hid (RunAt N g names V ov s) := by show RunAt _ _ _ _ _ _; rw [← hV]; exact HR.out.same rfl
  have HFV : Hid (Frame g ov ov w V) := by show Frame _ _ _ _ _; rw [← hV]; exact ⟨HF.out.os, HF.out.tape, HF.out.output, HF.out.size, HF.out.block, HF.out.ovs⟩
  have HFC : Hid (∀ k, V.cell? ⟨w.heap.size, k, none⟩ = W.cell? ⟨w.heap.size, k, none⟩) := fun k => by rw [← hV]; rfl
  have q0 : V.cell? ⟨g.rb, 0, none⟩ = some (.slice (some ⟨g.rg, 0, none⟩) s.regs.length s.regs.length) := HRV.out.cell 0
  have qx : V.cell? ⟨g.rg, x, none⟩ = some (.int .i32 (s.reg x)) := HRV.out.reg hx
  have j2 := (HFC.out 2).trans i2
  clear hV
  go_wp2_with fail
  go_quiet (fail)
  generalize hU : World.drewN _ _ = U
  have HRU : Hid (RunAt N g names U ov s) := by show RunAt _ _ _ _ _ _; rw [← hU]; exact HRV.out.same rfl
  have HFU : Hid (Frame g ov ov w U) := by show Frame _ _ _ _ _; rw [← hU]; exact ⟨HFV.out.os, HFV.out.tape, HFV.out.output, HFV.out.size, HFV.out.block, HFV.out.ovs⟩
  have HUC : Hid (∀ k, U.cell? ⟨w.heap.size, k, none⟩ = W.cell? ⟨w.heap.size, k, none⟩) := fun k => by rw [← hU]; exact HFC.out k
  have p0 : U.cell? ⟨g.rb, 0, none⟩ = some (.slice (some ⟨g.rg, 0, none⟩) s.regs.length s.regs.length) := HRU.out.cell 0
  have l0 := (HUC.out 0).trans i0
  have l1 := (HUC.out 1).trans i1
  have l3 := (HUC.out 3).trans i3
  clear hU q0 qx j2 HFC HRV HFV V r0 r5 z5 i0 i1 i2 i3 i4 i5 hrun
  by_cases hc : s.reg x < 0 ∨ (s.row (pos names sym)).length ≤ s.reg x
  · have hc' : s.reg x < 0 ∨ (decide (s.reg x < 0) = false ∧ (s.row (pos names sym)).length ≤ s.reg x) := by
      by_cases q : s.reg x < 0
      · exact .inl q
      · exact .inr ⟨by simpa using q, by omega⟩
    rcases hc' with q | ⟨q, q'⟩
    all_goals
      go_wp2_with fail
      go_ret
      exact StepOk.trap (step_4.trans (if_pos hc)) HRU.out HFU.out rfl rfl rfl rfl
  · have q : decide (s.reg x < 0) = false := by simp; omega
    have HC := Lib.hid hc
    obtain ⟨k, hk⟩ : ∃ k : Nat, s.reg x = (k : Int) := ⟨(s.reg x).toNat, by omega⟩
    have HK := Lib.hid hk
    have hkl : k < (s.row (pos names sym)).length := by omega
    have q' : decide (((s.row (pos names sym)).length : Int) ≤ (k : Int)) = false := by simp; omega
    obtain ⟨b, rfl⟩ : ∃ b, ra = some ⟨b, 0, none⟩ := ownsRow_some (hrv ▸ HOW.out) (by omega)
    have rw_ := HRU.out.rowCell hjm hrv hkl
    have rz_ : U.frozen? ⟨b, k, none⟩ = false := HRU.out.rowFree hjm hrv hkl k
    rw [hk] at q
    have HWV : Hid (Wd.W ((s.row (pos names sym)).getD k 0)) := HRU.out.wf.mem _ (row_mem hjm) _ (getD_mem hkl)
    obtain ⟨rv0, hrv0⟩ : ∃ v, (s.row (pos names sym)).getD k 0 = v := ⟨_, rfl⟩
    have HRV0 := Lib.hid hrv0
    rw [hrv0] at rw_ HWV
    clear hrv0
    have hk0 : (0 : Int) ≤ (k : Int) := by omega
    have hk1 : (k : Int) < ((s.row (pos names sym)).length : Int) := by omega
    have ud : U.cell? ⟨g.rg, d, none⟩ = some (.int .i32 (s.reg d)) := HRU.out.reg hd
    have uz : U.frozen? ⟨g.rg, d, none⟩ = false := frozen_heap HRU.out.regs d
    rw [hk]
    clear hc hk
    go_wp2_with fail
    go_region
    go_wp2_with fail
    go_ret
    exact StepOk.ok (step_4.trans ((if_neg HC.out).trans (by rw [HK.out, Int.toNat_natCast, HRV0.out]))) (HRU.out.setReg (k := d) HWV.out) (HFU.out.trans (Frame.setCell g.rg d _ (.inr (.inl rfl)))) rfl rfl rfl rfl

theorem access_6 (N : Nat) (g : Geo) (names : List ByteArray) (inp : List Int) (d : Nat) (x : Nat) (y : Int) (imm : Int) (sym : ByteArray) (w : World) (ov : Value) (s : St) (h : RunAt N g names w ov s) (hd : d < s.regs.length) (hx : x < s.regs.length) (hs : sym.size ≤ 9223372036854775807) (hj : pos names sym < names.length) :
    Calls Try.prog 58 #[.pointer (some ⟨g.rb, 0, none⟩), Ins.val ⟨6, ((d : Nat) : Int), ((x : Nat) : Int), y, imm, sym⟩] w (StepOk N g names ov s w (step names inp ⟨6, ((d : Nat) : Int), ((x : Nat) : Int), y, imm, sym⟩ s)) := by
  obtain ⟨W, hW⟩ : ∃ W : World, w.alloc (.cells #[.int .u8 6, .int .i64 ((d : Nat) : Int), .int .i64 ((x : Nat) : Int), .int .i64 y, .int .i64 imm, .string sym] 60) = W := ⟨_, rfl⟩
  have hB : Below w.heap.size w W := by rw [← hW]; exact (Below.refl _ _).alloc (Nat.le_refl _) _
  have hWs : W.heap.size = w.heap.size + 1 := by rw [← hW]; simp
  have HR := Lib.hid (h.keep hB)
  have HF := Lib.hid (Frame.of_below (g := g) (ov := ov) hB)
  have i0 : W.cell? ⟨w.heap.size, 0, none⟩ = some (.int .u8 6) := by rw [← hW]; simp
  have i1 : W.cell? ⟨w.heap.size, 1, none⟩ = some (.int .i64 ((d : Nat) : Int)) := by rw [← hW]; simp
  have i2 : W.cell? ⟨w.heap.size, 2, none⟩ = some (.int .i64 ((x : Nat) : Int)) := by rw [← hW]; simp
  have i3 : W.cell? ⟨w.heap.size, 3, none⟩ = some (.int .i64 y) := by rw [← hW]; simp
  have i4 : W.cell? ⟨w.heap.size, 4, none⟩ = some (.int .i64 imm) := by rw [← hW]; simp
  have i5 : W.cell? ⟨w.heap.size, 5, none⟩ = some (.string sym) := by rw [← hW]; simp
  have r0 : W.cell? ⟨g.rb, 0, none⟩ = some (.slice (some ⟨g.rg, 0, none⟩) s.regs.length s.regs.length) := HR.out.cell 0
  have r5 : W.cell? ⟨g.rb, 5, none⟩ = some (.map (some g.mb)) := HR.out.cell 5
  have z5 : W.frozen? ⟨g.rb, 5, none⟩ = false := frozen_heap HR.out.run 5
  have vd := HR.out.reg hd
  have zd : W.frozen? ⟨g.rg, d, none⟩ = false := frozen_heap HR.out.regs d
  have d0 : (0 : Int) ≤ (d : Int) := by omega
  have d1 : (d : Int) < (s.regs.length : Int) := by omega
  have wd := HR.out.regw hd
  have d2 := wd.1
  have d3 := wd.2
  have Kd := Lib.hid wd
  clear wd
  have vx := HR.out.reg hx
  have zx : W.frozen? ⟨g.rg, x, none⟩ = false := frozen_heap HR.out.regs x
  have x0 : (0 : Int) ≤ (x : Int) := by omega
  have x1 : (x : Int) < (s.regs.length : Int) := by omega
  have wx := HR.out.regw hx
  have x2 := wx.1
  have x3 := wx.2
  have Kx := Lib.hid wx
  clear wx
  have HL := Lib.hid (look_zip (rows := g.rows) hj (HR.out.nnames.trans HR.out.nrows.symm))
  have hjm : pos names sym < s.mem.length := by rw [← HR.out.nnames]; exact hj
  have HOW := Lib.hid (HR.out.rows _ hjm)
  have hrl := ownsRow_len HOW.out
  obtain ⟨ra, rc, hrv⟩ := ownsRow_val HOW.out
  have hrun : ∀ n, (Instr.lookup 90 (.map (some g.mb)) (.string sym) false).run Try.prog (W.drewN n) = .ok (.slice ra (s.row (pos names sym)).length rc) (W.drewN n) := fun n => by
    rw [(HR.out.map.move (w' := W.drewN n) rfl).run Try.underlying9 Try.underlying90 (zeroR _) hs, HL.out, hrv]
    rfl
  have HJ := Lib.hid hj
  clear hj
  clear h hB
  unfold Ins.val
  go_enter Try.func58, Try.ntmps58
  go_wp2_with fail
  clear hW
  go_quiet (fail)
  generalize hV : World.drewN _ _ = V
  have HRV : Hid (RunAt N g names V ov s) := by show RunAt _ _ _ _ _ _; rw [← hV]; exact HR.out.same rfl
  have HFV : Hid (Frame g ov ov w V) := by show Frame _ _ _ _ _; rw [← hV]; exact ⟨HF.out.os, HF.out.tape, HF.out.output, HF.out.size, HF.out.block, HF.out.ovs⟩
  have HFC : Hid (∀ k, V.cell? ⟨w.heap.size, k, none⟩ = W.cell? ⟨w.heap.size, k, none⟩) := fun k => by rw [← hV]; rfl
  have q0 : V.cell? ⟨g.rb, 0, none⟩ = some (.slice (some ⟨g.rg, 0, none⟩) s.regs.length s.regs.length) := HRV.out.cell 0
  have qx : V.cell? ⟨g.rg, x, none⟩ = some (.int .i32 (s.reg x)) := HRV.out.reg hx
  have j2 := (HFC.out 2).trans i2
  clear hV
  go_wp2_with fail
  go_quiet (fail)
  generalize hU : World.drewN _ _ = U
  have HRU : Hid (RunAt N g names U ov s) := by show RunAt _ _ _ _ _ _; rw [← hU]; exact HRV.out.same rfl
  have HFU : Hid (Frame g ov ov w U) := by show Frame _ _ _ _ _; rw [← hU]; exact ⟨HFV.out.os, HFV.out.tape, HFV.out.output, HFV.out.size, HFV.out.block, HFV.out.ovs⟩
  have HUC : Hid (∀ k, U.cell? ⟨w.heap.size, k, none⟩ = W.cell? ⟨w.heap.size, k, none⟩) := fun k => by rw [← hU]; exact HFC.out k
  have p0 : U.cell? ⟨g.rb, 0, none⟩ = some (.slice (some ⟨g.rg, 0, none⟩) s.regs.length s.regs.length) := HRU.out.cell 0
  have l0 := (HUC.out 0).trans i0
  have l1 := (HUC.out 1).trans i1
  have l3 := (HUC.out 3).trans i3
  clear hU q0 qx j2 HFC HRV HFV V r0 r5 z5 i0 i1 i2 i3 i4 i5 hrun
  by_cases hc : s.reg x < 0 ∨ (s.row (pos names sym)).length ≤ s.reg x
  · have hc' : s.reg x < 0 ∨ (decide (s.reg x < 0) = false ∧ (s.row (pos names sym)).length ≤ s.reg x) := by
      by_cases q : s.reg x < 0
      · exact .inl q
      · exact .inr ⟨by simpa using q, by omega⟩
    rcases hc' with q | ⟨q, q'⟩
    all_goals
      go_wp2_with fail
      go_ret
      exact StepOk.trap (step_6.trans (if_pos hc)) HRU.out HFU.out rfl rfl rfl rfl
  · have q : decide (s.reg x < 0) = false := by simp; omega
    have HC := Lib.hid hc
    obtain ⟨k, hk⟩ : ∃ k : Nat, s.reg x = (k : Int) := ⟨(s.reg x).toNat, by omega⟩
    have HK := Lib.hid hk
    have hkl : k < (s.row (pos names sym)).length := by omega
    have q' : decide (((s.row (pos names sym)).length : Int) ≤ (k : Int)) = false := by simp; omega
    obtain ⟨b, rfl⟩ : ∃ b, ra = some ⟨b, 0, none⟩ := ownsRow_some (hrv ▸ HOW.out) (by omega)
    have rw_ := HRU.out.rowCell hjm hrv hkl
    have rz_ : U.frozen? ⟨b, k, none⟩ = false := HRU.out.rowFree hjm hrv hkl k
    rw [hk] at q
    have HWV : Hid (Wd.W ((s.row (pos names sym)).getD k 0)) := HRU.out.wf.mem _ (row_mem hjm) _ (getD_mem hkl)
    obtain ⟨rv0, hrv0⟩ : ∃ v, (s.row (pos names sym)).getD k 0 = v := ⟨_, rfl⟩
    have HRV0 := Lib.hid hrv0
    rw [hrv0] at rw_ HWV
    clear hrv0
    have hk0 : (0 : Int) ≤ (k : Int) := by omega
    have hk1 : (k : Int) < ((s.row (pos names sym)).length : Int) := by omega
    have ud : U.cell? ⟨g.rg, d, none⟩ = some (.int .i32 (s.reg d)) := HRU.out.reg hd
    have uz : U.frozen? ⟨g.rg, d, none⟩ = false := frozen_heap HRU.out.regs d
    rw [hk]
    clear hc hk
    go_wp2_with fail
    go_region
    go_wp2_with fail
    go_ret
    exact StepOk.ok (step_6.trans ((if_neg HC.out).trans (by rw [HK.out, Int.toNat_natCast, HRV0.out]))) (HRU.out.setReg (k := d) HWV.out) (HFU.out.trans (Frame.setCell g.rg d _ (.inr (.inl rfl)))) rfl rfl rfl rfl

end Go.Proofs.Ytjdfcpjlmfaaaaa

/-
  Contract: instruction (package ir: runner), operation by operation.
-/
namespace Go.Proofs.Ytjdfcpjlmfaaaaa
set_option linter.unusedVariables false
set_option linter.unusedSimpArgs false
open Go.RowKit
set_option maxRecDepth 100000
set_option maxHeartbeats 4000000
theorem access_5 (N : Nat) (g : Geo) (names : List ByteArray) (inp : List Int) (d : Int) (x : Nat) (y : Nat) (imm : Int) (sym : ByteArray) (w : World) (ov : Value) (s : St) (h : RunAt N g names w ov s) (hx : x < s.regs.length) (hy : y < s.regs.length) (hs : sym.size ≤ 9223372036854775807) (hj : pos names sym < names.length) :
    Calls Try.prog 58 #[.pointer (some ⟨g.rb, 0, none⟩), Ins.val ⟨5, d, ((x : Nat) : Int), ((y : Nat) : Int), imm, sym⟩] w (StepOk N g names ov s w (step names inp ⟨5, d, ((x : Nat) : Int), ((y : Nat) : Int), imm, sym⟩ s)) := by
  obtain ⟨W, hW⟩ : ∃ W : World, w.alloc (.cells #[.int .u8 5, .int .i64 d, .int .i64 ((x : Nat) : Int), .int .i64 ((y : Nat) : Int), .int .i64 imm, .string sym] 60) = W := ⟨_, rfl⟩
  have hB : Below w.heap.size w W := by rw [← hW]; exact (Below.refl _ _).alloc (Nat.le_refl _) _
  have hWs : W.heap.size = w.heap.size + 1 := by rw [← hW]; simp
  have HR := Lib.hid (h.keep hB)
  have HF := Lib.hid (Frame.of_below (g := g) (ov := ov) hB)
  have i0 : W.cell? ⟨w.heap.size, 0, none⟩ = some (.int .u8 5) := by rw [← hW]; simp
  have i1 : W.cell? ⟨w.heap.size, 1, none⟩ = some (.int .i64 d) := by rw [← hW]; simp
  have i2 : W.cell? ⟨w.heap.size, 2, none⟩ = some (.int .i64 ((x : Nat) : Int)) := by rw [← hW]; simp
  have i3 : W.cell? ⟨w.heap.size, 3, none⟩ = some (.int .i64 ((y : Nat) : Int)) := by rw [← hW]; simp
  have i4 : W.cell? ⟨w.heap.size, 4, none⟩ = some (.int .i64 imm) := by rw [← hW]; simp
  have i5 : W.cell? ⟨w.heap.size, 5, none⟩ = some (.string sym) := by rw [← hW]; simp
  have r0 : W.cell? ⟨g.rb, 0, none⟩ = some (.slice (some ⟨g.rg, 0, none⟩) s.regs.length s.regs.length) := HR.out.cell 0
  have r5 : W.cell? ⟨g.rb, 5, none⟩ = some (.map (some g.mb)) := HR.out.cell 5
  have z5 : W.frozen? ⟨g.rb, 5, none⟩ = false := frozen_heap HR.out.run 5
  have vx := HR.out.reg hx
  have zx : W.frozen? ⟨g.rg, x, none⟩ = false := frozen_heap HR.out.regs x
  have x0 : (0 : Int) ≤ (x : Int) := by omega
  have x1 : (x : Int) < (s.regs.length : Int) := by omega
  have wx := HR.out.regw hx
  have x2 := wx.1
  have x3 := wx.2
  have Kx := Lib.hid wx
  clear wx
  have vy := HR.out.reg hy
  have zy : W.frozen? ⟨g.rg, y, none⟩ = false := frozen_heap HR.out.regs y
  have y0 : (0 : Int) ≤ (y : Int) := by omega
  have y1 : (y : Int) < (s.regs.length : Int) := by omega
  have wy := HR.out.regw hy
  have y2 := wy.1
  have y3 := wy.2
  have Ky := Lib.hid wy
  clear wy
  have HL := Lib.hid (look_zip (rows := g.rows) hj (HR.out.nnames.trans HR.out.nrows.symm))
  have hjm : pos names sym < s.mem.length := by rw [← HR.out.nnames]; exact hj
  have HOW := Lib.hid (HR.out.rows _ hjm)
  have hrl := ownsRow_len HOW.out
  obtain ⟨ra, rc, hrv⟩ := ownsRow_val HOW.out
  have hrun : ∀ n, (Instr.lookup 90 (.map (some g.mb)) (.string sym) false).run Try.prog (W.drewN n) = .ok (.slice ra (s.row (pos names sym)).length rc) (W.drewN n) := fun n => by
    rw [(HR.out.map.move (w' := W.drewN n) rfl).run Try.underlying9 Try.underlying90 (zeroR _) hs, HL.out, hrv]
    rfl
  have HJ := Lib.hid hj
  clear hj
  clear h hB
  unfold Ins.val
  go_enter Try.func58, Try.ntmps58
  go_wp2_with fail
  clear hW
  go_quiet (fail)
  generalize hV : World.drewN _ _ = V
  have HRV : Hid (RunAt N g names V ov s) := by show RunAt _ _ _ _ _ _; rw [← hV]; exact HR.out.same rfl
  have HFV : Hid (Frame g ov ov w V) := by show Frame _ _ _ _ _; rw [← hV]; exact ⟨HF.out.os, HF.out.tape, HF.out.output, HF.out.size, HF.out.block, HF.out.ovs⟩
  have HFC : Hid (∀ k, V.cell? ⟨w.heap.size, k, none⟩ = W.cell? ⟨w.heap.size, k, none⟩) := fun k => by rw [← hV]; rfl
  have q0 : V.cell? ⟨g.rb, 0, none⟩ = some (.slice (some ⟨g.rg, 0, none⟩) s.regs.length s.regs.length) := HRV.out.cell 0
  have qx : V.cell? ⟨g.rg, x, none⟩ = some (.int .i32 (s.reg x)) := HRV.out.reg hx
  have j2 := (HFC.out 2).trans i2
  clear hV
  go_wp2_with fail
  go_quiet (fail)
  generalize hU : World.drewN _ _ = U
  have HRU : Hid (RunAt N g names U ov s) := by show RunAt _ _ _ _ _ _; rw [← hU]; exact HRV.out.same rfl
  have HFU : Hid (Frame g ov ov w U) := by show Frame _ _ _ _ _; rw [← hU]; exact ⟨HFV.out.os, HFV.out.tape, HFV.out.output, HFV.out.size, HFV.out.block, HFV.out.ovs⟩
  have HUC : Hid (∀ k, U.cell? ⟨w.heap.size, k, none⟩ = W.cell? ⟨w.heap.size, k, none⟩) := fun k => by rw [← hU]; exact HFC.out k
  have p0 : U.cell? ⟨g.rb, 0, none⟩ = some (.slice (some ⟨g.rg, 0, none⟩) s.regs.length s.regs.length) := HRU.out.cell 0
  have l0 := (HUC.out 0).trans i0
  have l1 := (HUC.out 1).trans i1
  have l3 := (HUC.out 3).trans i3
  clear hU q0 qx j2 HFC HRV HFV V r0 r5 z5 i0 i1 i2 i3 i4 i5 hrun
  by_cases hc : s.reg x < 0 ∨ (s.row (pos names sym)).length ≤ s.reg x
  · have hc' : s.reg x < 0 ∨ (decide (s.reg x < 0) = false ∧ (s.row (pos names sym)).length ≤ s.reg x) := by
      by_cases q : s.reg x < 0
      · exact .inl q
      · exact .inr ⟨by simpa using q, by omega⟩
    rcases hc' with q | ⟨q, q'⟩
    all_goals
      go_wp2_with fail
      go_ret
      exact StepOk.trap (step_5.trans (if_pos hc)) HRU.out HFU.out rfl rfl rfl rfl
  · have q : decide (s.reg x < 0) = false := by simp; omega
    have HC := Lib.hid hc
    obtain ⟨k, hk⟩ : ∃ k : Nat, s.reg x = (k : Int) := ⟨(s.reg x).toNat, by omega⟩
    have HK := Lib.hid hk
    have hkl : k < (s.row (pos names sym)).length := by omega
    have q' : decide (((s.row (pos names sym)).length : Int) ≤ (k : Int)) = false := by simp; omega
    obtain ⟨b, rfl⟩ : ∃ b, ra = some ⟨b, 0, none⟩ := ownsRow_some (hrv ▸ HOW.out) (by omega)
    have rw_ := HRU.out.rowCell hjm hrv hkl
    have rz_ : U.frozen? ⟨b, k, none⟩ = false := HRU.out.rowFree hjm hrv hkl k
    rw [hk] at q
    have HWV : Hid (Wd.W ((s.row (pos names sym)).getD k 0)) := HRU.out.wf.mem _ (row_mem hjm) _ (getD_mem hkl)
    obtain ⟨rv0, hrv0⟩ : ∃ v, (s.row (pos names sym)).getD k 0 = v := ⟨_, rfl⟩
    have HRV0 := Lib.hid hrv0
    rw [hrv0] at rw_ HWV
    clear hrv0
    have hk0 : (0 : Int) ≤ (k : Int) := by omega
    have hk1 : (k : Int) < ((s.row (pos names sym)).length : Int) := by omega
    have ud : U.cell? ⟨g.rg, y, none⟩ = some (.int .i32 (s.reg y)) := HRU.out.reg hy
    rw [hk]
    clear hc hk
    go_wp2_with fail
    go_region
    go_wp2_with fail
    go_ret
    exact StepOk.ok (step_5.trans ((if_neg HC.out).trans (by rw [HK.out, Int.toNat_natCast]))) (HRU.out.setRow hjm hrv hkl Ky.out) (HFU.out.trans (Frame.setCell b k _ (.inr (.inr (.inr ⟨pos names sym, by rw [HRU.out.nrows]; exact hjm, by rw [hrv]; rfl⟩))))) rfl rfl rfl rfl

theorem access_7 (N : Nat) (g : Geo) (names : List ByteArray) (inp : List Int) (d : Int) (x : Nat) (y : Nat) (imm : Int) (sym : ByteArray) (w : World) (ov : Value) (s : St) (h : RunAt N g names w ov s) (hx : x < s.regs.length) (hy : y < s.regs.length) (hs : sym.size ≤ 9223372036854775807) (hj : pos names sym < names.length) :
    Calls Try.prog 58 #[.pointer (some ⟨g.rb, 0, none⟩), Ins.val ⟨7, d, ((x : Nat) : Int), ((y : Nat) : Int), imm, sym⟩] w (StepOk N g names ov s w (step names inp ⟨7, d, ((x : Nat) : Int), ((y : Nat) : Int), imm, sym⟩ s)) := by
  obtain ⟨W, hW⟩ : ∃ W : World, w.alloc (.cells #[.int .u8 7, .int .i64 d, .int .i64 ((x : Nat) : Int), .int .i64 ((y : Nat) : Int), .int .i64 imm, .string sym] 60) = W := ⟨_, rfl⟩
  have hB : Below w.heap.size w W := by rw [← hW]; exact (Below.refl _ _).alloc (Nat.le_refl _) _
  have hWs : W.heap.size = w.heap.size + 1 := by rw [← hW]; simp
  have HR := Lib.hid (h.keep hB)
  have HF := Lib.hid (Frame.of_below (g := g) (ov := ov) hB)
  have i0 : W.cell? ⟨w.heap.size, 0, none⟩ = some (.int .u8 7) := by rw [← hW]; simp
  have i1 : W.cell? ⟨w.heap.size, 1, none⟩ = some (.int .i64 d) := by rw [← hW]; simp
  have i2 : W.cell? ⟨w.heap.size, 2, none⟩ = some (.int .i64 ((x : Nat) : Int)) := by rw [← hW]; simp
  have i3 : W.cell? ⟨w.heap.size, 3, none⟩ = some (.int .i64 ((y : Nat) : Int)) := by rw [← hW]; simp
  have i4 : W.cell? ⟨w.heap.size, 4, none⟩ = some (.int .i64 imm) := by rw [← hW]; simp
  have i5 : W.cell? ⟨w.heap.size, 5, none⟩ = some (.string sym) := by rw [← hW]; simp
  have r0 : W.cell? ⟨g.rb, 0, none⟩ = some (.slice (some ⟨g.rg, 0, none⟩) s.regs.length s.regs.length) := HR.out.cell 0
  have r5 : W.cell? ⟨g.rb, 5, none⟩ = some (.map (some g.mb)) := HR.out.cell 5
  have z5 : W.frozen? ⟨g.rb, 5, none⟩ = false := frozen_heap HR.out.run 5
  have vx := HR.out.reg hx
  have zx : W.frozen? ⟨g.rg, x, none⟩ = false := frozen_heap HR.out.regs x
  have x0 : (0 : Int) ≤ (x : Int) := by omega
  have x1 : (x : Int) < (s.regs.length : Int) := by omega
  have wx := HR.out.regw hx
  have x2 := wx.1
  have x3 := wx.2
  have Kx := Lib.hid wx
  clear wx
  have vy := HR.out.reg hy
  have zy : W.frozen? ⟨g.rg, y, none⟩ = false := frozen_heap HR.out.regs y
  have y0 : (0 : Int) ≤ (y : Int) := by omega
  have y1 : (y : Int) < (s.regs.length : Int) := by omega
  have wy := HR.out.regw hy
  have y2 := wy.1
  have y3 := wy.2
  have Ky := Lib.hid wy
  clear wy
  have HL := Lib.hid (look_zip (rows := g.rows) hj (HR.out.nnames.trans HR.out.nrows.symm))
  have hjm : pos names sym < s.mem.length := by rw [← HR.out.nnames]; exact hj
  have HOW := Lib.hid (HR.out.rows _ hjm)
  have hrl := ownsRow_len HOW.out
  obtain ⟨ra, rc, hrv⟩ := ownsRow_val HOW.out
  have hrun : ∀ n, (Instr.lookup 90 (.map (some g.mb)) (.string sym) false).run Try.prog (W.drewN n) = .ok (.slice ra (s.row (pos names sym)).length rc) (W.drewN n) := fun n => by
    rw [(HR.out.map.move (w' := W.drewN n) rfl).run Try.underlying9 Try.underlying90 (zeroR _) hs, HL.out, hrv]
    rfl
  have HJ := Lib.hid hj
  clear hj
  clear h hB
  unfold Ins.val
  go_enter Try.func58, Try.ntmps58
  go_wp2_with fail
  clear hW
  go_quiet (fail)
  generalize hV : World.drewN _ _ = V
  have HRV : Hid (RunAt N g names V ov s) := by show RunAt _ _ _ _ _ _; rw [← hV]; exact HR.out.same rfl
  have HFV : Hid (Frame g ov ov w V) := by show Frame _ _ _ _ _; rw [← hV]; exact ⟨HF.out.os, HF.out.tape, HF.out.output, HF.out.size, HF.out.block, HF.out.ovs⟩
  have HFC : Hid (∀ k, V.cell? ⟨w.heap.size, k, none⟩ = W.cell? ⟨w.heap.size, k, none⟩) := fun k => by rw [← hV]; rfl
  have q0 : V.cell? ⟨g.rb, 0, none⟩ = some (.slice (some ⟨g.rg, 0, none⟩) s.regs.length s.regs.length) := HRV.out.cell 0
  have qx : V.cell? ⟨g.rg, x, none⟩ = some (.int .i32 (s.reg x)) := HRV.out.reg hx
  have j2 := (HFC.out 2).trans i2
  clear hV
  go_wp2_with fail
  go_quiet (fail)
  generalize hU : World.drewN _ _ = U
  have HRU : Hid (RunAt N g names U ov s) := by show RunAt _ _ _ _ _ _; rw [← hU]; exact HRV.out.same rfl
  have HFU : Hid (Frame g ov ov w U) := by show Frame _ _ _ _ _; rw [← hU]; exact ⟨HFV.out.os, HFV.out.tape, HFV.out.output, HFV.out.size, HFV.out.block, HFV.out.ovs⟩
  have HUC : Hid (∀ k, U.cell? ⟨w.heap.size, k, none⟩ = W.cell? ⟨w.heap.size, k, none⟩) := fun k => by rw [← hU]; exact HFC.out k
  have p0 : U.cell? ⟨g.rb, 0, none⟩ = some (.slice (some ⟨g.rg, 0, none⟩) s.regs.length s.regs.length) := HRU.out.cell 0
  have l0 := (HUC.out 0).trans i0
  have l1 := (HUC.out 1).trans i1
  have l3 := (HUC.out 3).trans i3
  clear hU q0 qx j2 HFC HRV HFV V r0 r5 z5 i0 i1 i2 i3 i4 i5 hrun
  by_cases hc : s.reg x < 0 ∨ (s.row (pos names sym)).length ≤ s.reg x
  · have hc' : s.reg x < 0 ∨ (decide (s.reg x < 0) = false ∧ (s.row (pos names sym)).length ≤ s.reg x) := by
      by_cases q : s.reg x < 0
      · exact .inl q
      · exact .inr ⟨by simpa using q, by omega⟩
    rcases hc' with q | ⟨q, q'⟩
    all_goals
      go_wp2_with fail
      go_ret
      exact StepOk.trap (step_7.trans (if_pos hc)) HRU.out HFU.out rfl rfl rfl rfl
  · have q : decide (s.reg x < 0) = false := by simp; omega
    have HC := Lib.hid hc
    obtain ⟨k, hk⟩ : ∃ k : Nat, s.reg x = (k : Int) := ⟨(s.reg x).toNat, by omega⟩
    have HK := Lib.hid hk
    have hkl : k < (s.row (pos names sym)).length := by omega
    have q' : decide (((s.row (pos names sym)).length : Int) ≤ (k : Int)) = false := by simp; omega
    obtain ⟨b, rfl⟩ : ∃ b, ra = some ⟨b, 0, none⟩ := ownsRow_some (hrv ▸ HOW.out) (by omega)
    have rw_ := HRU.out.rowCell hjm hrv hkl
    have rz_ : U.frozen? ⟨b, k, none⟩ = false := HRU.out.rowFree hjm hrv hkl k
    rw [hk] at q
    have HWV : Hid (Wd.W ((s.row (pos names sym)).getD k 0)) := HRU.out.wf.mem _ (row_mem hjm) _ (getD_mem hkl)
    obtain ⟨rv0, hrv0⟩ : ∃ v, (s.row (pos names sym)).getD k 0 = v := ⟨_, rfl⟩
    have HRV0 := Lib.hid hrv0
    rw [hrv0] at rw_ HWV
    clear hrv0
    have hk0 : (0 : Int) ≤ (k : Int) := by omega
    have hk1 : (k : Int) < ((s.row (pos names sym)).length : Int) := by omega
    have ud : U.cell? ⟨g.rg, y, none⟩ = some (.int .i32 (s.reg y)) := HRU.out.reg hy
    rw [hk]
    clear hc hk
    go_wp2_with fail
    go_region
    go_wp2_with fail
    go_ret
    exact StepOk.ok (step_7.trans ((if_neg HC.out).trans (by rw [HK.out, Int.toNat_natCast]))) (HRU.out.setRow hjm hrv hkl Ky.out) (HFU.out.trans (Frame.setCell b k _ (.inr (.inr (.inr ⟨pos names sym, by rw [HRU.out.nrows]; exact hjm, by rw [hrv]; rfl⟩))))) rfl rfl rfl rfl

end Go.Proofs.Ytjdfcpjlmfaaaaa

/-
  Contract: instruction (package ir: runner), operation by operation.
-/
namespace Go.Proofs.Ytjdfcpjlmfaaaaa
set_option linter.unusedVariables false
set_option linter.unusedSimpArgs false
open Go.RowKit
set_option maxRecDepth 100000
set_option maxHeartbeats 4000000
theorem instr_4 (N : Nat) (g : Geo) (names : List ByteArray) (inp : List Int) (d : Nat) (x : Nat) (y : Int) (imm : Int) (sym : ByteArray) (w : World) (ov : Value) (s : St) (h : RunAt N g names w ov s) (hd : d < s.regs.length) (hx : x < s.regs.length) (hs : sym.size ≤ 9223372036854775807) (hj : pos names sym < names.length) :
    Calls Try.prog 55 #[.pointer (some ⟨g.rb, 0, none⟩), Ins.val ⟨4, ((d : Nat) : Int), ((x : Nat) : Int), y, imm, sym⟩] w (StepOk N g names ov s w (step names inp ⟨4, ((d : Nat) : Int), ((x : Nat) : Int), y, imm, sym⟩ s)) := by
  obtain ⟨W, hW⟩ : ∃ W : World, w.alloc (.cells #[.int .u8 4, .int .i64 ((d : Nat) : Int), .int .i64 ((x : Nat) : Int), .int .i64 y, .int .i64 imm, .string sym] 60) = W := ⟨_, rfl⟩
  have hB : Below w.heap.size w W := by rw [← hW]; exact (Below.refl _ _).alloc (Nat.le_refl _) _
  have hWs : W.heap.size = w.heap.size + 1 := by rw [← hW]; simp
  have HR := Lib.hid (h.keep hB)
  have HF := Lib.hid (Frame.of_below (g := g) (ov := ov) hB)
  have i0 : W.cell? ⟨w.heap.size, 0, none⟩ = some (.int .u8 4) := by rw [← hW]; simp
  have i1 : W.cell? ⟨w.heap.size, 1, none⟩ = some (.int .i64 ((d : Nat) : Int)) := by rw [← hW]; simp
  have i2 : W.cell? ⟨w.heap.size, 2, none⟩ = some (.int .i64 ((x : Nat) : Int)) := by rw [← hW]; simp
  have i3 : W.cell? ⟨w.heap.size, 3, none⟩ = some (.int .i64 y) := by rw [← hW]; simp
  have i4 : W.cell? ⟨w.heap.size, 4, none⟩ = some (.int .i64 imm) := by rw [← hW]; simp
  have i5 : W.cell? ⟨w.heap.size, 5, none⟩ = some (.string sym) := by rw [← hW]; simp
  have r0 : W.cell? ⟨g.rb, 0, none⟩ = some (.slice (some ⟨g.rg, 0, none⟩) s.regs.length s.regs.length) := HR.out.cell 0
  have vd := HR.out.reg hd
  have zd : W.frozen? ⟨g.rg, d, none⟩ = false := frozen_heap HR.out.regs d
  have d0 : (0 : Int) ≤ (d : Int) := by omega
  have d1 : (d : Int) < (s.regs.length : Int) := by omega
  have wd := HR.out.regw hd
  have d2 := wd.1
  have d3 := wd.2
  have Kd := Lib.hid wd
  clear wd
  have vx := HR.out.reg hx
  have zx : W.frozen? ⟨g.rg, x, none⟩ = false := frozen_heap HR.out.regs x
  have x0 : (0 : Int) ≤ (x : Int) := by omega
  have x1 : (x : Int) < (s.regs.length : Int) := by omega
  have wx := HR.out.regw hx
  have x2 := wx.1
  have x3 := wx.2
  have Kx := Lib.hid wx
  clear wx
  clear h hB
  unfold Ins.val
  go_enter Try.func55, Try.ntmps55
  go_wp2_with fail
  clear hW
  refine (access_4 N g names inp d x y imm sym W ov s HR.out hd hx hs hj).mono ?_
  rintro e w5 ⟨rfl, ov', hR5, hF5⟩
  have HR5 := Lib.hid hR5
  have HF5 := Lib.hid (HF.out.trans hF5)
  clear hR5 hF5
  go_wp2_with fail
  go_ret
  exact ⟨rfl, ov', HR5.out, HF5.out⟩

theorem instr_5 (N : Nat) (g : Geo) (names : List ByteArray) (inp : List Int) (d : Int) (x : Nat) (y : Nat) (imm : Int) (sym : ByteArray) (w : World) (ov : Value) (s : St) (h : RunAt N g names w ov s) (hx : x < s.regs.length) (hy : y < s.regs.length) (hs : sym.size ≤ 9223372036854775807) (hj : pos names sym < names.length) :
    Calls Try.prog 55 #[.pointer (some ⟨g.rb, 0, none⟩), Ins.val ⟨5, d, ((x : Nat) : Int), ((y : Nat) : Int), imm, sym⟩] w (StepOk N g names ov s w (step names inp ⟨5, d, ((x : Nat) : Int), ((y : Nat) : Int), imm, sym⟩ s)) := by
  obtain ⟨W, hW⟩ : ∃ W : World, w.alloc (.cells #[.int .u8 5, .int .i64 d, .int .i64 ((x : Nat) : Int), .int .i64 ((y : Nat) : Int), .int .i64 imm, .string sym] 60) = W := ⟨_, rfl⟩
  have hB : Below w.heap.size w W := by rw [← hW]; exact (Below.refl _ _).alloc (Nat.le_refl _) _
  have hWs : W.heap.size = w.heap.size + 1 := by rw [← hW]; simp
  have HR := Lib.hid (h.keep hB)
  have HF := Lib.hid (Frame.of_below (g := g) (ov := ov) hB)
  have i0 : W.cell? ⟨w.heap.size, 0, none⟩ = some (.int .u8 5) := by rw [← hW]; simp
  have i1 : W.cell? ⟨w.heap.size, 1, none⟩ = some (.int .i64 d) := by rw [← hW]; simp
  have i2 : W.cell? ⟨w.heap.size, 2, none⟩ = some (.int .i64 ((x : Nat) : Int)) := by rw [← hW]; simp
  have i3 : W.cell? ⟨w.heap.size, 3, none⟩ = some (.int .i64 ((y : Nat) : Int)) := by rw [← hW]; simp
  have i4 : W.cell? ⟨w.heap.size, 4, none⟩ = some (.int .i64 imm) := by rw [← hW]; simp
  have i5 : W.cell? ⟨w.heap.size, 5, none⟩ = some (.string sym) := by rw [← hW]; simp
  have r0 : W.cell? ⟨g.rb, 0, none⟩ = some (.slice (some ⟨g.rg, 0, none⟩) s.regs.length s.regs.length) := HR.out.cell 0
  have vx := HR.out.reg hx
  have zx : W.frozen? ⟨g.rg, x, none⟩ = false := frozen_heap HR.out.regs x
  have x0 : (0 : Int) ≤ (x : Int) := by omega
  have x1 : (x : Int) < (s.regs.length : Int) := by omega
  have wx := HR.out.regw hx
  have x2 := wx.1
  have x3 := wx.2
  have Kx := Lib.hid wx
  clear wx
  have vy := HR.out.reg hy
  have zy : W.frozen? ⟨g.rg, y, none⟩ = false := frozen_heap HR.out.regs y
  have y0 : (0 : Int) ≤ (y : Int) := by omega
  have y1 : (y : Int) < (s.regs.length : Int) := by omega
  have wy := HR.out.regw hy
  have y2 := wy.1
  have y3 := wy.2
  have Ky := Lib.hid wy
  clear wy
  clear h hB
  unfold Ins.val
  go_enter Try.func55, Try.ntmps55
  go_wp2_with fail
  clear hW
  refine (access_5 N g names inp d x y imm sym W ov s HR.out hx hy hs hj).mono ?_
  rintro e w5 ⟨rfl, ov', hR5, hF5⟩
  have HR5 := Lib.hid hR5
  have HF5 := Lib.hid (HF.out.trans hF5)
  clear hR5 hF5
  go_wp2_with fail
  go_ret
  exact ⟨rfl, ov', HR5.out, HF5.out⟩

theorem instr_6 (N : Nat) (g : Geo) (names : List ByteArray) (inp : List Int) (d : Nat) (x : Nat) (y : Int) (imm : Int) (sym : ByteArray) (w : World) (ov : Value) (s : St) (h : RunAt N g names w ov s) (hd : d < s.regs.length) (hx : x < s.regs.length) (hs : sym.size ≤ 9223372036854775807) (hj : pos names sym < names.length) :
    Calls Try.prog 55 #[.pointer (some ⟨g.rb, 0, none⟩), Ins.val ⟨6, ((d : Nat) : Int), ((x : Nat) : Int), y, imm, sym⟩] w (StepOk N g names ov s w (step names inp ⟨6, ((d : Nat) : Int), ((x : Nat) : Int), y, imm, sym⟩ s)) := by
  obtain ⟨W, hW⟩ : ∃ W : World, w.alloc (.cells #[.int .u8 6, .int .i64 ((d : Nat) : Int), .int .i64 ((x : Nat) : Int), .int .i64 y, .int .i64 imm, .string sym] 60) = W := ⟨_, rfl⟩
  have hB : Below w.heap.size w W := by rw [← hW]; exact (Below.refl _ _).alloc (Nat.le_refl _) _
  have hWs : W.heap.size = w.heap.size + 1 := by rw [← hW]; simp
  have HR := Lib.hid (h.keep hB)
  have HF := Lib.hid (Frame.of_below (g := g) (ov := ov) hB)
  have i0 : W.cell? ⟨w.heap.size, 0, none⟩ = some (.int .u8 6) := by rw [← hW]; simp
  have i1 : W.cell? ⟨w.heap.size, 1, none⟩ = some (.int .i64 ((d : Nat) : Int)) := by rw [← hW]; simp
  have i2 : W.cell? ⟨w.heap.size, 2, none⟩ = some (.int .i64 ((x : Nat) : Int)) := by rw [← hW]; simp
  have i3 : W.cell? ⟨w.heap.size, 3, none⟩ = some (.int .i64 y) := by rw [← hW]; simp
  have i4 : W.cell? ⟨w.heap.size, 4, none⟩ = some (.int .i64 imm) := by rw [← hW]; simp
  have i5 : W.cell? ⟨w.heap.size, 5, none⟩ = some (.string sym) := by rw [← hW]; simp
  have r0 : W.cell? ⟨g.rb, 0, none⟩ = some (.slice (some ⟨g.rg, 0, none⟩) s.regs.length s.regs.length) := HR.out.cell 0
  have vd := HR.out.reg hd
  have zd : W.frozen? ⟨g.rg, d, none⟩ = false := frozen_heap HR.out.regs d
  have d0 : (0 : Int) ≤ (d : Int) := by omega
  have d1 : (d : Int) < (s.regs.length : Int) := by omega
  have wd := HR.out.regw hd
  have d2 := wd.1
  have d3 := wd.2
  have Kd := Lib.hid wd
  clear wd
  have vx := HR.out.reg hx
  have zx : W.frozen? ⟨g.rg, x, none⟩ = false := frozen_heap HR.out.regs x
  have x0 : (0 : Int) ≤ (x : Int) := by omega
  have x1 : (x : Int) < (s.regs.length : Int) := by omega
  have wx := HR.out.regw hx
  have x2 := wx.1
  have x3 := wx.2
  have Kx := Lib.hid wx
  clear wx
  clear h hB
  unfold Ins.val
  go_enter Try.func55, Try.ntmps55
  go_wp2_with fail
  clear hW
  refine (access_6 N g names inp d x y imm sym W ov s HR.out hd hx hs hj).mono ?_
  rintro e w5 ⟨rfl, ov', hR5, hF5⟩
  have HR5 := Lib.hid hR5
  have HF5 := Lib.hid (HF.out.trans hF5)
  clear hR5 hF5
  go_wp2_with fail
  go_ret
  exact ⟨rfl, ov', HR5.out, HF5.out⟩

theorem instr_7 (N : Nat) (g : Geo) (names : List ByteArray) (inp : List Int) (d : Int) (x : Nat) (y : Nat) (imm : Int) (sym : ByteArray) (w : World) (ov : Value) (s : St) (h : RunAt N g names w ov s) (hx : x < s.regs.length) (hy : y < s.regs.length) (hs : sym.size ≤ 9223372036854775807) (hj : pos names sym < names.length) :
    Calls Try.prog 55 #[.pointer (some ⟨g.rb, 0, none⟩), Ins.val ⟨7, d, ((x : Nat) : Int), ((y : Nat) : Int), imm, sym⟩] w (StepOk N g names ov s w (step names inp ⟨7, d, ((x : Nat) : Int), ((y : Nat) : Int), imm, sym⟩ s)) := by
  obtain ⟨W, hW⟩ : ∃ W : World, w.alloc (.cells #[.int .u8 7, .int .i64 d, .int .i64 ((x : Nat) : Int), .int .i64 ((y : Nat) : Int), .int .i64 imm, .string sym] 60) = W := ⟨_, rfl⟩
  have hB : Below w.heap.size w W := by rw [← hW]; exact (Below.refl _ _).alloc (Nat.le_refl _) _
  have hWs : W.heap.size = w.heap.size + 1 := by rw [← hW]; simp
  have HR := Lib.hid (h.keep hB)
  have HF := Lib.hid (Frame.of_below (g := g) (ov := ov) hB)
  have i0 : W.cell? ⟨w.heap.size, 0, none⟩ = some (.int .u8 7) := by rw [← hW]; simp
  have i1 : W.cell? ⟨w.heap.size, 1, none⟩ = some (.int .i64 d) := by rw [← hW]; simp
  have i2 : W.cell? ⟨w.heap.size, 2, none⟩ = some (.int .i64 ((x : Nat) : Int)) := by rw [← hW]; simp
  have i3 : W.cell? ⟨w.heap.size, 3, none⟩ = some (.int .i64 ((y : Nat) : Int)) := by rw [← hW]; simp
  have i4 : W.cell? ⟨w.heap.size, 4, none⟩ = some (.int .i64 imm) := by rw [← hW]; simp
  have i5 : W.cell? ⟨w.heap.size, 5, none⟩ = some (.string sym) := by rw [← hW]; simp
  have r0 : W.cell? ⟨g.rb, 0, none⟩ = some (.slice (some ⟨g.rg, 0, none⟩) s.regs.length s.regs.length) := HR.out.cell 0
  have vx := HR.out.reg hx
  have zx : W.frozen? ⟨g.rg, x, none⟩ = false := frozen_heap HR.out.regs x
  have x0 : (0 : Int) ≤ (x : Int) := by omega
  have x1 : (x : Int) < (s.regs.length : Int) := by omega
  have wx := HR.out.regw hx
  have x2 := wx.1
  have x3 := wx.2
  have Kx := Lib.hid wx
  clear wx
  have vy := HR.out.reg hy
  have zy : W.frozen? ⟨g.rg, y, none⟩ = false := frozen_heap HR.out.regs y
  have y0 : (0 : Int) ≤ (y : Int) := by omega
  have y1 : (y : Int) < (s.regs.length : Int) := by omega
  have wy := HR.out.regw hy
  have y2 := wy.1
  have y3 := wy.2
  have Ky := Lib.hid wy
  clear wy
  clear h hB
  unfold Ins.val
  go_enter Try.func55, Try.ntmps55
  go_wp2_with fail
  clear hW
  refine (access_7 N g names inp d x y imm sym W ov s HR.out hx hy hs hj).mono ?_
  rintro e w5 ⟨rfl, ov', hR5, hF5⟩
  have HR5 := Lib.hid hR5
  have HF5 := Lib.hid (HF.out.trans hF5)
  clear hR5 hF5
  go_wp2_with fail
  go_ret
  exact ⟨rfl, ov', HR5.out, HF5.out⟩

end Go.Proofs.Ytjdfcpjlmfaaaaa

/-
  Contract: instruction (package ir: runner), operation by operation.
-/
namespace Go.Proofs.Ytjdfcpjlmfaaaaa
set_option linter.unusedVariables false
set_option linter.unusedSimpArgs false
open Go.RowKit
set_option maxRecDepth 100000
set_option maxHeartbeats 4000000
theorem instr_3 (N : Nat) (g : Geo) (names : List ByteArray) (inp : List Int) (d : Nat) (x : Nat) (y : Nat) (imm : Int) (sym : ByteArray) (w : World) (ov : Value) (s : St) (h : RunAt N g names w ov s) (hd : d < s.regs.length) (hx : x < s.regs.length) (hy : y < s.regs.length) (hi0 : 6 ≤ imm) (hi1 : imm ≤ 23) :
    Calls Try.prog 55 #[.pointer (some ⟨g.rb, 0, none⟩), Ins.val ⟨3, ((d : Nat) : Int), ((x : Nat) : Int), ((y : Nat) : Int), imm, sym⟩] w (StepOk N g names ov s w (step names inp ⟨3, ((d : Nat) : Int), ((x : Nat) : Int), ((y : Nat) : Int), imm, sym⟩ s)) := by
  obtain ⟨W, hW⟩ : ∃ W : World, w.alloc (.cells #[.int .u8 3, .int .i64 ((d : Nat) : Int), .int .i64 ((x : Nat) : Int), .int .i64 ((y : Nat) : Int), .int .i64 imm, .string sym] 60) = W := ⟨_, rfl⟩
  have hB : Below w.heap.size w W := by rw [← hW]; exact (Below.refl _ _).alloc (Nat.le_refl _) _
  have hWs : W.heap.size = w.heap.size + 1 := by rw [← hW]; simp
  have HR := Lib.hid (h.keep hB)
  have HF := Lib.hid (Frame.of_below (g := g) (ov := ov) hB)
  have i0 : W.cell? ⟨w.heap.size, 0, none⟩ = some (.int .u8 3) := by rw [← hW]; simp
  have i1 : W.cell? ⟨w.heap.size, 1, none⟩ = some (.int .i64 ((d : Nat) : Int)) := by rw [← hW]; simp
  have i2 : W.cell? ⟨w.heap.size, 2, none⟩ = some (.int .i64 ((x : Nat) : Int)) := by rw [← hW]; simp
  have i3 : W.cell? ⟨w.heap.size, 3, none⟩ = some (.int .i64 ((y : Nat) : Int)) := by rw [← hW]; simp
  have i4 : W.cell? ⟨w.heap.size, 4, none⟩ = some (.int .i64 imm) := by rw [← hW]; simp
  have i5 : W.cell? ⟨w.heap.size, 5, none⟩ = some (.string sym) := by rw [← hW]; simp
  have r0 : W.cell? ⟨g.rb, 0, none⟩ = some (.slice (some ⟨g.rg, 0, none⟩) s.regs.length s.regs.length) := HR.out.cell 0
  have vd := HR.out.reg hd
  have zd : W.frozen? ⟨g.rg, d, none⟩ = false := frozen_heap HR.out.regs d
  have d0 : (0 : Int) ≤ (d : Int) := by omega
  have d1 : (d : Int) < (s.regs.length : Int) := by omega
  have wd := HR.out.regw hd
  have d2 := wd.1
  have d3 := wd.2
  have Kd := Lib.hid wd
  clear wd
  have vx := HR.out.reg hx
  have zx : W.frozen? ⟨g.rg, x, none⟩ = false := frozen_heap HR.out.regs x
  have x0 : (0 : Int) ≤ (x : Int) := by omega
  have x1 : (x : Int) < (s.regs.length : Int) := by omega
  have wx := HR.out.regw hx
  have x2 := wx.1
  have x3 := wx.2
  have Kx := Lib.hid wx
  clear wx
  have vy := HR.out.reg hy
  have zy : W.frozen? ⟨g.rg, y, none⟩ = false := frozen_heap HR.out.regs y
  have y0 : (0 : Int) ≤ (y : Int) := by omega
  have y1 : (y : Int) < (s.regs.length : Int) := by omega
  have wy := HR.out.regw hy
  have y2 := wy.1
  have y3 := wy.2
  have Ky := Lib.hid wy
  clear wy
  clear h hB
  unfold Ins.val
  go_enter Try.func55, Try.ntmps55
  go_wp2_with fail
  clear hW
  obtain ⟨er, her⟩ : ∃ e, Wd.err imm (s.reg y) = e := ⟨_, rfl⟩
  obtain ⟨rv, hrv⟩ : ∃ v, Wd.apply imm (s.reg x) (s.reg y) = v := ⟨_, rfl⟩
  have HRW : Hid (Wd.W rv) := by show Wd.W _; rw [← hrv]; exact Wd.W_apply imm Kx.out Ky.out
  have HA : Hid (∀ n, Calls Try.prog 57 #[.int .u8 imm, .int .i32 (s.reg x), .int .i32 (s.reg y)] (World.drewN W n) (fun e w'' => e = .returned (.tuple #[.int .i32 rv, .int .i64 er]) ∧ ∃ m, w'' = W.drewN m)) := fun n => (apply_any imm (s.reg x) (s.reg y) ⟨by omega, by omega⟩ Kx.out Ky.out _).mono fun e w'' ⟨h1, h2⟩ => ⟨by rw [h1, her, hrv], n, h2.symm⟩
  have HER := Lib.hid her
  have HRV := Lib.hid hrv
  clear her hrv
  go_quiet (first | (go_at_call 57; with_reducible exact HA.out _))
  generalize hV : World.drewN _ _ = V
  have HRV' : Hid (RunAt N g names V ov s) := by show RunAt _ _ _ _ _ _; rw [← hV]; exact HR.out.same rfl
  have HFV : Hid (Frame g ov ov w V) := by show Frame _ _ _ _ _; rw [← hV]; exact ⟨HF.out.os, HF.out.tape, HF.out.output, HF.out.size, HF.out.block, HF.out.ovs⟩
  have q0 : V.cell? ⟨g.rb, 0, none⟩ = some (.slice (some ⟨g.rg, 0, none⟩) s.regs.length s.regs.length) := HRV'.out.cell 0
  have qd : V.cell? ⟨g.rg, d, none⟩ = some (.int .i32 (s.reg d)) := HRV'.out.reg hd
  have qz : V.frozen? ⟨g.rg, d, none⟩ = false := frozen_heap HRV'.out.regs d
  have j1 : V.cell? ⟨w.heap.size, 1, none⟩ = some (.int .i64 ((d : Nat) : Int)) := by rw [← hV]; exact i1
  clear hV r0 vd zd vx zx vy zy i0 i1 i2 i3 i4 i5
  by_cases h0 : er = 0
  · have hs3 : step names inp ⟨3, (d : Int), (x : Int), (y : Int), imm, sym⟩ s = .ok (s.setReg d rv) := by rw [step_3, HER.out, if_pos h0, HRV.out]
    have h0' : (er == 0) = true := by simpa using h0
    go_wp2_with fail
    go_region
    go_wp2_with fail
    go_ret
    exact StepOk.ok hs3 (HRV'.out.setReg (k := d) HRW.out) (HFV.out.trans (Frame.setCell g.rg d _ (.inr (.inl rfl)))) rfl rfl rfl rfl
  · have hs3 : step names inp ⟨3, (d : Int), (x : Int), (y : Int), imm, sym⟩ s = .error er := by rw [step_3, HER.out, if_neg h0]
    have h0' : (er == 0) = false := by simpa using h0
    go_wp2_with fail
    go_ret
    exact StepOk.trap hs3 HRV'.out HFV.out rfl rfl rfl rfl

end Go.Proofs.Ytjdfcpjlmfaaaaa
