/-
  Contract: instruction (package ir: runner), operation by operation.
-/
import Derived.Test.YteknhnnlhhgppaaDoorIrStep
import Derived.BigRegion
import Derived.Deep.QuietTactic
import Derived.BigQuiet
namespace Go.Proofs.YteknhnnlhhgppaaDoor
set_option linter.unusedVariables false
set_option linter.unusedSimpArgs false
open Go.RowKit
set_option maxRecDepth 100000
set_option maxHeartbeats 4000000
theorem instr_13_0 (N : Nat) (g : Geo) (names : List ByteArray) (inp : List Int) (d : Int) (x : Int) (y : Int) (sym : ByteArray) (w : World) (ov : Value) (s : St) (h : RunAt N g names w ov s)   :
    Calls Tryd.prog 108 #[.pointer (some ⟨g.rb, 0, none⟩), Ins.val ⟨13, d, x, y, (0 : Int), sym⟩] w (StepOk N g names ov s w (step names inp ⟨13, d, x, y, (0 : Int), sym⟩ s)) := by
  obtain ⟨W, hW⟩ : ∃ W : World, w.alloc (.cells #[.int .u8 13, .int .i64 d, .int .i64 x, .int .i64 y, .int .i64 (0 : Int), .string sym] 54) = W := ⟨_, rfl⟩
  have hB : Below w.heap.size w W := by rw [← hW]; exact (Below.refl _ _).alloc (Nat.le_refl _) _
  have hWs : W.heap.size = w.heap.size + 1 := by rw [← hW]; simp
  have HR := Lib.hid (h.keep hB)
  have HF := Lib.hid (Frame.of_below (g := g) (ov := ov) hB)
  have i0 : W.cell? ⟨w.heap.size, 0, none⟩ = some (.int .u8 13) := by rw [← hW]; simp
  have i1 : W.cell? ⟨w.heap.size, 1, none⟩ = some (.int .i64 d) := by rw [← hW]; simp
  have i2 : W.cell? ⟨w.heap.size, 2, none⟩ = some (.int .i64 x) := by rw [← hW]; simp
  have i3 : W.cell? ⟨w.heap.size, 3, none⟩ = some (.int .i64 y) := by rw [← hW]; simp
  have i4 : W.cell? ⟨w.heap.size, 4, none⟩ = some (.int .i64 (0 : Int)) := by rw [← hW]; simp
  have i5 : W.cell? ⟨w.heap.size, 5, none⟩ = some (.string sym) := by rw [← hW]; simp
  have r0 : W.cell? ⟨g.rb, 0, none⟩ = some (.slice (some ⟨g.rg, 0, none⟩) s.regs.length s.regs.length) := HR.out.cell 0
  have r1 : W.cell? ⟨g.rb, 1, none⟩ = some (.int .i32 (s.cnt.getD 0 0)) := HR.out.cell 1
  have z1 : W.frozen? ⟨g.rb, 1, none⟩ = false := frozen_heap HR.out.run 1
  have cw := (HR.out.wf.cnts _ (cnt_mem HR.out.wf 0 (by omega)))
  have cw0 := cw.1
  have cw1 := cw.2
  have CW := Lib.hid cw
  clear cw
  clear h hB
  unfold Ins.val
  go_enter Tryd.func108, Tryd.ntmps108
  go_wp2_with fail
  clear hW
  go_region
  go_wp2_with fail
  go_ret
  exact StepOk.ok step_13 (HR.out.setCount (k := 0) (by omega) ⟨by omega, by omega⟩ rfl) (HF.out.trans (Frame.setCell g.rb _ _ (.inl rfl))) rfl rfl rfl rfl

theorem instr_13_1 (N : Nat) (g : Geo) (names : List ByteArray) (inp : List Int) (d : Int) (x : Int) (y : Int) (sym : ByteArray) (w : World) (ov : Value) (s : St) (h : RunAt N g names w ov s)   :
    Calls Tryd.prog 108 #[.pointer (some ⟨g.rb, 0, none⟩), Ins.val ⟨13, d, x, y, (1 : Int), sym⟩] w (StepOk N g names ov s w (step names inp ⟨13, d, x, y, (1 : Int), sym⟩ s)) := by
  obtain ⟨W, hW⟩ : ∃ W : World, w.alloc (.cells #[.int .u8 13, .int .i64 d, .int .i64 x, .int .i64 y, .int .i64 (1 : Int), .string sym] 54) = W := ⟨_, rfl⟩
  have hB : Below w.heap.size w W := by rw [← hW]; exact (Below.refl _ _).alloc (Nat.le_refl _) _
  have hWs : W.heap.size = w.heap.size + 1 := by rw [← hW]; simp
  have HR := Lib.hid (h.keep hB)
  have HF := Lib.hid (Frame.of_below (g := g) (ov := ov) hB)
  have i0 : W.cell? ⟨w.heap.size, 0, none⟩ = some (.int .u8 13) := by rw [← hW]; simp
  have i1 : W.cell? ⟨w.heap.size, 1, none⟩ = some (.int .i64 d) := by rw [← hW]; simp
  have i2 : W.cell? ⟨w.heap.size, 2, none⟩ = some (.int .i64 x) := by rw [← hW]; simp
  have i3 : W.cell? ⟨w.heap.size, 3, none⟩ = some (.int .i64 y) := by rw [← hW]; simp
  have i4 : W.cell? ⟨w.heap.size, 4, none⟩ = some (.int .i64 (1 : Int)) := by rw [← hW]; simp
  have i5 : W.cell? ⟨w.heap.size, 5, none⟩ = some (.string sym) := by rw [← hW]; simp
  have r0 : W.cell? ⟨g.rb, 0, none⟩ = some (.slice (some ⟨g.rg, 0, none⟩) s.regs.length s.regs.length) := HR.out.cell 0
  have r2 : W.cell? ⟨g.rb, 2, none⟩ = some (.int .i32 (s.cnt.getD 1 0)) := HR.out.cell 2
  have z2 : W.frozen? ⟨g.rb, 2, none⟩ = false := frozen_heap HR.out.run 2
  have cw := (HR.out.wf.cnts _ (cnt_mem HR.out.wf 1 (by omega)))
  have cw0 := cw.1
  have cw1 := cw.2
  have CW := Lib.hid cw
  clear cw
  clear h hB
  unfold Ins.val
  go_enter Tryd.func108, Tryd.ntmps108
  go_wp2_with fail
  clear hW
  go_region
  go_wp2_with fail
  go_ret
  exact StepOk.ok step_13 (HR.out.setCount (k := 1) (by omega) ⟨by omega, by omega⟩ rfl) (HF.out.trans (Frame.setCell g.rb _ _ (.inl rfl))) rfl rfl rfl rfl

theorem instr_13_2 (N : Nat) (g : Geo) (names : List ByteArray) (inp : List Int) (d : Int) (x : Int) (y : Int) (sym : ByteArray) (w : World) (ov : Value) (s : St) (h : RunAt N g names w ov s)   :
    Calls Tryd.prog 108 #[.pointer (some ⟨g.rb, 0, none⟩), Ins.val ⟨13, d, x, y, (2 : Int), sym⟩] w (StepOk N g names ov s w (step names inp ⟨13, d, x, y, (2 : Int), sym⟩ s)) := by
  obtain ⟨W, hW⟩ : ∃ W : World, w.alloc (.cells #[.int .u8 13, .int .i64 d, .int .i64 x, .int .i64 y, .int .i64 (2 : Int), .string sym] 54) = W := ⟨_, rfl⟩
  have hB : Below w.heap.size w W := by rw [← hW]; exact (Below.refl _ _).alloc (Nat.le_refl _) _
  have hWs : W.heap.size = w.heap.size + 1 := by rw [← hW]; simp
  have HR := Lib.hid (h.keep hB)
  have HF := Lib.hid (Frame.of_below (g := g) (ov := ov) hB)
  have i0 : W.cell? ⟨w.heap.size, 0, none⟩ = some (.int .u8 13) := by rw [← hW]; simp
  have i1 : W.cell? ⟨w.heap.size, 1, none⟩ = some (.int .i64 d) := by rw [← hW]; simp
  have i2 : W.cell? ⟨w.heap.size, 2, none⟩ = some (.int .i64 x) := by rw [← hW]; simp
  have i3 : W.cell? ⟨w.heap.size, 3, none⟩ = some (.int .i64 y) := by rw [← hW]; simp
  have i4 : W.cell? ⟨w.heap.size, 4, none⟩ = some (.int .i64 (2 : Int)) := by rw [← hW]; simp
  have i5 : W.cell? ⟨w.heap.size, 5, none⟩ = some (.string sym) := by rw [← hW]; simp
  have r0 : W.cell? ⟨g.rb, 0, none⟩ = some (.slice (some ⟨g.rg, 0, none⟩) s.regs.length s.regs.length) := HR.out.cell 0
  have r3 : W.cell? ⟨g.rb, 3, none⟩ = some (.int .i32 (s.cnt.getD 2 0)) := HR.out.cell 3
  have z3 : W.frozen? ⟨g.rb, 3, none⟩ = false := frozen_heap HR.out.run 3
  have cw := (HR.out.wf.cnts _ (cnt_mem HR.out.wf 2 (by omega)))
  have cw0 := cw.1
  have cw1 := cw.2
  have CW := Lib.hid cw
  clear cw
  clear h hB
  unfold Ins.val
  go_enter Tryd.func108, Tryd.ntmps108
  go_wp2_with fail
  clear hW
  go_region
  go_wp2_with fail
  go_ret
  exact StepOk.ok step_13 (HR.out.setCount (k := 2) (by omega) ⟨by omega, by omega⟩ rfl) (HF.out.trans (Frame.setCell g.rb _ _ (.inl rfl))) rfl rfl rfl rfl

theorem instr_13_3 (N : Nat) (g : Geo) (names : List ByteArray) (inp : List Int) (d : Int) (x : Int) (y : Int) (sym : ByteArray) (w : World) (ov : Value) (s : St) (h : RunAt N g names w ov s)   :
    Calls Tryd.prog 108 #[.pointer (some ⟨g.rb, 0, none⟩), Ins.val ⟨13, d, x, y, (3 : Int), sym⟩] w (StepOk N g names ov s w (step names inp ⟨13, d, x, y, (3 : Int), sym⟩ s)) := by
  obtain ⟨W, hW⟩ : ∃ W : World, w.alloc (.cells #[.int .u8 13, .int .i64 d, .int .i64 x, .int .i64 y, .int .i64 (3 : Int), .string sym] 54) = W := ⟨_, rfl⟩
  have hB : Below w.heap.size w W := by rw [← hW]; exact (Below.refl _ _).alloc (Nat.le_refl _) _
  have hWs : W.heap.size = w.heap.size + 1 := by rw [← hW]; simp
  have HR := Lib.hid (h.keep hB)
  have HF := Lib.hid (Frame.of_below (g := g) (ov := ov) hB)
  have i0 : W.cell? ⟨w.heap.size, 0, none⟩ = some (.int .u8 13) := by rw [← hW]; simp
  have i1 : W.cell? ⟨w.heap.size, 1, none⟩ = some (.int .i64 d) := by rw [← hW]; simp
  have i2 : W.cell? ⟨w.heap.size, 2, none⟩ = some (.int .i64 x) := by rw [← hW]; simp
  have i3 : W.cell? ⟨w.heap.size, 3, none⟩ = some (.int .i64 y) := by rw [← hW]; simp
  have i4 : W.cell? ⟨w.heap.size, 4, none⟩ = some (.int .i64 (3 : Int)) := by rw [← hW]; simp
  have i5 : W.cell? ⟨w.heap.size, 5, none⟩ = some (.string sym) := by rw [← hW]; simp
  have r0 : W.cell? ⟨g.rb, 0, none⟩ = some (.slice (some ⟨g.rg, 0, none⟩) s.regs.length s.regs.length) := HR.out.cell 0
  have r4 : W.cell? ⟨g.rb, 4, none⟩ = some (.int .i32 (s.cnt.getD 3 0)) := HR.out.cell 4
  have z4 : W.frozen? ⟨g.rb, 4, none⟩ = false := frozen_heap HR.out.run 4
  have cw := (HR.out.wf.cnts _ (cnt_mem HR.out.wf 3 (by omega)))
  have cw0 := cw.1
  have cw1 := cw.2
  have CW := Lib.hid cw
  clear cw
  clear h hB
  unfold Ins.val
  go_enter Tryd.func108, Tryd.ntmps108
  go_wp2_with fail
  clear hW
  go_region
  go_wp2_with fail
  go_ret
  exact StepOk.ok step_13 (HR.out.setCount (k := 3) (by omega) ⟨by omega, by omega⟩ rfl) (HF.out.trans (Frame.setCell g.rb _ _ (.inl rfl))) rfl rfl rfl rfl


theorem instr_14_0 (N : Nat) (g : Geo) (names : List ByteArray) (inp : List Int) (d : Int) (x : Int) (y : Int) (sym : ByteArray) (w : World) (ov : Value) (s : St) (h : RunAt N g names w ov s)   :
    Calls Tryd.prog 108 #[.pointer (some ⟨g.rb, 0, none⟩), Ins.val ⟨14, d, x, y, (0 : Int), sym⟩] w (StepOk N g names ov s w (step names inp ⟨14, d, x, y, (0 : Int), sym⟩ s)) := by
  obtain ⟨W, hW⟩ : ∃ W : World, w.alloc (.cells #[.int .u8 14, .int .i64 d, .int .i64 x, .int .i64 y, .int .i64 (0 : Int), .string sym] 54) = W := ⟨_, rfl⟩
  have hB : Below w.heap.size w W := by rw [← hW]; exact (Below.refl _ _).alloc (Nat.le_refl _) _
  have hWs : W.heap.size = w.heap.size + 1 := by rw [← hW]; simp
  have HR := Lib.hid (h.keep hB)
  have HF := Lib.hid (Frame.of_below (g := g) (ov := ov) hB)
  have i0 : W.cell? ⟨w.heap.size, 0, none⟩ = some (.int .u8 14) := by rw [← hW]; simp
  have i1 : W.cell? ⟨w.heap.size, 1, none⟩ = some (.int .i64 d) := by rw [← hW]; simp
  have i2 : W.cell? ⟨w.heap.size, 2, none⟩ = some (.int .i64 x) := by rw [← hW]; simp
  have i3 : W.cell? ⟨w.heap.size, 3, none⟩ = some (.int .i64 y) := by rw [← hW]; simp
  have i4 : W.cell? ⟨w.heap.size, 4, none⟩ = some (.int .i64 (0 : Int)) := by rw [← hW]; simp
  have i5 : W.cell? ⟨w.heap.size, 5, none⟩ = some (.string sym) := by rw [← hW]; simp
  have r0 : W.cell? ⟨g.rb, 0, none⟩ = some (.slice (some ⟨g.rg, 0, none⟩) s.regs.length s.regs.length) := HR.out.cell 0
  have r1 : W.cell? ⟨g.rb, 1, none⟩ = some (.int .i32 (s.cnt.getD 0 0)) := HR.out.cell 1
  have z1 : W.frozen? ⟨g.rb, 1, none⟩ = false := frozen_heap HR.out.run 1
  have cw := (HR.out.wf.cnts _ (cnt_mem HR.out.wf 0 (by omega)))
  have cw0 := cw.1
  have cw1 := cw.2
  have CW := Lib.hid cw
  clear cw
  clear h hB
  unfold Ins.val
  go_enter Tryd.func108, Tryd.ntmps108
  go_wp2_with fail
  clear hW
  go_region
  go_wp2_with fail
  go_ret
  exact StepOk.ok step_14 (HR.out.setCount (k := 0) (by omega) (Wd.W_wrap _) rfl) (HF.out.trans (Frame.setCell g.rb _ _ (.inl rfl))) rfl rfl rfl rfl

theorem instr_14_1 (N : Nat) (g : Geo) (names : List ByteArray) (inp : List Int) (d : Int) (x : Int) (y : Int) (sym : ByteArray) (w : World) (ov : Value) (s : St) (h : RunAt N g names w ov s)   :
    Calls Tryd.prog 108 #[.pointer (some ⟨g.rb, 0, none⟩), Ins.val ⟨14, d, x, y, (1 : Int), sym⟩] w (StepOk N g names ov s w (step names inp ⟨14, d, x, y, (1 : Int), sym⟩ s)) := by
  obtain ⟨W, hW⟩ : ∃ W : World, w.alloc (.cells #[.int .u8 14, .int .i64 d, .int .i64 x, .int .i64 y, .int .i64 (1 : Int), .string sym] 54) = W := ⟨_, rfl⟩
  have hB : Below w.heap.size w W := by rw [← hW]; exact (Below.refl _ _).alloc (Nat.le_refl _) _
  have hWs : W.heap.size = w.heap.size + 1 := by rw [← hW]; simp
  have HR := Lib.hid (h.keep hB)
  have HF := Lib.hid (Frame.of_below (g := g) (ov := ov) hB)
  have i0 : W.cell? ⟨w.heap.size, 0, none⟩ = some (.int .u8 14) := by rw [← hW]; simp
  have i1 : W.cell? ⟨w.heap.size, 1, none⟩ = some (.int .i64 d) := by rw [← hW]; simp
  have i2 : W.cell? ⟨w.heap.size, 2, none⟩ = some (.int .i64 x) := by rw [← hW]; simp
  have i3 : W.cell? ⟨w.heap.size, 3, none⟩ = some (.int .i64 y) := by rw [← hW]; simp
  have i4 : W.cell? ⟨w.heap.size, 4, none⟩ = some (.int .i64 (1 : Int)) := by rw [← hW]; simp
  have i5 : W.cell? ⟨w.heap.size, 5, none⟩ = some (.string sym) := by rw [← hW]; simp
  have r0 : W.cell? ⟨g.rb, 0, none⟩ = some (.slice (some ⟨g.rg, 0, none⟩) s.regs.length s.regs.length) := HR.out.cell 0
  have r2 : W.cell? ⟨g.rb, 2, none⟩ = some (.int .i32 (s.cnt.getD 1 0)) := HR.out.cell 2
  have z2 : W.frozen? ⟨g.rb, 2, none⟩ = false := frozen_heap HR.out.run 2
  have cw := (HR.out.wf.cnts _ (cnt_mem HR.out.wf 1 (by omega)))
  have cw0 := cw.1
  have cw1 := cw.2
  have CW := Lib.hid cw
  clear cw
  clear h hB
  unfold Ins.val
  go_enter Tryd.func108, Tryd.ntmps108
  go_wp2_with fail
  clear hW
  go_region
  go_wp2_with fail
  go_ret
  exact StepOk.ok step_14 (HR.out.setCount (k := 1) (by omega) (Wd.W_wrap _) rfl) (HF.out.trans (Frame.setCell g.rb _ _ (.inl rfl))) rfl rfl rfl rfl

theorem instr_14_2 (N : Nat) (g : Geo) (names : List ByteArray) (inp : List Int) (d : Int) (x : Int) (y : Int) (sym : ByteArray) (w : World) (ov : Value) (s : St) (h : RunAt N g names w ov s)   :
    Calls Tryd.prog 108 #[.pointer (some ⟨g.rb, 0, none⟩), Ins.val ⟨14, d, x, y, (2 : Int), sym⟩] w (StepOk N g names ov s w (step names inp ⟨14, d, x, y, (2 : Int), sym⟩ s)) := by
  obtain ⟨W, hW⟩ : ∃ W : World, w.alloc (.cells #[.int .u8 14, .int .i64 d, .int .i64 x, .int .i64 y, .int .i64 (2 : Int), .string sym] 54) = W := ⟨_, rfl⟩
  have hB : Below w.heap.size w W := by rw [← hW]; exact (Below.refl _ _).alloc (Nat.le_refl _) _
  have hWs : W.heap.size = w.heap.size + 1 := by rw [← hW]; simp
  have HR := Lib.hid (h.keep hB)
  have HF := Lib.hid (Frame.of_below (g := g) (ov := ov) hB)
  have i0 : W.cell? ⟨w.heap.size, 0, none⟩ = some (.int .u8 14) := by rw [← hW]; simp
  have i1 : W.cell? ⟨w.heap.size, 1, none⟩ = some (.int .i64 d) := by rw [← hW]; simp
  have i2 : W.cell? ⟨w.heap.size, 2, none⟩ = some (.int .i64 x) := by rw [← hW]; simp
  have i3 : W.cell? ⟨w.heap.size, 3, none⟩ = some (.int .i64 y) := by rw [← hW]; simp
  have i4 : W.cell? ⟨w.heap.size, 4, none⟩ = some (.int .i64 (2 : Int)) := by rw [← hW]; simp
  have i5 : W.cell? ⟨w.heap.size, 5, none⟩ = some (.string sym) := by rw [← hW]; simp
  have r0 : W.cell? ⟨g.rb, 0, none⟩ = some (.slice (some ⟨g.rg, 0, none⟩) s.regs.length s.regs.length) := HR.out.cell 0
  have r3 : W.cell? ⟨g.rb, 3, none⟩ = some (.int .i32 (s.cnt.getD 2 0)) := HR.out.cell 3
  have z3 : W.frozen? ⟨g.rb, 3, none⟩ = false := frozen_heap HR.out.run 3
  have cw := (HR.out.wf.cnts _ (cnt_mem HR.out.wf 2 (by omega)))
  have cw0 := cw.1
  have cw1 := cw.2
  have CW := Lib.hid cw
  clear cw
  clear h hB
  unfold Ins.val
  go_enter Tryd.func108, Tryd.ntmps108
  go_wp2_with fail
  clear hW
  go_region
  go_wp2_with fail
  go_ret
  exact StepOk.ok step_14 (HR.out.setCount (k := 2) (by omega) (Wd.W_wrap _) rfl) (HF.out.trans (Frame.setCell g.rb _ _ (.inl rfl))) rfl rfl rfl rfl

theorem instr_14_3 (N : Nat) (g : Geo) (names : List ByteArray) (inp : List Int) (d : Int) (x : Int) (y : Int) (sym : ByteArray) (w : World) (ov : Value) (s : St) (h : RunAt N g names w ov s)   :
    Calls Tryd.prog 108 #[.pointer (some ⟨g.rb, 0, none⟩), Ins.val ⟨14, d, x, y, (3 : Int), sym⟩] w (StepOk N g names ov s w (step names inp ⟨14, d, x, y, (3 : Int), sym⟩ s)) := by
  obtain ⟨W, hW⟩ : ∃ W : World, w.alloc (.cells #[.int .u8 14, .int .i64 d, .int .i64 x, .int .i64 y, .int .i64 (3 : Int), .string sym] 54) = W := ⟨_, rfl⟩
  have hB : Below w.heap.size w W := by rw [← hW]; exact (Below.refl _ _).alloc (Nat.le_refl _) _
  have hWs : W.heap.size = w.heap.size + 1 := by rw [← hW]; simp
  have HR := Lib.hid (h.keep hB)
  have HF := Lib.hid (Frame.of_below (g := g) (ov := ov) hB)
  have i0 : W.cell? ⟨w.heap.size, 0, none⟩ = some (.int .u8 14) := by rw [← hW]; simp
  have i1 : W.cell? ⟨w.heap.size, 1, none⟩ = some (.int .i64 d) := by rw [← hW]; simp
  have i2 : W.cell? ⟨w.heap.size, 2, none⟩ = some (.int .i64 x) := by rw [← hW]; simp
  have i3 : W.cell? ⟨w.heap.size, 3, none⟩ = some (.int .i64 y) := by rw [← hW]; simp
  have i4 : W.cell? ⟨w.heap.size, 4, none⟩ = some (.int .i64 (3 : Int)) := by rw [← hW]; simp
  have i5 : W.cell? ⟨w.heap.size, 5, none⟩ = some (.string sym) := by rw [← hW]; simp
  have r0 : W.cell? ⟨g.rb, 0, none⟩ = some (.slice (some ⟨g.rg, 0, none⟩) s.regs.length s.regs.length) := HR.out.cell 0
  have r4 : W.cell? ⟨g.rb, 4, none⟩ = some (.int .i32 (s.cnt.getD 3 0)) := HR.out.cell 4
  have z4 : W.frozen? ⟨g.rb, 4, none⟩ = false := frozen_heap HR.out.run 4
  have cw := (HR.out.wf.cnts _ (cnt_mem HR.out.wf 3 (by omega)))
  have cw0 := cw.1
  have cw1 := cw.2
  have CW := Lib.hid cw
  clear cw
  clear h hB
  unfold Ins.val
  go_enter Tryd.func108, Tryd.ntmps108
  go_wp2_with fail
  clear hW
  go_region
  go_wp2_with fail
  go_ret
  exact StepOk.ok step_14 (HR.out.setCount (k := 3) (by omega) (Wd.W_wrap _) rfl) (HF.out.trans (Frame.setCell g.rb _ _ (.inl rfl))) rfl rfl rfl rfl


end Go.Proofs.YteknhnnlhhgppaaDoor
