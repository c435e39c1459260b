/-
  Mg39: several texts in one (IrStep3, IrStep4).
-/
import Derived.Test.YteknhnnlhhgppaaDoorIrStep
import Derived.BigRegion
import Derived.Deep.QuietTactic
import Derived.BigQuiet
/-
  Contract: instruction (package ir: runner), operation by operation.
-/
namespace Go.Proofs.YteknhnnlhhgppaaDoor
set_option linter.unusedVariables false
set_option linter.unusedSimpArgs false
open Go.RowKit
set_option maxRecDepth 100000
set_option maxHeartbeats 4000000
theorem instr_15_0 (N : Nat) (g : Geo) (names : List ByteArray) (inp : List Int) (d : Nat) (x : Int) (y : Int) (sym : ByteArray) (w : World) (ov : Value) (s : St) (h : RunAt N g names w ov s) (hd : d < s.regs.length)  :
    Calls Tryd.prog 108 #[.pointer (some ⟨g.rb, 0, none⟩), Ins.val ⟨15, ((d : Nat) : Int), x, y, (0 : Int), sym⟩] w (StepOk N g names ov s w (step names inp ⟨15, ((d : Nat) : Int), x, y, (0 : Int), sym⟩ s)) := by
  obtain ⟨W, hW⟩ : ∃ W : World, w.alloc (.cells #[.int .u8 15, .int .i64 ((d : Nat) : Int), .int .i64 x, .int .i64 y, .int .i64 (0 : Int), .string sym] 54) = W := ⟨_, rfl⟩
  have hB : Below w.heap.size w W := by rw [← hW]; exact (Below.refl _ _).alloc (Nat.le_refl _) _
  have hWs : W.heap.size = w.heap.size + 1 := by rw [← hW]; simp
  have HR := Lib.hid (h.keep hB)
  have HF := Lib.hid (Frame.of_below (g := g) (ov := ov) hB)
  have i0 : W.cell? ⟨w.heap.size, 0, none⟩ = some (.int .u8 15) := by rw [← hW]; simp
  have i1 : W.cell? ⟨w.heap.size, 1, none⟩ = some (.int .i64 ((d : Nat) : Int)) := by rw [← hW]; simp
  have i2 : W.cell? ⟨w.heap.size, 2, none⟩ = some (.int .i64 x) := by rw [← hW]; simp
  have i3 : W.cell? ⟨w.heap.size, 3, none⟩ = some (.int .i64 y) := by rw [← hW]; simp
  have i4 : W.cell? ⟨w.heap.size, 4, none⟩ = some (.int .i64 (0 : Int)) := by rw [← hW]; simp
  have i5 : W.cell? ⟨w.heap.size, 5, none⟩ = some (.string sym) := by rw [← hW]; simp
  have r0 : W.cell? ⟨g.rb, 0, none⟩ = some (.slice (some ⟨g.rg, 0, none⟩) s.regs.length s.regs.length) := HR.out.cell 0
  have r1 : W.cell? ⟨g.rb, 1, none⟩ = some (.int .i32 (s.cnt.getD 0 0)) := HR.out.cell 1
  have z1 : W.frozen? ⟨g.rb, 1, none⟩ = false := frozen_heap HR.out.run 1
  have vd := HR.out.reg hd
  have zd : W.frozen? ⟨g.rg, d, none⟩ = false := frozen_heap HR.out.regs d
  have d0 : (0 : Int) ≤ (d : Int) := by omega
  have d1 : (d : Int) < (s.regs.length : Int) := by omega
  have wd := HR.out.regw hd
  have d2 := wd.1
  have d3 := wd.2
  have Kd := Lib.hid wd
  clear wd
  have cw := (HR.out.wf.cnts _ (cnt_mem HR.out.wf 0 (by omega)))
  have cw0 := cw.1
  have cw1 := cw.2
  have CW := Lib.hid cw
  clear cw
  clear h hB
  unfold Ins.val
  go_enter Tryd.func108, Tryd.ntmps108
  go_wp2_with fail
  clear hW
  go_region
  go_wp2_with fail
  go_ret
  exact StepOk.ok step_15 (HR.out.setReg (k := d) CW.out) (HF.out.trans (Frame.setCell g.rg d _ (.inr (.inl rfl)))) rfl rfl rfl rfl

theorem instr_15_1 (N : Nat) (g : Geo) (names : List ByteArray) (inp : List Int) (d : Nat) (x : Int) (y : Int) (sym : ByteArray) (w : World) (ov : Value) (s : St) (h : RunAt N g names w ov s) (hd : d < s.regs.length)  :
    Calls Tryd.prog 108 #[.pointer (some ⟨g.rb, 0, none⟩), Ins.val ⟨15, ((d : Nat) : Int), x, y, (1 : Int), sym⟩] w (StepOk N g names ov s w (step names inp ⟨15, ((d : Nat) : Int), x, y, (1 : Int), sym⟩ s)) := by
  obtain ⟨W, hW⟩ : ∃ W : World, w.alloc (.cells #[.int .u8 15, .int .i64 ((d : Nat) : Int), .int .i64 x, .int .i64 y, .int .i64 (1 : Int), .string sym] 54) = W := ⟨_, rfl⟩
  have hB : Below w.heap.size w W := by rw [← hW]; exact (Below.refl _ _).alloc (Nat.le_refl _) _
  have hWs : W.heap.size = w.heap.size + 1 := by rw [← hW]; simp
  have HR := Lib.hid (h.keep hB)
  have HF := Lib.hid (Frame.of_below (g := g) (ov := ov) hB)
  have i0 : W.cell? ⟨w.heap.size, 0, none⟩ = some (.int .u8 15) := by rw [← hW]; simp
  have i1 : W.cell? ⟨w.heap.size, 1, none⟩ = some (.int .i64 ((d : Nat) : Int)) := by rw [← hW]; simp
  have i2 : W.cell? ⟨w.heap.size, 2, none⟩ = some (.int .i64 x) := by rw [← hW]; simp
  have i3 : W.cell? ⟨w.heap.size, 3, none⟩ = some (.int .i64 y) := by rw [← hW]; simp
  have i4 : W.cell? ⟨w.heap.size, 4, none⟩ = some (.int .i64 (1 : Int)) := by rw [← hW]; simp
  have i5 : W.cell? ⟨w.heap.size, 5, none⟩ = some (.string sym) := by rw [← hW]; simp
  have r0 : W.cell? ⟨g.rb, 0, none⟩ = some (.slice (some ⟨g.rg, 0, none⟩) s.regs.length s.regs.length) := HR.out.cell 0
  have r2 : W.cell? ⟨g.rb, 2, none⟩ = some (.int .i32 (s.cnt.getD 1 0)) := HR.out.cell 2
  have z2 : W.frozen? ⟨g.rb, 2, none⟩ = false := frozen_heap HR.out.run 2
  have vd := HR.out.reg hd
  have zd : W.frozen? ⟨g.rg, d, none⟩ = false := frozen_heap HR.out.regs d
  have d0 : (0 : Int) ≤ (d : Int) := by omega
  have d1 : (d : Int) < (s.regs.length : Int) := by omega
  have wd := HR.out.regw hd
  have d2 := wd.1
  have d3 := wd.2
  have Kd := Lib.hid wd
  clear wd
  have cw := (HR.out.wf.cnts _ (cnt_mem HR.out.wf 1 (by omega)))
  have cw0 := cw.1
  have cw1 := cw.2
  have CW := Lib.hid cw
  clear cw
  clear h hB
  unfold Ins.val
  go_enter Tryd.func108, Tryd.ntmps108
  go_wp2_with fail
  clear hW
  go_region
  go_wp2_with fail
  go_ret
  exact StepOk.ok step_15 (HR.out.setReg (k := d) CW.out) (HF.out.trans (Frame.setCell g.rg d _ (.inr (.inl rfl)))) rfl rfl rfl rfl

theorem instr_15_2 (N : Nat) (g : Geo) (names : List ByteArray) (inp : List Int) (d : Nat) (x : Int) (y : Int) (sym : ByteArray) (w : World) (ov : Value) (s : St) (h : RunAt N g names w ov s) (hd : d < s.regs.length)  :
    Calls Tryd.prog 108 #[.pointer (some ⟨g.rb, 0, none⟩), Ins.val ⟨15, ((d : Nat) : Int), x, y, (2 : Int), sym⟩] w (StepOk N g names ov s w (step names inp ⟨15, ((d : Nat) : Int), x, y, (2 : Int), sym⟩ s)) := by
  obtain ⟨W, hW⟩ : ∃ W : World, w.alloc (.cells #[.int .u8 15, .int .i64 ((d : Nat) : Int), .int .i64 x, .int .i64 y, .int .i64 (2 : Int), .string sym] 54) = W := ⟨_, rfl⟩
  have hB : Below w.heap.size w W := by rw [← hW]; exact (Below.refl _ _).alloc (Nat.le_refl _) _
  have hWs : W.heap.size = w.heap.size + 1 := by rw [← hW]; simp
  have HR := Lib.hid (h.keep hB)
  have HF := Lib.hid (Frame.of_below (g := g) (ov := ov) hB)
  have i0 : W.cell? ⟨w.heap.size, 0, none⟩ = some (.int .u8 15) := by rw [← hW]; simp
  have i1 : W.cell? ⟨w.heap.size, 1, none⟩ = some (.int .i64 ((d : Nat) : Int)) := by rw [← hW]; simp
  have i2 : W.cell? ⟨w.heap.size, 2, none⟩ = some (.int .i64 x) := by rw [← hW]; simp
  have i3 : W.cell? ⟨w.heap.size, 3, none⟩ = some (.int .i64 y) := by rw [← hW]; simp
  have i4 : W.cell? ⟨w.heap.size, 4, none⟩ = some (.int .i64 (2 : Int)) := by rw [← hW]; simp
  have i5 : W.cell? ⟨w.heap.size, 5, none⟩ = some (.string sym) := by rw [← hW]; simp
  have r0 : W.cell? ⟨g.rb, 0, none⟩ = some (.slice (some ⟨g.rg, 0, none⟩) s.regs.length s.regs.length) := HR.out.cell 0
  have r3 : W.cell? ⟨g.rb, 3, none⟩ = some (.int .i32 (s.cnt.getD 2 0)) := HR.out.cell 3
  have z3 : W.frozen? ⟨g.rb, 3, none⟩ = false := frozen_heap HR.out.run 3
  have vd := HR.out.reg hd
  have zd : W.frozen? ⟨g.rg, d, none⟩ = false := frozen_heap HR.out.regs d
  have d0 : (0 : Int) ≤ (d : Int) := by omega
  have d1 : (d : Int) < (s.regs.length : Int) := by omega
  have wd := HR.out.regw hd
  have d2 := wd.1
  have d3 := wd.2
  have Kd := Lib.hid wd
  clear wd
  have cw := (HR.out.wf.cnts _ (cnt_mem HR.out.wf 2 (by omega)))
  have cw0 := cw.1
  have cw1 := cw.2
  have CW := Lib.hid cw
  clear cw
  clear h hB
  unfold Ins.val
  go_enter Tryd.func108, Tryd.ntmps108
  go_wp2_with fail
  clear hW
  go_region
  go_wp2_with fail
  go_ret
  exact StepOk.ok step_15 (HR.out.setReg (k := d) CW.out) (HF.out.trans (Frame.setCell g.rg d _ (.inr (.inl rfl)))) rfl rfl rfl rfl

theorem instr_15_3 (N : Nat) (g : Geo) (names : List ByteArray) (inp : List Int) (d : Nat) (x : Int) (y : Int) (sym : ByteArray) (w : World) (ov : Value) (s : St) (h : RunAt N g names w ov s) (hd : d < s.regs.length)  :
    Calls Tryd.prog 108 #[.pointer (some ⟨g.rb, 0, none⟩), Ins.val ⟨15, ((d : Nat) : Int), x, y, (3 : Int), sym⟩] w (StepOk N g names ov s w (step names inp ⟨15, ((d : Nat) : Int), x, y, (3 : Int), sym⟩ s)) := by
  obtain ⟨W, hW⟩ : ∃ W : World, w.alloc (.cells #[.int .u8 15, .int .i64 ((d : Nat) : Int), .int .i64 x, .int .i64 y, .int .i64 (3 : Int), .string sym] 54) = W := ⟨_, rfl⟩
  have hB : Below w.heap.size w W := by rw [← hW]; exact (Below.refl _ _).alloc (Nat.le_refl _) _
  have hWs : W.heap.size = w.heap.size + 1 := by rw [← hW]; simp
  have HR := Lib.hid (h.keep hB)
  have HF := Lib.hid (Frame.of_below (g := g) (ov := ov) hB)
  have i0 : W.cell? ⟨w.heap.size, 0, none⟩ = some (.int .u8 15) := by rw [← hW]; simp
  have i1 : W.cell? ⟨w.heap.size, 1, none⟩ = some (.int .i64 ((d : Nat) : Int)) := by rw [← hW]; simp
  have i2 : W.cell? ⟨w.heap.size, 2, none⟩ = some (.int .i64 x) := by rw [← hW]; simp
  have i3 : W.cell? ⟨w.heap.size, 3, none⟩ = some (.int .i64 y) := by rw [← hW]; simp
  have i4 : W.cell? ⟨w.heap.size, 4, none⟩ = some (.int .i64 (3 : Int)) := by rw [← hW]; simp
  have i5 : W.cell? ⟨w.heap.size, 5, none⟩ = some (.string sym) := by rw [← hW]; simp
  have r0 : W.cell? ⟨g.rb, 0, none⟩ = some (.slice (some ⟨g.rg, 0, none⟩) s.regs.length s.regs.length) := HR.out.cell 0
  have r4 : W.cell? ⟨g.rb, 4, none⟩ = some (.int .i32 (s.cnt.getD 3 0)) := HR.out.cell 4
  have z4 : W.frozen? ⟨g.rb, 4, none⟩ = false := frozen_heap HR.out.run 4
  have vd := HR.out.reg hd
  have zd : W.frozen? ⟨g.rg, d, none⟩ = false := frozen_heap HR.out.regs d
  have d0 : (0 : Int) ≤ (d : Int) := by omega
  have d1 : (d : Int) < (s.regs.length : Int) := by omega
  have wd := HR.out.regw hd
  have d2 := wd.1
  have d3 := wd.2
  have Kd := Lib.hid wd
  clear wd
  have cw := (HR.out.wf.cnts _ (cnt_mem HR.out.wf 3 (by omega)))
  have cw0 := cw.1
  have cw1 := cw.2
  have CW := Lib.hid cw
  clear cw
  clear h hB
  unfold Ins.val
  go_enter Tryd.func108, Tryd.ntmps108
  go_wp2_with fail
  clear hW
  go_region
  go_wp2_with fail
  go_ret
  exact StepOk.ok step_15 (HR.out.setReg (k := d) CW.out) (HF.out.trans (Frame.setCell g.rg d _ (.inr (.inl rfl)))) rfl rfl rfl rfl


end Go.Proofs.YteknhnnlhhgppaaDoor

/-
  Contract: instruction (package ir: runner), operation by operation.
-/
namespace Go.Proofs.YteknhnnlhhgppaaDoor
set_option linter.unusedVariables false
set_option linter.unusedSimpArgs false
open Go.RowKit
set_option maxRecDepth 100000
set_option maxHeartbeats 4000000
theorem instr_11t (N : Nat) (g : Geo) (names : List ByteArray) (inp : List Int) (d : Int) (x : Int) (y : Int) (imm : Int) (sym : ByteArray) (w : World) (ov : Value) (s : St) (h : RunAt N g names w ov s)  (hs : sym.size ≤ 9223372036854775807) (hl : s.locked = true) :
    Calls Tryd.prog 108 #[.pointer (some ⟨g.rb, 0, none⟩), Ins.val ⟨11, d, x, y, imm, sym⟩] w (StepOk N g names ov s w (step names inp ⟨11, d, x, y, imm, sym⟩ s)) := by
  obtain ⟨W, hW⟩ : ∃ W : World, w.alloc (.cells #[.int .u8 11, .int .i64 d, .int .i64 x, .int .i64 y, .int .i64 imm, .string sym] 54) = W := ⟨_, rfl⟩
  have hB : Below w.heap.size w W := by rw [← hW]; exact (Below.refl _ _).alloc (Nat.le_refl _) _
  have hWs : W.heap.size = w.heap.size + 1 := by rw [← hW]; simp
  have HR := Lib.hid (h.keep hB)
  have HF := Lib.hid (Frame.of_below (g := g) (ov := ov) hB)
  have i0 : W.cell? ⟨w.heap.size, 0, none⟩ = some (.int .u8 11) := by rw [← hW]; simp
  have i1 : W.cell? ⟨w.heap.size, 1, none⟩ = some (.int .i64 d) := by rw [← hW]; simp
  have i2 : W.cell? ⟨w.heap.size, 2, none⟩ = some (.int .i64 x) := by rw [← hW]; simp
  have i3 : W.cell? ⟨w.heap.size, 3, none⟩ = some (.int .i64 y) := by rw [← hW]; simp
  have i4 : W.cell? ⟨w.heap.size, 4, none⟩ = some (.int .i64 imm) := by rw [← hW]; simp
  have i5 : W.cell? ⟨w.heap.size, 5, none⟩ = some (.string sym) := by rw [← hW]; simp
  have r0 : W.cell? ⟨g.rb, 0, none⟩ = some (.slice (some ⟨g.rg, 0, none⟩) s.regs.length s.regs.length) := HR.out.cell 0
  have r6 : W.cell? ⟨g.rb, 6, none⟩ = some (.bool s.locked) := HR.out.cell 6
  have z6 : W.frozen? ⟨g.rb, 6, none⟩ = false := frozen_heap HR.out.run 6
  have r7 : W.cell? ⟨g.rb, 7, none⟩ = some (.string s.held) := HR.out.cell 7
  have z7 : W.frozen? ⟨g.rb, 7, none⟩ = false := frozen_heap HR.out.run 7
  rw [hl] at r6
  clear h hB
  unfold Ins.val
  go_enter Tryd.func108, Tryd.ntmps108
  go_wp2_with fail
  clear hW
  go_ret
  exact StepOk.trap (by rw [step_11, if_pos hl]) HR.out HF.out rfl rfl rfl rfl

theorem instr_11f (N : Nat) (g : Geo) (names : List ByteArray) (inp : List Int) (d : Int) (x : Int) (y : Int) (imm : Int) (sym : ByteArray) (w : World) (ov : Value) (s : St) (h : RunAt N g names w ov s)  (hs : sym.size ≤ 9223372036854775807) (hl : s.locked = false) :
    Calls Tryd.prog 108 #[.pointer (some ⟨g.rb, 0, none⟩), Ins.val ⟨11, d, x, y, imm, sym⟩] w (StepOk N g names ov s w (step names inp ⟨11, d, x, y, imm, sym⟩ s)) := by
  obtain ⟨W, hW⟩ : ∃ W : World, w.alloc (.cells #[.int .u8 11, .int .i64 d, .int .i64 x, .int .i64 y, .int .i64 imm, .string sym] 54) = W := ⟨_, rfl⟩
  have hB : Below w.heap.size w W := by rw [← hW]; exact (Below.refl _ _).alloc (Nat.le_refl _) _
  have hWs : W.heap.size = w.heap.size + 1 := by rw [← hW]; simp
  have HR := Lib.hid (h.keep hB)
  have HF := Lib.hid (Frame.of_below (g := g) (ov := ov) hB)
  have i0 : W.cell? ⟨w.heap.size, 0, none⟩ = some (.int .u8 11) := by rw [← hW]; simp
  have i1 : W.cell? ⟨w.heap.size, 1, none⟩ = some (.int .i64 d) := by rw [← hW]; simp
  have i2 : W.cell? ⟨w.heap.size, 2, none⟩ = some (.int .i64 x) := by rw [← hW]; simp
  have i3 : W.cell? ⟨w.heap.size, 3, none⟩ = some (.int .i64 y) := by rw [← hW]; simp
  have i4 : W.cell? ⟨w.heap.size, 4, none⟩ = some (.int .i64 imm) := by rw [← hW]; simp
  have i5 : W.cell? ⟨w.heap.size, 5, none⟩ = some (.string sym) := by rw [← hW]; simp
  have r0 : W.cell? ⟨g.rb, 0, none⟩ = some (.slice (some ⟨g.rg, 0, none⟩) s.regs.length s.regs.length) := HR.out.cell 0
  have r6 : W.cell? ⟨g.rb, 6, none⟩ = some (.bool s.locked) := HR.out.cell 6
  have z6 : W.frozen? ⟨g.rb, 6, none⟩ = false := frozen_heap HR.out.run 6
  have r7 : W.cell? ⟨g.rb, 7, none⟩ = some (.string s.held) := HR.out.cell 7
  have z7 : W.frozen? ⟨g.rb, 7, none⟩ = false := frozen_heap HR.out.run 7
  rw [hl] at r6
  clear h hB
  unfold Ins.val
  go_enter Tryd.func108, Tryd.ntmps108
  go_wp2_with fail
  clear hW
  go_region
  all_goals
    go_wp2_with fail
    go_ret
    first
      | exact StepOk.ok (by rw [step_11, if_neg (by rw [hl]; simp)]) ((HR.out.setLocked true).setHeld sym hs) ((HF.out.trans (Frame.setCell g.rb _ _ (.inl rfl))).trans (Frame.setCell g.rb _ _ (.inl rfl))) rfl rfl rfl rfl
      | exact StepOk.ok (by rw [step_11, if_neg (by rw [hl]; simp)]) ((HR.out.setHeld sym hs).setLocked true) ((HF.out.trans (Frame.setCell g.rb _ _ (.inl rfl))).trans (Frame.setCell g.rb _ _ (.inl rfl))) rfl rfl rfl rfl

theorem instr_12 (N : Nat) (g : Geo) (names : List ByteArray) (inp : List Int) (d : Int) (x : Int) (y : Int) (imm : Int) (sym : ByteArray) (w : World) (ov : Value) (s : St) (h : RunAt N g names w ov s)   :
    Calls Tryd.prog 108 #[.pointer (some ⟨g.rb, 0, none⟩), Ins.val ⟨12, d, x, y, imm, sym⟩] w (StepOk N g names ov s w (step names inp ⟨12, d, x, y, imm, sym⟩ s)) := by
  obtain ⟨W, hW⟩ : ∃ W : World, w.alloc (.cells #[.int .u8 12, .int .i64 d, .int .i64 x, .int .i64 y, .int .i64 imm, .string sym] 54) = W := ⟨_, rfl⟩
  have hB : Below w.heap.size w W := by rw [← hW]; exact (Below.refl _ _).alloc (Nat.le_refl _) _
  have hWs : W.heap.size = w.heap.size + 1 := by rw [← hW]; simp
  have HR := Lib.hid (h.keep hB)
  have HF := Lib.hid (Frame.of_below (g := g) (ov := ov) hB)
  have i0 : W.cell? ⟨w.heap.size, 0, none⟩ = some (.int .u8 12) := by rw [← hW]; simp
  have i1 : W.cell? ⟨w.heap.size, 1, none⟩ = some (.int .i64 d) := by rw [← hW]; simp
  have i2 : W.cell? ⟨w.heap.size, 2, none⟩ = some (.int .i64 x) := by rw [← hW]; simp
  have i3 : W.cell? ⟨w.heap.size, 3, none⟩ = some (.int .i64 y) := by rw [← hW]; simp
  have i4 : W.cell? ⟨w.heap.size, 4, none⟩ = some (.int .i64 imm) := by rw [← hW]; simp
  have i5 : W.cell? ⟨w.heap.size, 5, none⟩ = some (.string sym) := by rw [← hW]; simp
  have r0 : W.cell? ⟨g.rb, 0, none⟩ = some (.slice (some ⟨g.rg, 0, none⟩) s.regs.length s.regs.length) := HR.out.cell 0
  have r6 : W.cell? ⟨g.rb, 6, none⟩ = some (.bool s.locked) := HR.out.cell 6
  have z6 : W.frozen? ⟨g.rb, 6, none⟩ = false := frozen_heap HR.out.run 6
  have r7 : W.cell? ⟨g.rb, 7, none⟩ = some (.string s.held) := HR.out.cell 7
  have z7 : W.frozen? ⟨g.rb, 7, none⟩ = false := frozen_heap HR.out.run 7
  clear h hB
  unfold Ins.val
  go_enter Tryd.func108, Tryd.ntmps108
  go_wp2_with fail
  clear hW
  cases hl : s.locked with
  | false =>
    rw [hl] at r6
    go_quiet (fail)
    go_wp2_with fail
    go_ret
    exact StepOk.trap (by rw [step_12, if_pos (.inl hl)]) HR.out HF.out rfl rfl rfl rfl
  | true =>
    rw [hl] at r6
    by_cases hh : s.held = sym
    · have hh' : (s.held.toList == sym.toList) = true := by simp [hh]
      go_quiet (fail)
      generalize hV : World.drewN _ _ = V
      have HRV : Hid (RunAt N g names V ov s) := by show RunAt _ _ _ _ _ _; rw [← hV]; exact HR.out.same rfl
      have HFV : Hid (Frame g ov ov w V) := by show Frame _ _ _ _ _; rw [← hV]; exact ⟨HF.out.os, HF.out.tape, HF.out.output, HF.out.size, HF.out.block, HF.out.ovs⟩
      have q6 : V.cell? ⟨g.rb, 6, none⟩ = some (.bool s.locked) := HRV.out.cell 6
      have q7 : V.cell? ⟨g.rb, 7, none⟩ = some (.string s.held) := HRV.out.cell 7
      have y6 : V.frozen? ⟨g.rb, 6, none⟩ = false := frozen_heap HRV.out.run 6
      have y7 : V.frozen? ⟨g.rb, 7, none⟩ = false := frozen_heap HRV.out.run 7
      clear hV r0 r6 r7 z6 z7 i0 i1 i2 i3 i4 i5 hWs HR HF W
      go_wp2_with fail
      all_goals
        go_ret
        first
          | exact StepOk.ok (by rw [step_12, if_neg (by rw [hl]; simp [hh])]) ((HRV.out.setLocked false).setHeld ⟨#[]⟩ (by decide)) ((HFV.out.trans (Frame.setCell g.rb _ _ (.inl rfl))).trans (Frame.setCell g.rb _ _ (.inl rfl))) rfl rfl rfl rfl
          | exact StepOk.ok (by rw [step_12, if_neg (by rw [hl]; simp [hh])]) ((HRV.out.setHeld ⟨#[]⟩ (by decide)).setLocked false) ((HFV.out.trans (Frame.setCell g.rb _ _ (.inl rfl))).trans (Frame.setCell g.rb _ _ (.inl rfl))) rfl rfl rfl rfl
    · have hh' : (s.held.toList == sym.toList) = false := by simpa using bytes_ne hh
      go_quiet (fail)
      go_wp2_with fail
      go_ret
      exact StepOk.trap (by rw [step_12, if_pos (.inr hh)]) HR.out HF.out rfl rfl rfl rfl

end Go.Proofs.YteknhnnlhhgppaaDoor
