/-
  Contract: instruction (package ir: runner), operation by operation.
-/
import Derived.Test.YtjdfcpjlmfaaaaaIrStep
import Derived.BigRegion
import Derived.Deep.QuietTactic
import Derived.BigQuiet
namespace Go.Proofs.Ytjdfcpjlmfaaaaa
set_option linter.unusedVariables false
set_option linter.unusedSimpArgs false
open Go.RowKit
set_option maxRecDepth 100000
set_option maxHeartbeats 4000000
theorem instr_11t (N : Nat) (g : Geo) (names : List ByteArray) (inp : List Int) (d : Int) (x : Int) (y : Int) (imm : Int) (sym : ByteArray) (w : World) (ov : Value) (s : St) (h : RunAt N g names w ov s)  (hs : sym.size ≤ 9223372036854775807) (hl : s.locked = true) :
    Calls Try.prog 55 #[.pointer (some ⟨g.rb, 0, none⟩), Ins.val ⟨11, d, x, y, imm, sym⟩] w (StepOk N g names ov s w (step names inp ⟨11, d, x, y, imm, sym⟩ s)) := by
  obtain ⟨W, hW⟩ : ∃ W : World, w.alloc (.cells #[.int .u8 11, .int .i64 d, .int .i64 x, .int .i64 y, .int .i64 imm, .string sym] 60) = W := ⟨_, rfl⟩
  have hB : Below w.heap.size w W := by rw [← hW]; exact (Below.refl _ _).alloc (Nat.le_refl _) _
  have hWs : W.heap.size = w.heap.size + 1 := by rw [← hW]; simp
  have HR := Lib.hid (h.keep hB)
  have HF := Lib.hid (Frame.of_below (g := g) (ov := ov) hB)
  have i0 : W.cell? ⟨w.heap.size, 0, none⟩ = some (.int .u8 11) := by rw [← hW]; simp
  have i1 : W.cell? ⟨w.heap.size, 1, none⟩ = some (.int .i64 d) := by rw [← hW]; simp
  have i2 : W.cell? ⟨w.heap.size, 2, none⟩ = some (.int .i64 x) := by rw [← hW]; simp
  have i3 : W.cell? ⟨w.heap.size, 3, none⟩ = some (.int .i64 y) := by rw [← hW]; simp
  have i4 : W.cell? ⟨w.heap.size, 4, none⟩ = some (.int .i64 imm) := by rw [← hW]; simp
  have i5 : W.cell? ⟨w.heap.size, 5, none⟩ = some (.string sym) := by rw [← hW]; simp
  have r0 : W.cell? ⟨g.rb, 0, none⟩ = some (.slice (some ⟨g.rg, 0, none⟩) s.regs.length s.regs.length) := HR.out.cell 0
  have r6 : W.cell? ⟨g.rb, 6, none⟩ = some (.bool s.locked) := HR.out.cell 6
  have z6 : W.frozen? ⟨g.rb, 6, none⟩ = false := frozen_heap HR.out.run 6
  have r7 : W.cell? ⟨g.rb, 7, none⟩ = some (.string s.held) := HR.out.cell 7
  have z7 : W.frozen? ⟨g.rb, 7, none⟩ = false := frozen_heap HR.out.run 7
  rw [hl] at r6
  clear h hB
  unfold Ins.val
  go_enter Try.func55, Try.ntmps55
  go_wp2_with fail
  clear hW
  go_ret
  exact StepOk.trap (by rw [step_11, if_pos hl]) HR.out HF.out rfl rfl rfl rfl

theorem instr_11f (N : Nat) (g : Geo) (names : List ByteArray) (inp : List Int) (d : Int) (x : Int) (y : Int) (imm : Int) (sym : ByteArray) (w : World) (ov : Value) (s : St) (h : RunAt N g names w ov s)  (hs : sym.size ≤ 9223372036854775807) (hl : s.locked = false) :
    Calls Try.prog 55 #[.pointer (some ⟨g.rb, 0, none⟩), Ins.val ⟨11, d, x, y, imm, sym⟩] w (StepOk N g names ov s w (step names inp ⟨11, d, x, y, imm, sym⟩ s)) := by
  obtain ⟨W, hW⟩ : ∃ W : World, w.alloc (.cells #[.int .u8 11, .int .i64 d, .int .i64 x, .int .i64 y, .int .i64 imm, .string sym] 60) = W := ⟨_, rfl⟩
  have hB : Below w.heap.size w W := by rw [← hW]; exact (Below.refl _ _).alloc (Nat.le_refl _) _
  have hWs : W.heap.size = w.heap.size + 1 := by rw [← hW]; simp
  have HR := Lib.hid (h.keep hB)
  have HF := Lib.hid (Frame.of_below (g := g) (ov := ov) hB)
  have i0 : W.cell? ⟨w.heap.size, 0, none⟩ = some (.int .u8 11) := by rw [← hW]; simp
  have i1 : W.cell? ⟨w.heap.size, 1, none⟩ = some (.int .i64 d) := by rw [← hW]; simp
  have i2 : W.cell? ⟨w.heap.size, 2, none⟩ = some (.int .i64 x) := by rw [← hW]; simp
  have i3 : W.cell? ⟨w.heap.size, 3, none⟩ = some (.int .i64 y) := by rw [← hW]; simp
  have i4 : W.cell? ⟨w.heap.size, 4, none⟩ = some (.int .i64 imm) := by rw [← hW]; simp
  have i5 : W.cell? ⟨w.heap.size, 5, none⟩ = some (.string sym) := by rw [← hW]; simp
  have r0 : W.cell? ⟨g.rb, 0, none⟩ = some (.slice (some ⟨g.rg, 0, none⟩) s.regs.length s.regs.length) := HR.out.cell 0
  have r6 : W.cell? ⟨g.rb, 6, none⟩ = some (.bool s.locked) := HR.out.cell 6
  have z6 : W.frozen? ⟨g.rb, 6, none⟩ = false := frozen_heap HR.out.run 6
  have r7 : W.cell? ⟨g.rb, 7, none⟩ = some (.string s.held) := HR.out.cell 7
  have z7 : W.frozen? ⟨g.rb, 7, none⟩ = false := frozen_heap HR.out.run 7
  rw [hl] at r6
  clear h hB
  unfold Ins.val
  go_enter Try.func55, Try.ntmps55
  go_wp2_with fail
  clear hW
  go_region
  all_goals
    go_wp2_with fail
    go_ret
    first
      | exact StepOk.ok (by rw [step_11, if_neg (by rw [hl]; simp)]) ((HR.out.setLocked true).setHeld sym hs) ((HF.out.trans (Frame.setCell g.rb _ _ (.inl rfl))).trans (Frame.setCell g.rb _ _ (.inl rfl))) rfl rfl rfl rfl
      | exact StepOk.ok (by rw [step_11, if_neg (by rw [hl]; simp)]) ((HR.out.setHeld sym hs).setLocked true) ((HF.out.trans (Frame.setCell g.rb _ _ (.inl rfl))).trans (Frame.setCell g.rb _ _ (.inl rfl))) rfl rfl rfl rfl

theorem instr_12 (N : Nat) (g : Geo) (names : List ByteArray) (inp : List Int) (d : Int) (x : Int) (y : Int) (imm : Int) (sym : ByteArray) (w : World) (ov : Value) (s : St) (h : RunAt N g names w ov s)   :
    Calls Try.prog 55 #[.pointer (some ⟨g.rb, 0, none⟩), Ins.val ⟨12, d, x, y, imm, sym⟩] w (StepOk N g names ov s w (step names inp ⟨12, d, x, y, imm, sym⟩ s)) := by
  obtain ⟨W, hW⟩ : ∃ W : World, w.alloc (.cells #[.int .u8 12, .int .i64 d, .int .i64 x, .int .i64 y, .int .i64 imm, .string sym] 60) = W := ⟨_, rfl⟩
  have hB : Below w.heap.size w W := by rw [← hW]; exact (Below.refl _ _).alloc (Nat.le_refl _) _
  have hWs : W.heap.size = w.heap.size + 1 := by rw [← hW]; simp
  have HR := Lib.hid (h.keep hB)
  have HF := Lib.hid (Frame.of_below (g := g) (ov := ov) hB)
  have i0 : W.cell? ⟨w.heap.size, 0, none⟩ = some (.int .u8 12) := by rw [← hW]; simp
  have i1 : W.cell? ⟨w.heap.size, 1, none⟩ = some (.int .i64 d) := by rw [← hW]; simp
  have i2 : W.cell? ⟨w.heap.size, 2, none⟩ = some (.int .i64 x) := by rw [← hW]; simp
  have i3 : W.cell? ⟨w.heap.size, 3, none⟩ = some (.int .i64 y) := by rw [← hW]; simp
  have i4 : W.cell? ⟨w.heap.size, 4, none⟩ = some (.int .i64 imm) := by rw [← hW]; simp
  have i5 : W.cell? ⟨w.heap.size, 5, none⟩ = some (.string sym) := by rw [← hW]; simp
  have r0 : W.cell? ⟨g.rb, 0, none⟩ = some (.slice (some ⟨g.rg, 0, none⟩) s.regs.length s.regs.length) := HR.out.cell 0
  have r6 : W.cell? ⟨g.rb, 6, none⟩ = some (.bool s.locked) := HR.out.cell 6
  have z6 : W.frozen? ⟨g.rb, 6, none⟩ = false := frozen_heap HR.out.run 6
  have r7 : W.cell? ⟨g.rb, 7, none⟩ = some (.string s.held) := HR.out.cell 7
  have z7 : W.frozen? ⟨g.rb, 7, none⟩ = false := frozen_heap HR.out.run 7
  clear h hB
  unfold Ins.val
  go_enter Try.func55, Try.ntmps55
  go_wp2_with fail
  clear hW
  cases hl : s.locked with
  | false =>
    rw [hl] at r6
    go_quiet (fail)
    go_wp2_with fail
    go_ret
    exact StepOk.trap (by rw [step_12, if_pos (.inl hl)]) HR.out HF.out rfl rfl rfl rfl
  | true =>
    rw [hl] at r6
    by_cases hh : s.held = sym
    · have hh' : (s.held.toList == sym.toList) = true := by simp [hh]
      go_quiet (fail)
      generalize hV : World.drewN _ _ = V
      have HRV : Hid (RunAt N g names V ov s) := by show RunAt _ _ _ _ _ _; rw [← hV]; exact HR.out.same rfl
      have HFV : Hid (Frame g ov ov w V) := by show Frame _ _ _ _ _; rw [← hV]; exact ⟨HF.out.os, HF.out.tape, HF.out.output, HF.out.size, HF.out.block, HF.out.ovs⟩
      have q6 : V.cell? ⟨g.rb, 6, none⟩ = some (.bool s.locked) := HRV.out.cell 6
      have q7 : V.cell? ⟨g.rb, 7, none⟩ = some (.string s.held) := HRV.out.cell 7
      have y6 : V.frozen? ⟨g.rb, 6, none⟩ = false := frozen_heap HRV.out.run 6
      have y7 : V.frozen? ⟨g.rb, 7, none⟩ = false := frozen_heap HRV.out.run 7
      clear hV r0 r6 r7 z6 z7 i0 i1 i2 i3 i4 i5 hWs HR HF W
      go_wp2_with fail
      all_goals
        go_ret
        first
          | exact StepOk.ok (by rw [step_12, if_neg (by rw [hl]; simp [hh])]) ((HRV.out.setLocked false).setHeld ⟨#[]⟩ (by decide)) ((HFV.out.trans (Frame.setCell g.rb _ _ (.inl rfl))).trans (Frame.setCell g.rb _ _ (.inl rfl))) rfl rfl rfl rfl
          | exact StepOk.ok (by rw [step_12, if_neg (by rw [hl]; simp [hh])]) ((HRV.out.setHeld ⟨#[]⟩ (by decide)).setLocked false) ((HFV.out.trans (Frame.setCell g.rb _ _ (.inl rfl))).trans (Frame.setCell g.rb _ _ (.inl rfl))) rfl rfl rfl rfl
    · have hh' : (s.held.toList == sym.toList) = false := by simpa using bytes_ne hh
      go_quiet (fail)
      go_wp2_with fail
      go_ret
      exact StepOk.trap (by rw [step_12, if_pos (.inr hh)]) HR.out HF.out rfl rfl rfl rfl

end Go.Proofs.Ytjdfcpjlmfaaaaa
