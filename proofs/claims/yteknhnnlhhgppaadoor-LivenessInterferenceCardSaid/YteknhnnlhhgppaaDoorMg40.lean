/-
  Mg40: several texts in one (IrStep5, IrStep6).
-/
import Derived.Test.YteknhnnlhhgppaaDoorIrStep
import Derived.BigRegion
import Derived.Deep.QuietTactic
import Derived.BigQuiet
/-
  Contract: instruction (package ir: runner), operation by operation.
-/
namespace Go.Proofs.YteknhnnlhhgppaaDoor
set_option linter.unusedVariables false
set_option linter.unusedSimpArgs false
open Go.RowKit
set_option maxRecDepth 100000
set_option maxHeartbeats 4000000
theorem instr_16_0 (N : Nat) (g : Geo) (names : List ByteArray) (inp : List Int) (d : Int) (y : Int) (imm : Int) (sym : ByteArray) (w : World) (ov : Value) (s : St) (h : RunAt N g names w ov s)   :
    Calls Tryd.prog 108 #[.pointer (some ⟨g.rb, 0, none⟩), Ins.val ⟨16, d, (0 : Int), y, imm, sym⟩] w (StepOk N g names ov s w (step names inp ⟨16, d, (0 : Int), y, imm, sym⟩ s)) := by
  obtain ⟨W, hW⟩ : ∃ W : World, w.alloc (.cells #[.int .u8 16, .int .i64 d, .int .i64 (0 : Int), .int .i64 y, .int .i64 imm, .string sym] 54) = W := ⟨_, rfl⟩
  have hB : Below w.heap.size w W := by rw [← hW]; exact (Below.refl _ _).alloc (Nat.le_refl _) _
  have hWs : W.heap.size = w.heap.size + 1 := by rw [← hW]; simp
  have HR := Lib.hid (h.keep hB)
  have HF := Lib.hid (Frame.of_below (g := g) (ov := ov) hB)
  have i0 : W.cell? ⟨w.heap.size, 0, none⟩ = some (.int .u8 16) := by rw [← hW]; simp
  have i1 : W.cell? ⟨w.heap.size, 1, none⟩ = some (.int .i64 d) := by rw [← hW]; simp
  have i2 : W.cell? ⟨w.heap.size, 2, none⟩ = some (.int .i64 (0 : Int)) := by rw [← hW]; simp
  have i3 : W.cell? ⟨w.heap.size, 3, none⟩ = some (.int .i64 y) := by rw [← hW]; simp
  have i4 : W.cell? ⟨w.heap.size, 4, none⟩ = some (.int .i64 imm) := by rw [← hW]; simp
  have i5 : W.cell? ⟨w.heap.size, 5, none⟩ = some (.string sym) := by rw [← hW]; simp
  have r0 : W.cell? ⟨g.rb, 0, none⟩ = some (.slice (some ⟨g.rg, 0, none⟩) s.regs.length s.regs.length) := HR.out.cell 0
  have r1 : W.cell? ⟨g.rb, 1, none⟩ = some (.int .i32 (s.cnt.getD 0 0)) := HR.out.cell 1
  have z1 : W.frozen? ⟨g.rb, 1, none⟩ = false := frozen_heap HR.out.run 1
  have cw := (HR.out.wf.cnts _ (cnt_mem HR.out.wf 0 (by omega)))
  have cw0 := cw.1
  have cw1 := cw.2
  have CW := Lib.hid cw
  clear cw
  clear h hB
  unfold Ins.val
  go_enter Tryd.func108, Tryd.ntmps108
  go_wp2_with fail
  clear hW
  have hs16 : step names inp ⟨16, d, (0 : Int), y, imm, sym⟩ s = if s.cnt.getD 0 0 < 0 ∨ imm ≤ s.cnt.getD 0 0 then .error 11 else .ok s := rfl
  generalize s.cnt.getD 0 0 = cv at *
  go_quiet (fail)
  by_cases hc : cv < 0 ∨ imm ≤ cv
  · have hc' : cv < 0 ∨ (decide (cv < 0) = false ∧ imm ≤ cv) := by
      by_cases q : cv < 0
      · exact .inl q
      · exact .inr ⟨by simpa using q, by omega⟩
    rcases hc' with q | ⟨q, q'⟩
    all_goals
      go_wp2_with fail
      go_ret
      exact StepOk.trap (hs16.trans (if_pos hc)) HR.out HF.out rfl rfl rfl rfl
  · have q : decide (cv < 0) = false := by simp; omega
    have q' : decide (imm ≤ cv) = false := by simp; omega
    go_wp2_with fail
    go_ret
    exact StepOk.ok (hs16.trans (if_neg hc)) HR.out HF.out rfl rfl rfl rfl

theorem instr_16_1 (N : Nat) (g : Geo) (names : List ByteArray) (inp : List Int) (d : Int) (y : Int) (imm : Int) (sym : ByteArray) (w : World) (ov : Value) (s : St) (h : RunAt N g names w ov s)   :
    Calls Tryd.prog 108 #[.pointer (some ⟨g.rb, 0, none⟩), Ins.val ⟨16, d, (1 : Int), y, imm, sym⟩] w (StepOk N g names ov s w (step names inp ⟨16, d, (1 : Int), y, imm, sym⟩ s)) := by
  obtain ⟨W, hW⟩ : ∃ W : World, w.alloc (.cells #[.int .u8 16, .int .i64 d, .int .i64 (1 : Int), .int .i64 y, .int .i64 imm, .string sym] 54) = W := ⟨_, rfl⟩
  have hB : Below w.heap.size w W := by rw [← hW]; exact (Below.refl _ _).alloc (Nat.le_refl _) _
  have hWs : W.heap.size = w.heap.size + 1 := by rw [← hW]; simp
  have HR := Lib.hid (h.keep hB)
  have HF := Lib.hid (Frame.of_below (g := g) (ov := ov) hB)
  have i0 : W.cell? ⟨w.heap.size, 0, none⟩ = some (.int .u8 16) := by rw [← hW]; simp
  have i1 : W.cell? ⟨w.heap.size, 1, none⟩ = some (.int .i64 d) := by rw [← hW]; simp
  have i2 : W.cell? ⟨w.heap.size, 2, none⟩ = some (.int .i64 (1 : Int)) := by rw [← hW]; simp
  have i3 : W.cell? ⟨w.heap.size, 3, none⟩ = some (.int .i64 y) := by rw [← hW]; simp
  have i4 : W.cell? ⟨w.heap.size, 4, none⟩ = some (.int .i64 imm) := by rw [← hW]; simp
  have i5 : W.cell? ⟨w.heap.size, 5, none⟩ = some (.string sym) := by rw [← hW]; simp
  have r0 : W.cell? ⟨g.rb, 0, none⟩ = some (.slice (some ⟨g.rg, 0, none⟩) s.regs.length s.regs.length) := HR.out.cell 0
  have r2 : W.cell? ⟨g.rb, 2, none⟩ = some (.int .i32 (s.cnt.getD 1 0)) := HR.out.cell 2
  have z2 : W.frozen? ⟨g.rb, 2, none⟩ = false := frozen_heap HR.out.run 2
  have cw := (HR.out.wf.cnts _ (cnt_mem HR.out.wf 1 (by omega)))
  have cw0 := cw.1
  have cw1 := cw.2
  have CW := Lib.hid cw
  clear cw
  clear h hB
  unfold Ins.val
  go_enter Tryd.func108, Tryd.ntmps108
  go_wp2_with fail
  clear hW
  have hs16 : step names inp ⟨16, d, (1 : Int), y, imm, sym⟩ s = if s.cnt.getD 1 0 < 0 ∨ imm ≤ s.cnt.getD 1 0 then .error 11 else .ok s := rfl
  generalize s.cnt.getD 1 0 = cv at *
  go_quiet (fail)
  by_cases hc : cv < 0 ∨ imm ≤ cv
  · have hc' : cv < 0 ∨ (decide (cv < 0) = false ∧ imm ≤ cv) := by
      by_cases q : cv < 0
      · exact .inl q
      · exact .inr ⟨by simpa using q, by omega⟩
    rcases hc' with q | ⟨q, q'⟩
    all_goals
      go_wp2_with fail
      go_ret
      exact StepOk.trap (hs16.trans (if_pos hc)) HR.out HF.out rfl rfl rfl rfl
  · have q : decide (cv < 0) = false := by simp; omega
    have q' : decide (imm ≤ cv) = false := by simp; omega
    go_wp2_with fail
    go_ret
    exact StepOk.ok (hs16.trans (if_neg hc)) HR.out HF.out rfl rfl rfl rfl

theorem instr_16_2 (N : Nat) (g : Geo) (names : List ByteArray) (inp : List Int) (d : Int) (y : Int) (imm : Int) (sym : ByteArray) (w : World) (ov : Value) (s : St) (h : RunAt N g names w ov s)   :
    Calls Tryd.prog 108 #[.pointer (some ⟨g.rb, 0, none⟩), Ins.val ⟨16, d, (2 : Int), y, imm, sym⟩] w (StepOk N g names ov s w (step names inp ⟨16, d, (2 : Int), y, imm, sym⟩ s)) := by
  obtain ⟨W, hW⟩ : ∃ W : World, w.alloc (.cells #[.int .u8 16, .int .i64 d, .int .i64 (2 : Int), .int .i64 y, .int .i64 imm, .string sym] 54) = W := ⟨_, rfl⟩
  have hB : Below w.heap.size w W := by rw [← hW]; exact (Below.refl _ _).alloc (Nat.le_refl _) _
  have hWs : W.heap.size = w.heap.size + 1 := by rw [← hW]; simp
  have HR := Lib.hid (h.keep hB)
  have HF := Lib.hid (Frame.of_below (g := g) (ov := ov) hB)
  have i0 : W.cell? ⟨w.heap.size, 0, none⟩ = some (.int .u8 16) := by rw [← hW]; simp
  have i1 : W.cell? ⟨w.heap.size, 1, none⟩ = some (.int .i64 d) := by rw [← hW]; simp
  have i2 : W.cell? ⟨w.heap.size, 2, none⟩ = some (.int .i64 (2 : Int)) := by rw [← hW]; simp
  have i3 : W.cell? ⟨w.heap.size, 3, none⟩ = some (.int .i64 y) := by rw [← hW]; simp
  have i4 : W.cell? ⟨w.heap.size, 4, none⟩ = some (.int .i64 imm) := by rw [← hW]; simp
  have i5 : W.cell? ⟨w.heap.size, 5, none⟩ = some (.string sym) := by rw [← hW]; simp
  have r0 : W.cell? ⟨g.rb, 0, none⟩ = some (.slice (some ⟨g.rg, 0, none⟩) s.regs.length s.regs.length) := HR.out.cell 0
  have r3 : W.cell? ⟨g.rb, 3, none⟩ = some (.int .i32 (s.cnt.getD 2 0)) := HR.out.cell 3
  have z3 : W.frozen? ⟨g.rb, 3, none⟩ = false := frozen_heap HR.out.run 3
  have cw := (HR.out.wf.cnts _ (cnt_mem HR.out.wf 2 (by omega)))
  have cw0 := cw.1
  have cw1 := cw.2
  have CW := Lib.hid cw
  clear cw
  clear h hB
  unfold Ins.val
  go_enter Tryd.func108, Tryd.ntmps108
  go_wp2_with fail
  clear hW
  have hs16 : step names inp ⟨16, d, (2 : Int), y, imm, sym⟩ s = if s.cnt.getD 2 0 < 0 ∨ imm ≤ s.cnt.getD 2 0 then .error 11 else .ok s := rfl
  generalize s.cnt.getD 2 0 = cv at *
  go_quiet (fail)
  by_cases hc : cv < 0 ∨ imm ≤ cv
  · have hc' : cv < 0 ∨ (decide (cv < 0) = false ∧ imm ≤ cv) := by
      by_cases q : cv < 0
      · exact .inl q
      · exact .inr ⟨by simpa using q, by omega⟩
    rcases hc' with q | ⟨q, q'⟩
    all_goals
      go_wp2_with fail
      go_ret
      exact StepOk.trap (hs16.trans (if_pos hc)) HR.out HF.out rfl rfl rfl rfl
  · have q : decide (cv < 0) = false := by simp; omega
    have q' : decide (imm ≤ cv) = false := by simp; omega
    go_wp2_with fail
    go_ret
    exact StepOk.ok (hs16.trans (if_neg hc)) HR.out HF.out rfl rfl rfl rfl

theorem instr_16_3 (N : Nat) (g : Geo) (names : List ByteArray) (inp : List Int) (d : Int) (y : Int) (imm : Int) (sym : ByteArray) (w : World) (ov : Value) (s : St) (h : RunAt N g names w ov s)   :
    Calls Tryd.prog 108 #[.pointer (some ⟨g.rb, 0, none⟩), Ins.val ⟨16, d, (3 : Int), y, imm, sym⟩] w (StepOk N g names ov s w (step names inp ⟨16, d, (3 : Int), y, imm, sym⟩ s)) := by
  obtain ⟨W, hW⟩ : ∃ W : World, w.alloc (.cells #[.int .u8 16, .int .i64 d, .int .i64 (3 : Int), .int .i64 y, .int .i64 imm, .string sym] 54) = W := ⟨_, rfl⟩
  have hB : Below w.heap.size w W := by rw [← hW]; exact (Below.refl _ _).alloc (Nat.le_refl _) _
  have hWs : W.heap.size = w.heap.size + 1 := by rw [← hW]; simp
  have HR := Lib.hid (h.keep hB)
  have HF := Lib.hid (Frame.of_below (g := g) (ov := ov) hB)
  have i0 : W.cell? ⟨w.heap.size, 0, none⟩ = some (.int .u8 16) := by rw [← hW]; simp
  have i1 : W.cell? ⟨w.heap.size, 1, none⟩ = some (.int .i64 d) := by rw [← hW]; simp
  have i2 : W.cell? ⟨w.heap.size, 2, none⟩ = some (.int .i64 (3 : Int)) := by rw [← hW]; simp
  have i3 : W.cell? ⟨w.heap.size, 3, none⟩ = some (.int .i64 y) := by rw [← hW]; simp
  have i4 : W.cell? ⟨w.heap.size, 4, none⟩ = some (.int .i64 imm) := by rw [← hW]; simp
  have i5 : W.cell? ⟨w.heap.size, 5, none⟩ = some (.string sym) := by rw [← hW]; simp
  have r0 : W.cell? ⟨g.rb, 0, none⟩ = some (.slice (some ⟨g.rg, 0, none⟩) s.regs.length s.regs.length) := HR.out.cell 0
  have r4 : W.cell? ⟨g.rb, 4, none⟩ = some (.int .i32 (s.cnt.getD 3 0)) := HR.out.cell 4
  have z4 : W.frozen? ⟨g.rb, 4, none⟩ = false := frozen_heap HR.out.run 4
  have cw := (HR.out.wf.cnts _ (cnt_mem HR.out.wf 3 (by omega)))
  have cw0 := cw.1
  have cw1 := cw.2
  have CW := Lib.hid cw
  clear cw
  clear h hB
  unfold Ins.val
  go_enter Tryd.func108, Tryd.ntmps108
  go_wp2_with fail
  clear hW
  have hs16 : step names inp ⟨16, d, (3 : Int), y, imm, sym⟩ s = if s.cnt.getD 3 0 < 0 ∨ imm ≤ s.cnt.getD 3 0 then .error 11 else .ok s := rfl
  generalize s.cnt.getD 3 0 = cv at *
  go_quiet (fail)
  by_cases hc : cv < 0 ∨ imm ≤ cv
  · have hc' : cv < 0 ∨ (decide (cv < 0) = false ∧ imm ≤ cv) := by
      by_cases q : cv < 0
      · exact .inl q
      · exact .inr ⟨by simpa using q, by omega⟩
    rcases hc' with q | ⟨q, q'⟩
    all_goals
      go_wp2_with fail
      go_ret
      exact StepOk.trap (hs16.trans (if_pos hc)) HR.out HF.out rfl rfl rfl rfl
  · have q : decide (cv < 0) = false := by simp; omega
    have q' : decide (imm ≤ cv) = false := by simp; omega
    go_wp2_with fail
    go_ret
    exact StepOk.ok (hs16.trans (if_neg hc)) HR.out HF.out rfl rfl rfl rfl


end Go.Proofs.YteknhnnlhhgppaaDoor

/-
  Contract: instruction (package ir: runner), operation by operation.
-/
namespace Go.Proofs.YteknhnnlhhgppaaDoor
set_option linter.unusedVariables false
set_option linter.unusedSimpArgs false
open Go.RowKit
set_option maxRecDepth 100000
set_option maxHeartbeats 4000000
theorem instr_9 (N : Nat) (g : Geo) (names : List ByteArray) (inp : List Int) (d : Nat) (x : Int) (y : Int) (imm : Int) (sym : ByteArray) (w : World) (ov : Value) (s : St) (h : RunAt N g names w ov s) (hd : d < s.regs.length) (ia : Option Addr) (ic : Nat) (hinv : g.inv = .slice ia inp.length ic) (hin : WordsAt w ia inp) (hNw : ∀ b, 0 < inp.length → ia.map Addr.block = some b → b < N) (hrd : s.read < 8000000000) :
    Calls Tryd.prog 108 #[.pointer (some ⟨g.rb, 0, none⟩), Ins.val ⟨9, ((d : Nat) : Int), x, y, imm, sym⟩] w (StepOk N g names ov s w (step names inp ⟨9, ((d : Nat) : Int), x, y, imm, sym⟩ s)) := by
  obtain ⟨W, hW⟩ : ∃ W : World, w.alloc (.cells #[.int .u8 9, .int .i64 ((d : Nat) : Int), .int .i64 x, .int .i64 y, .int .i64 imm, .string sym] 54) = W := ⟨_, rfl⟩
  have hB : Below w.heap.size w W := by rw [← hW]; exact (Below.refl _ _).alloc (Nat.le_refl _) _
  have hWs : W.heap.size = w.heap.size + 1 := by rw [← hW]; simp
  have HR := Lib.hid (h.keep hB)
  have HF := Lib.hid (Frame.of_below (g := g) (ov := ov) hB)
  have i0 : W.cell? ⟨w.heap.size, 0, none⟩ = some (.int .u8 9) := by rw [← hW]; simp
  have i1 : W.cell? ⟨w.heap.size, 1, none⟩ = some (.int .i64 ((d : Nat) : Int)) := by rw [← hW]; simp
  have i2 : W.cell? ⟨w.heap.size, 2, none⟩ = some (.int .i64 x) := by rw [← hW]; simp
  have i3 : W.cell? ⟨w.heap.size, 3, none⟩ = some (.int .i64 y) := by rw [← hW]; simp
  have i4 : W.cell? ⟨w.heap.size, 4, none⟩ = some (.int .i64 imm) := by rw [← hW]; simp
  have i5 : W.cell? ⟨w.heap.size, 5, none⟩ = some (.string sym) := by rw [← hW]; simp
  have r0 : W.cell? ⟨g.rb, 0, none⟩ = some (.slice (some ⟨g.rg, 0, none⟩) s.regs.length s.regs.length) := HR.out.cell 0
  have r8 : W.cell? ⟨g.rb, 8, none⟩ = some (g.inv) := HR.out.cell 8
  have z8 : W.frozen? ⟨g.rb, 8, none⟩ = false := frozen_heap HR.out.run 8
  have r10 : W.cell? ⟨g.rb, 10, none⟩ = some (.int .i64 s.read) := HR.out.cell 10
  have z10 : W.frozen? ⟨g.rb, 10, none⟩ = false := frozen_heap HR.out.run 10
  have vd := HR.out.reg hd
  have zd : W.frozen? ⟨g.rg, d, none⟩ = false := frozen_heap HR.out.regs d
  have d0 : (0 : Int) ≤ (d : Int) := by omega
  have d1 : (d : Int) < (s.regs.length : Int) := by omega
  have wd := HR.out.regw hd
  have d2 := wd.1
  have d3 := wd.2
  have Kd := Lib.hid wd
  clear wd
  have HIN := Lib.hid (hin.below hB)
  have hil := hin.fits
  rw [hinv] at r8
  have HH := Lib.hid h
  clear hin
  clear h hB
  unfold Ins.val
  go_enter Tryd.func108, Tryd.ntmps108
  go_wp2_with fail
  clear hW
  go_region
  go_wp2_with fail
  generalize hV : World.drew _ = V
  have HRV : Hid (RunAt N g names V ov (s.setReg d 0)) := by show RunAt _ _ _ _ _ _; rw [← hV]; exact (HR.out.setReg (k := d) ⟨by omega, by omega⟩).same rfl
  have HFV : Hid (Frame g ov ov w V) := by show Frame _ _ _ _ _; rw [← hV]; exact (HF.out.trans (Frame.setCell g.rg d _ (.inr (.inl rfl)))).drew
  have HFW : Hid (Frame g ov ov W V) := by show Frame _ _ _ _ _; rw [← hV]; exact (Frame.setCell g.rg d _ (.inr (.inl rfl))).drew
  have q0 : V.cell? ⟨g.rb, 0, none⟩ = some (.slice (some ⟨g.rg, 0, none⟩) s.regs.length s.regs.length) := by have := HRV.out.cell 0; simpa [runCells, St.setReg] using this
  have q8 : V.cell? ⟨g.rb, 8, none⟩ = some (.slice ia inp.length ic) := by rw [← hinv]; exact HRV.out.cell 8
  have q10 : V.cell? ⟨g.rb, 10, none⟩ = some (.int .i64 s.read) := HRV.out.cell 10
  have y10 : V.frozen? ⟨g.rb, 10, none⟩ = false := frozen_heap HRV.out.run 10
  have yd : V.frozen? ⟨g.rg, d, none⟩ = false := frozen_heap HRV.out.regs d
  have qd := HRV.out.reg (k := d) (by simpa [St.setReg] using hd)
  have qi : V.cell? ⟨w.heap.size, 1, none⟩ = some (.int .i64 ((d : Nat) : Int)) :=
    (World.cell?_of_block (a := ⟨w.heap.size, 1, none⟩) (HFW.out.block w.heap.size (by omega) (fun h0 => by have := (HH.out.ours h0).2; omega))).trans i1
  have hr0 : (0 : Int) ≤ (s.read : Int) := by omega
  have hr1 : (s.read : Int) + 1 ≤ 9223372036854775807 := by omega
  clear hV r0 r8 r10 z8 z10 zd vd i0 i1 i2 i3 i4 i5
  by_cases hlt : s.read < inp.length
  · have hlt' : (s.read : Int) < (inp.length : Int) := by omega
    rcases HIN.out.at_ with h0 | ⟨ib, io, rfl, hk⟩
    · omega
    obtain ⟨xv, hx⟩ : ∃ v, inp[s.read]? = some v := ⟨_, List.getElem?_eq_getElem hlt⟩
    have xw := HIN.out.words xv (List.mem_of_getElem? hx)
    have HXW := Lib.hid xw
    have HXV : Hid (inp.getD s.read 0 = xv) := by show _ = _; simp [hx]
    have ci0 := hk s.read xv hx
    have ci : V.cell? ⟨ib, io + s.read, none⟩ = some (.int .i32 xv) := (World.cell?_of_block (a := ⟨ib, io + s.read, none⟩) (HFW.out.block ib (World.block_lt_of_cell? _ _ ci0) (fun h0 => by have := (HH.out.ours h0).1; have := hNw ib (by omega) rfl; omega))).trans ci0
    clear hk hx ci0 xw
    go_quiet (fail)
    generalize hU : World.drewN _ _ = U
    have HRU : Hid (RunAt N g names U ov (s.setReg d 0)) := by show RunAt _ _ _ _ _ _; rw [← hU]; exact HRV.out.same rfl
    have HFU : Hid (Frame g ov ov w U) := by show Frame _ _ _ _ _; rw [← hU]; exact ⟨HFV.out.os, HFV.out.tape, HFV.out.output, HFV.out.size, HFV.out.block, HFV.out.ovs⟩
    have p0 : U.cell? ⟨g.rb, 0, none⟩ = some (.slice (some ⟨g.rg, 0, none⟩) s.regs.length s.regs.length) := by rw [← hU]; exact q0
    have p8 : U.cell? ⟨g.rb, 8, none⟩ = some (.slice (some ⟨ib, io, none⟩) inp.length ic) := by rw [← hU]; exact q8
    have p10 : U.cell? ⟨g.rb, 10, none⟩ = some (.int .i64 s.read) := by rw [← hU]; exact q10
    have u10 : U.frozen? ⟨g.rb, 10, none⟩ = false := by rw [← hU]; exact y10
    have ud : U.frozen? ⟨g.rg, d, none⟩ = false := by rw [← hU]; exact yd
    have pd : U.cell? ⟨g.rg, d, none⟩ = some (.int .i32 (St.reg (s.setReg d 0) d)) := by rw [← hU]; exact qd
    have pi : U.cell? ⟨w.heap.size, 1, none⟩ = some (.int .i64 ((d : Nat) : Int)) := by rw [← hU]; exact qi
    have pc : U.cell? ⟨ib, io + s.read, none⟩ = some (.int .i32 xv) := by rw [← hU]; exact ci
    clear hU q0 q8 q10 y10 yd qd qi ci HRV HFV HFW HR HF V
    go_wp2_with fail
    go_region
    generalize hT : World.drew _ = T
    have HRT : Hid (RunAt N g names T ov ((s.setReg d 0).setReg d xv)) := by show RunAt _ _ _ _ _ _; rw [← hT]; exact (HRU.out.setReg (k := d) HXW.out).same rfl
    have HFT : Hid (Frame g ov ov w T) := by show Frame _ _ _ _ _; rw [← hT]; exact (HFU.out.trans (Frame.setCell g.rg d _ (.inr (.inl rfl)))).drew
    have t10 : T.cell? ⟨g.rb, 10, none⟩ = some (.int .i64 s.read) := HRT.out.cell 10
    have s10 : T.frozen? ⟨g.rb, 10, none⟩ = false := frozen_heap HRT.out.run 10
    clear hT p0 p8 p10 u10 ud pd pi pc HRU HFU U
    go_wp2_with fail
    go_ret
    refine StepOk.ok step_9 ?_ (HFT.out.trans (Frame.setCell g.rb 10 _ (.inl rfl))) rfl rfl rfl rfl
    have e := HRT.out.setRead (s.read + 1)
    rw [HXV.out]
    simpa [St.setReg] using e
  · have hlt' : decide ((s.read : Int) < (inp.length : Int)) = false := by simp; omega
    have HXV : Hid (inp.getD s.read 0 = 0) := by show _ = _; simp [List.getElem?_eq_none (Nat.le_of_not_lt hlt)]
    go_quiet (fail)
    generalize hU : World.drewN _ _ = U
    have HRU : Hid (RunAt N g names U ov (s.setReg d 0)) := by show RunAt _ _ _ _ _ _; rw [← hU]; exact HRV.out.same rfl
    have HFU : Hid (Frame g ov ov w U) := by show Frame _ _ _ _ _; rw [← hU]; exact ⟨HFV.out.os, HFV.out.tape, HFV.out.output, HFV.out.size, HFV.out.block, HFV.out.ovs⟩
    have p10 : U.cell? ⟨g.rb, 10, none⟩ = some (.int .i64 s.read) := by rw [← hU]; exact q10
    have u10 : U.frozen? ⟨g.rb, 10, none⟩ = false := by rw [← hU]; exact y10
    clear hU q0 q8 q10 y10 yd qd qi HRV HFV HFW HR HF V
    go_wp2_with fail
    go_ret
    refine StepOk.ok step_9 ?_ (HFU.out.trans (Frame.setCell g.rb 10 _ (.inl rfl))) rfl rfl rfl rfl
    have e := HRU.out.setRead (s.read + 1)
    rw [HXV.out]
    simpa [St.setReg] using e

end Go.Proofs.YteknhnnlhhgppaaDoor
