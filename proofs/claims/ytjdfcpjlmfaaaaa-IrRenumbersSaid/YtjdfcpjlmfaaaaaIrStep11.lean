/-
  Contract: instruction (package ir: runner), operation by operation.
-/
import Derived.Test.YtjdfcpjlmfaaaaaIrStep
import Derived.BigRegion
import Derived.Deep.QuietTactic
import Derived.BigQuiet
import Derived.Test.YtjdfcpjlmfaaaaaWordCalls
namespace Go.Proofs.Ytjdfcpjlmfaaaaa
set_option linter.unusedVariables false
set_option linter.unusedSimpArgs false
open Go.RowKit
set_option maxRecDepth 100000
set_option maxHeartbeats 4000000
theorem instr_3 (N : Nat) (g : Geo) (names : List ByteArray) (inp : List Int) (d : Nat) (x : Nat) (y : Nat) (imm : Int) (sym : ByteArray) (w : World) (ov : Value) (s : St) (h : RunAt N g names w ov s) (hd : d < s.regs.length) (hx : x < s.regs.length) (hy : y < s.regs.length) (hi0 : 6 ≤ imm) (hi1 : imm ≤ 23) :
    Calls Try.prog 55 #[.pointer (some ⟨g.rb, 0, none⟩), Ins.val ⟨3, ((d : Nat) : Int), ((x : Nat) : Int), ((y : Nat) : Int), imm, sym⟩] w (StepOk N g names ov s w (step names inp ⟨3, ((d : Nat) : Int), ((x : Nat) : Int), ((y : Nat) : Int), imm, sym⟩ s)) := by
  obtain ⟨W, hW⟩ : ∃ W : World, w.alloc (.cells #[.int .u8 3, .int .i64 ((d : Nat) : Int), .int .i64 ((x : Nat) : Int), .int .i64 ((y : Nat) : Int), .int .i64 imm, .string sym] 60) = W := ⟨_, rfl⟩
  have hB : Below w.heap.size w W := by rw [← hW]; exact (Below.refl _ _).alloc (Nat.le_refl _) _
  have hWs : W.heap.size = w.heap.size + 1 := by rw [← hW]; simp
  have HR := Lib.hid (h.keep hB)
  have HF := Lib.hid (Frame.of_below (g := g) (ov := ov) hB)
  have i0 : W.cell? ⟨w.heap.size, 0, none⟩ = some (.int .u8 3) := by rw [← hW]; simp
  have i1 : W.cell? ⟨w.heap.size, 1, none⟩ = some (.int .i64 ((d : Nat) : Int)) := by rw [← hW]; simp
  have i2 : W.cell? ⟨w.heap.size, 2, none⟩ = some (.int .i64 ((x : Nat) : Int)) := by rw [← hW]; simp
  have i3 : W.cell? ⟨w.heap.size, 3, none⟩ = some (.int .i64 ((y : Nat) : Int)) := by rw [← hW]; simp
  have i4 : W.cell? ⟨w.heap.size, 4, none⟩ = some (.int .i64 imm) := by rw [← hW]; simp
  have i5 : W.cell? ⟨w.heap.size, 5, none⟩ = some (.string sym) := by rw [← hW]; simp
  have r0 : W.cell? ⟨g.rb, 0, none⟩ = some (.slice (some ⟨g.rg, 0, none⟩) s.regs.length s.regs.length) := HR.out.cell 0
  have vd := HR.out.reg hd
  have zd : W.frozen? ⟨g.rg, d, none⟩ = false := frozen_heap HR.out.regs d
  have d0 : (0 : Int) ≤ (d : Int) := by omega
  have d1 : (d : Int) < (s.regs.length : Int) := by omega
  have wd := HR.out.regw hd
  have d2 := wd.1
  have d3 := wd.2
  have Kd := Lib.hid wd
  clear wd
  have vx := HR.out.reg hx
  have zx : W.frozen? ⟨g.rg, x, none⟩ = false := frozen_heap HR.out.regs x
  have x0 : (0 : Int) ≤ (x : Int) := by omega
  have x1 : (x : Int) < (s.regs.length : Int) := by omega
  have wx := HR.out.regw hx
  have x2 := wx.1
  have x3 := wx.2
  have Kx := Lib.hid wx
  clear wx
  have vy := HR.out.reg hy
  have zy : W.frozen? ⟨g.rg, y, none⟩ = false := frozen_heap HR.out.regs y
  have y0 : (0 : Int) ≤ (y : Int) := by omega
  have y1 : (y : Int) < (s.regs.length : Int) := by omega
  have wy := HR.out.regw hy
  have y2 := wy.1
  have y3 := wy.2
  have Ky := Lib.hid wy
  clear wy
  clear h hB
  unfold Ins.val
  go_enter Try.func55, Try.ntmps55
  go_wp2_with fail
  clear hW
  obtain ⟨er, her⟩ : ∃ e, Wd.err imm (s.reg y) = e := ⟨_, rfl⟩
  obtain ⟨rv, hrv⟩ : ∃ v, Wd.apply imm (s.reg x) (s.reg y) = v := ⟨_, rfl⟩
  have HRW : Hid (Wd.W rv) := by show Wd.W _; rw [← hrv]; exact Wd.W_apply imm Kx.out Ky.out
  have HA : Hid (∀ n, Calls Try.prog 57 #[.int .u8 imm, .int .i32 (s.reg x), .int .i32 (s.reg y)] (World.drewN W n) (fun e w'' => e = .returned (.tuple #[.int .i32 rv, .int .i64 er]) ∧ ∃ m, w'' = W.drewN m)) := fun n => (apply_any imm (s.reg x) (s.reg y) ⟨by omega, by omega⟩ Kx.out Ky.out _).mono fun e w'' ⟨h1, h2⟩ => ⟨by rw [h1, her, hrv], n, h2.symm⟩
  have HER := Lib.hid her
  have HRV := Lib.hid hrv
  clear her hrv
  go_quiet (first | (go_at_call 57; with_reducible exact HA.out _))
  generalize hV : World.drewN _ _ = V
  have HRV' : Hid (RunAt N g names V ov s) := by show RunAt _ _ _ _ _ _; rw [← hV]; exact HR.out.same rfl
  have HFV : Hid (Frame g ov ov w V) := by show Frame _ _ _ _ _; rw [← hV]; exact ⟨HF.out.os, HF.out.tape, HF.out.output, HF.out.size, HF.out.block, HF.out.ovs⟩
  have q0 : V.cell? ⟨g.rb, 0, none⟩ = some (.slice (some ⟨g.rg, 0, none⟩) s.regs.length s.regs.length) := HRV'.out.cell 0
  have qd : V.cell? ⟨g.rg, d, none⟩ = some (.int .i32 (s.reg d)) := HRV'.out.reg hd
  have qz : V.frozen? ⟨g.rg, d, none⟩ = false := frozen_heap HRV'.out.regs d
  have j1 : V.cell? ⟨w.heap.size, 1, none⟩ = some (.int .i64 ((d : Nat) : Int)) := by rw [← hV]; exact i1
  clear hV r0 vd zd vx zx vy zy i0 i1 i2 i3 i4 i5
  by_cases h0 : er = 0
  · have hs3 : step names inp ⟨3, (d : Int), (x : Int), (y : Int), imm, sym⟩ s = .ok (s.setReg d rv) := by rw [step_3, HER.out, if_pos h0, HRV.out]
    have h0' : (er == 0) = true := by simpa using h0
    go_wp2_with fail
    go_region
    go_wp2_with fail
    go_ret
    exact StepOk.ok hs3 (HRV'.out.setReg (k := d) HRW.out) (HFV.out.trans (Frame.setCell g.rg d _ (.inr (.inl rfl)))) rfl rfl rfl rfl
  · have hs3 : step names inp ⟨3, (d : Int), (x : Int), (y : Int), imm, sym⟩ s = .error er := by rw [step_3, HER.out, if_neg h0]
    have h0' : (er == 0) = false := by simpa using h0
    go_wp2_with fail
    go_ret
    exact StepOk.trap hs3 HRV'.out HFV.out rfl rfl rfl rfl

end Go.Proofs.Ytjdfcpjlmfaaaaa
