/-
  Contract: instruction (package ir: runner), operation by operation.
-/
import Derived.Test.YteknhnnlhhgppaaDoorIrStep
import Derived.BigRegion
import Derived.Deep.QuietTactic
import Derived.BigQuiet
import Derived.Test.YteknhnnlhhgppaaDoorIrStep8
import Derived.Test.YteknhnnlhhgppaaDoorIrStep9
namespace Go.Proofs.YteknhnnlhhgppaaDoor
set_option linter.unusedVariables false
set_option linter.unusedSimpArgs false
open Go.RowKit
set_option maxRecDepth 100000
set_option maxHeartbeats 4000000
theorem instr_4 (N : Nat) (g : Geo) (names : List ByteArray) (inp : List Int) (d : Nat) (x : Nat) (y : Int) (imm : Int) (sym : ByteArray) (w : World) (ov : Value) (s : St) (h : RunAt N g names w ov s) (hd : d < s.regs.length) (hx : x < s.regs.length) (hs : sym.size ≤ 9223372036854775807) (hj : pos names sym < names.length) :
    Calls Tryd.prog 108 #[.pointer (some ⟨g.rb, 0, none⟩), Ins.val ⟨4, ((d : Nat) : Int), ((x : Nat) : Int), y, imm, sym⟩] w (StepOk N g names ov s w (step names inp ⟨4, ((d : Nat) : Int), ((x : Nat) : Int), y, imm, sym⟩ s)) := by
  obtain ⟨W, hW⟩ : ∃ W : World, w.alloc (.cells #[.int .u8 4, .int .i64 ((d : Nat) : Int), .int .i64 ((x : Nat) : Int), .int .i64 y, .int .i64 imm, .string sym] 54) = W := ⟨_, rfl⟩
  have hB : Below w.heap.size w W := by rw [← hW]; exact (Below.refl _ _).alloc (Nat.le_refl _) _
  have hWs : W.heap.size = w.heap.size + 1 := by rw [← hW]; simp
  have HR := Lib.hid (h.keep hB)
  have HF := Lib.hid (Frame.of_below (g := g) (ov := ov) hB)
  have i0 : W.cell? ⟨w.heap.size, 0, none⟩ = some (.int .u8 4) := by rw [← hW]; simp
  have i1 : W.cell? ⟨w.heap.size, 1, none⟩ = some (.int .i64 ((d : Nat) : Int)) := by rw [← hW]; simp
  have i2 : W.cell? ⟨w.heap.size, 2, none⟩ = some (.int .i64 ((x : Nat) : Int)) := by rw [← hW]; simp
  have i3 : W.cell? ⟨w.heap.size, 3, none⟩ = some (.int .i64 y) := by rw [← hW]; simp
  have i4 : W.cell? ⟨w.heap.size, 4, none⟩ = some (.int .i64 imm) := by rw [← hW]; simp
  have i5 : W.cell? ⟨w.heap.size, 5, none⟩ = some (.string sym) := by rw [← hW]; simp
  have r0 : W.cell? ⟨g.rb, 0, none⟩ = some (.slice (some ⟨g.rg, 0, none⟩) s.regs.length s.regs.length) := HR.out.cell 0
  have vd := HR.out.reg hd
  have zd : W.frozen? ⟨g.rg, d, none⟩ = false := frozen_heap HR.out.regs d
  have d0 : (0 : Int) ≤ (d : Int) := by omega
  have d1 : (d : Int) < (s.regs.length : Int) := by omega
  have wd := HR.out.regw hd
  have d2 := wd.1
  have d3 := wd.2
  have Kd := Lib.hid wd
  clear wd
  have vx := HR.out.reg hx
  have zx : W.frozen? ⟨g.rg, x, none⟩ = false := frozen_heap HR.out.regs x
  have x0 : (0 : Int) ≤ (x : Int) := by omega
  have x1 : (x : Int) < (s.regs.length : Int) := by omega
  have wx := HR.out.regw hx
  have x2 := wx.1
  have x3 := wx.2
  have Kx := Lib.hid wx
  clear wx
  clear h hB
  unfold Ins.val
  go_enter Tryd.func108, Tryd.ntmps108
  go_wp2_with fail
  clear hW
  refine (access_4 N g names inp d x y imm sym W ov s HR.out hd hx hs hj).mono ?_
  rintro e w5 ⟨rfl, ov', hR5, hF5⟩
  have HR5 := Lib.hid hR5
  have HF5 := Lib.hid (HF.out.trans hF5)
  clear hR5 hF5
  go_wp2_with fail
  go_ret
  exact ⟨rfl, ov', HR5.out, HF5.out⟩

theorem instr_5 (N : Nat) (g : Geo) (names : List ByteArray) (inp : List Int) (d : Int) (x : Nat) (y : Nat) (imm : Int) (sym : ByteArray) (w : World) (ov : Value) (s : St) (h : RunAt N g names w ov s) (hx : x < s.regs.length) (hy : y < s.regs.length) (hs : sym.size ≤ 9223372036854775807) (hj : pos names sym < names.length) :
    Calls Tryd.prog 108 #[.pointer (some ⟨g.rb, 0, none⟩), Ins.val ⟨5, d, ((x : Nat) : Int), ((y : Nat) : Int), imm, sym⟩] w (StepOk N g names ov s w (step names inp ⟨5, d, ((x : Nat) : Int), ((y : Nat) : Int), imm, sym⟩ s)) := by
  obtain ⟨W, hW⟩ : ∃ W : World, w.alloc (.cells #[.int .u8 5, .int .i64 d, .int .i64 ((x : Nat) : Int), .int .i64 ((y : Nat) : Int), .int .i64 imm, .string sym] 54) = W := ⟨_, rfl⟩
  have hB : Below w.heap.size w W := by rw [← hW]; exact (Below.refl _ _).alloc (Nat.le_refl _) _
  have hWs : W.heap.size = w.heap.size + 1 := by rw [← hW]; simp
  have HR := Lib.hid (h.keep hB)
  have HF := Lib.hid (Frame.of_below (g := g) (ov := ov) hB)
  have i0 : W.cell? ⟨w.heap.size, 0, none⟩ = some (.int .u8 5) := by rw [← hW]; simp
  have i1 : W.cell? ⟨w.heap.size, 1, none⟩ = some (.int .i64 d) := by rw [← hW]; simp
  have i2 : W.cell? ⟨w.heap.size, 2, none⟩ = some (.int .i64 ((x : Nat) : Int)) := by rw [← hW]; simp
  have i3 : W.cell? ⟨w.heap.size, 3, none⟩ = some (.int .i64 ((y : Nat) : Int)) := by rw [← hW]; simp
  have i4 : W.cell? ⟨w.heap.size, 4, none⟩ = some (.int .i64 imm) := by rw [← hW]; simp
  have i5 : W.cell? ⟨w.heap.size, 5, none⟩ = some (.string sym) := by rw [← hW]; simp
  have r0 : W.cell? ⟨g.rb, 0, none⟩ = some (.slice (some ⟨g.rg, 0, none⟩) s.regs.length s.regs.length) := HR.out.cell 0
  have vx := HR.out.reg hx
  have zx : W.frozen? ⟨g.rg, x, none⟩ = false := frozen_heap HR.out.regs x
  have x0 : (0 : Int) ≤ (x : Int) := by omega
  have x1 : (x : Int) < (s.regs.length : Int) := by omega
  have wx := HR.out.regw hx
  have x2 := wx.1
  have x3 := wx.2
  have Kx := Lib.hid wx
  clear wx
  have vy := HR.out.reg hy
  have zy : W.frozen? ⟨g.rg, y, none⟩ = false := frozen_heap HR.out.regs y
  have y0 : (0 : Int) ≤ (y : Int) := by omega
  have y1 : (y : Int) < (s.regs.length : Int) := by omega
  have wy := HR.out.regw hy
  have y2 := wy.1
  have y3 := wy.2
  have Ky := Lib.hid wy
  clear wy
  clear h hB
  unfold Ins.val
  go_enter Tryd.func108, Tryd.ntmps108
  go_wp2_with fail
  clear hW
  refine (access_5 N g names inp d x y imm sym W ov s HR.out hx hy hs hj).mono ?_
  rintro e w5 ⟨rfl, ov', hR5, hF5⟩
  have HR5 := Lib.hid hR5
  have HF5 := Lib.hid (HF.out.trans hF5)
  clear hR5 hF5
  go_wp2_with fail
  go_ret
  exact ⟨rfl, ov', HR5.out, HF5.out⟩

theorem instr_6 (N : Nat) (g : Geo) (names : List ByteArray) (inp : List Int) (d : Nat) (x : Nat) (y : Int) (imm : Int) (sym : ByteArray) (w : World) (ov : Value) (s : St) (h : RunAt N g names w ov s) (hd : d < s.regs.length) (hx : x < s.regs.length) (hs : sym.size ≤ 9223372036854775807) (hj : pos names sym < names.length) :
    Calls Tryd.prog 108 #[.pointer (some ⟨g.rb, 0, none⟩), Ins.val ⟨6, ((d : Nat) : Int), ((x : Nat) : Int), y, imm, sym⟩] w (StepOk N g names ov s w (step names inp ⟨6, ((d : Nat) : Int), ((x : Nat) : Int), y, imm, sym⟩ s)) := by
  obtain ⟨W, hW⟩ : ∃ W : World, w.alloc (.cells #[.int .u8 6, .int .i64 ((d : Nat) : Int), .int .i64 ((x : Nat) : Int), .int .i64 y, .int .i64 imm, .string sym] 54) = W := ⟨_, rfl⟩
  have hB : Below w.heap.size w W := by rw [← hW]; exact (Below.refl _ _).alloc (Nat.le_refl _) _
  have hWs : W.heap.size = w.heap.size + 1 := by rw [← hW]; simp
  have HR := Lib.hid (h.keep hB)
  have HF := Lib.hid (Frame.of_below (g := g) (ov := ov) hB)
  have i0 : W.cell? ⟨w.heap.size, 0, none⟩ = some (.int .u8 6) := by rw [← hW]; simp
  have i1 : W.cell? ⟨w.heap.size, 1, none⟩ = some (.int .i64 ((d : Nat) : Int)) := by rw [← hW]; simp
  have i2 : W.cell? ⟨w.heap.size, 2, none⟩ = some (.int .i64 ((x : Nat) : Int)) := by rw [← hW]; simp
  have i3 : W.cell? ⟨w.heap.size, 3, none⟩ = some (.int .i64 y) := by rw [← hW]; simp
  have i4 : W.cell? ⟨w.heap.size, 4, none⟩ = some (.int .i64 imm) := by rw [← hW]; simp
  have i5 : W.cell? ⟨w.heap.size, 5, none⟩ = some (.string sym) := by rw [← hW]; simp
  have r0 : W.cell? ⟨g.rb, 0, none⟩ = some (.slice (some ⟨g.rg, 0, none⟩) s.regs.length s.regs.length) := HR.out.cell 0
  have vd := HR.out.reg hd
  have zd : W.frozen? ⟨g.rg, d, none⟩ = false := frozen_heap HR.out.regs d
  have d0 : (0 : Int) ≤ (d : Int) := by omega
  have d1 : (d : Int) < (s.regs.length : Int) := by omega
  have wd := HR.out.regw hd
  have d2 := wd.1
  have d3 := wd.2
  have Kd := Lib.hid wd
  clear wd
  have vx := HR.out.reg hx
  have zx : W.frozen? ⟨g.rg, x, none⟩ = false := frozen_heap HR.out.regs x
  have x0 : (0 : Int) ≤ (x : Int) := by omega
  have x1 : (x : Int) < (s.regs.length : Int) := by omega
  have wx := HR.out.regw hx
  have x2 := wx.1
  have x3 := wx.2
  have Kx := Lib.hid wx
  clear wx
  clear h hB
  unfold Ins.val
  go_enter Tryd.func108, Tryd.ntmps108
  go_wp2_with fail
  clear hW
  refine (access_6 N g names inp d x y imm sym W ov s HR.out hd hx hs hj).mono ?_
  rintro e w5 ⟨rfl, ov', hR5, hF5⟩
  have HR5 := Lib.hid hR5
  have HF5 := Lib.hid (HF.out.trans hF5)
  clear hR5 hF5
  go_wp2_with fail
  go_ret
  exact ⟨rfl, ov', HR5.out, HF5.out⟩

theorem instr_7 (N : Nat) (g : Geo) (names : List ByteArray) (inp : List Int) (d : Int) (x : Nat) (y : Nat) (imm : Int) (sym : ByteArray) (w : World) (ov : Value) (s : St) (h : RunAt N g names w ov s) (hx : x < s.regs.length) (hy : y < s.regs.length) (hs : sym.size ≤ 9223372036854775807) (hj : pos names sym < names.length) :
    Calls Tryd.prog 108 #[.pointer (some ⟨g.rb, 0, none⟩), Ins.val ⟨7, d, ((x : Nat) : Int), ((y : Nat) : Int), imm, sym⟩] w (StepOk N g names ov s w (step names inp ⟨7, d, ((x : Nat) : Int), ((y : Nat) : Int), imm, sym⟩ s)) := by
  obtain ⟨W, hW⟩ : ∃ W : World, w.alloc (.cells #[.int .u8 7, .int .i64 d, .int .i64 ((x : Nat) : Int), .int .i64 ((y : Nat) : Int), .int .i64 imm, .string sym] 54) = W := ⟨_, rfl⟩
  have hB : Below w.heap.size w W := by rw [← hW]; exact (Below.refl _ _).alloc (Nat.le_refl _) _
  have hWs : W.heap.size = w.heap.size + 1 := by rw [← hW]; simp
  have HR := Lib.hid (h.keep hB)
  have HF := Lib.hid (Frame.of_below (g := g) (ov := ov) hB)
  have i0 : W.cell? ⟨w.heap.size, 0, none⟩ = some (.int .u8 7) := by rw [← hW]; simp
  have i1 : W.cell? ⟨w.heap.size, 1, none⟩ = some (.int .i64 d) := by rw [← hW]; simp
  have i2 : W.cell? ⟨w.heap.size, 2, none⟩ = some (.int .i64 ((x : Nat) : Int)) := by rw [← hW]; simp
  have i3 : W.cell? ⟨w.heap.size, 3, none⟩ = some (.int .i64 ((y : Nat) : Int)) := by rw [← hW]; simp
  have i4 : W.cell? ⟨w.heap.size, 4, none⟩ = some (.int .i64 imm) := by rw [← hW]; simp
  have i5 : W.cell? ⟨w.heap.size, 5, none⟩ = some (.string sym) := by rw [← hW]; simp
  have r0 : W.cell? ⟨g.rb, 0, none⟩ = some (.slice (some ⟨g.rg, 0, none⟩) s.regs.length s.regs.length) := HR.out.cell 0
  have vx := HR.out.reg hx
  have zx : W.frozen? ⟨g.rg, x, none⟩ = false := frozen_heap HR.out.regs x
  have x0 : (0 : Int) ≤ (x : Int) := by omega
  have x1 : (x : Int) < (s.regs.length : Int) := by omega
  have wx := HR.out.regw hx
  have x2 := wx.1
  have x3 := wx.2
  have Kx := Lib.hid wx
  clear wx
  have vy := HR.out.reg hy
  have zy : W.frozen? ⟨g.rg, y, none⟩ = false := frozen_heap HR.out.regs y
  have y0 : (0 : Int) ≤ (y : Int) := by omega
  have y1 : (y : Int) < (s.regs.length : Int) := by omega
  have wy := HR.out.regw hy
  have y2 := wy.1
  have y3 := wy.2
  have Ky := Lib.hid wy
  clear wy
  clear h hB
  unfold Ins.val
  go_enter Tryd.func108, Tryd.ntmps108
  go_wp2_with fail
  clear hW
  refine (access_7 N g names inp d x y imm sym W ov s HR.out hx hy hs hj).mono ?_
  rintro e w5 ⟨rfl, ov', hR5, hF5⟩
  have HR5 := Lib.hid hR5
  have HF5 := Lib.hid (HF.out.trans hF5)
  clear hR5 hF5
  go_wp2_with fail
  go_ret
  exact ⟨rfl, ov', HR5.out, HF5.out⟩

end Go.Proofs.YteknhnnlhhgppaaDoor
