/-
  Contract: instruction (package ir: runner), operation by operation.
-/
import Derived.Test.YteknhnnlhhgppaaDoorIrStep
import Derived.BigRegion
import Derived.Deep.QuietTactic
import Derived.BigQuiet
namespace Go.Proofs.YteknhnnlhhgppaaDoor
set_option linter.unusedVariables false
set_option linter.unusedSimpArgs false
open Go.RowKit
set_option maxRecDepth 100000
set_option maxHeartbeats 4000000
theorem access_4 (N : Nat) (g : Geo) (names : List ByteArray) (inp : List Int) (d : Nat) (x : Nat) (y : Int) (imm : Int) (sym : ByteArray) (w : World) (ov : Value) (s : St) (h : RunAt N g names w ov s) (hd : d < s.regs.length) (hx : x < s.regs.length) (hs : sym.size ≤ 9223372036854775807) (hj : pos names sym < names.length) :
    Calls Tryd.prog 118 #[.pointer (some ⟨g.rb, 0, none⟩), Ins.val ⟨4, ((d : Nat) : Int), ((x : Nat) : Int), y, imm, sym⟩] w (StepOk N g names ov s w (step names inp ⟨4, ((d : Nat) : Int), ((x : Nat) : Int), y, imm, sym⟩ s)) := by
  obtain ⟨W, hW⟩ : ∃ W : World, w.alloc (.cells #[.int .u8 4, .int .i64 ((d : Nat) : Int), .int .i64 ((x : Nat) : Int), .int .i64 y, .int .i64 imm, .string sym] 54) = W := ⟨_, rfl⟩
  have hB : Below w.heap.size w W := by rw [← hW]; exact (Below.refl _ _).alloc (Nat.le_refl _) _
  have hWs : W.heap.size = w.heap.size + 1 := by rw [← hW]; simp
  have HR := Lib.hid (h.keep hB)
  have HF := Lib.hid (Frame.of_below (g := g) (ov := ov) hB)
  have i0 : W.cell? ⟨w.heap.size, 0, none⟩ = some (.int .u8 4) := by rw [← hW]; simp
  have i1 : W.cell? ⟨w.heap.size, 1, none⟩ = some (.int .i64 ((d : Nat) : Int)) := by rw [← hW]; simp
  have i2 : W.cell? ⟨w.heap.size, 2, none⟩ = some (.int .i64 ((x : Nat) : Int)) := by rw [← hW]; simp
  have i3 : W.cell? ⟨w.heap.size, 3, none⟩ = some (.int .i64 y) := by rw [← hW]; simp
  have i4 : W.cell? ⟨w.heap.size, 4, none⟩ = some (.int .i64 imm) := by rw [← hW]; simp
  have i5 : W.cell? ⟨w.heap.size, 5, none⟩ = some (.string sym) := by rw [← hW]; simp
  have r0 : W.cell? ⟨g.rb, 0, none⟩ = some (.slice (some ⟨g.rg, 0, none⟩) s.regs.length s.regs.length) := HR.out.cell 0
  have r5 : W.cell? ⟨g.rb, 5, none⟩ = some (.map (some g.mb)) := HR.out.cell 5
  have z5 : W.frozen? ⟨g.rb, 5, none⟩ = false := frozen_heap HR.out.run 5
  have vd := HR.out.reg hd
  have zd : W.frozen? ⟨g.rg, d, none⟩ = false := frozen_heap HR.out.regs d
  have d0 : (0 : Int) ≤ (d : Int) := by omega
  have d1 : (d : Int) < (s.regs.length : Int) := by omega
  have wd := HR.out.regw hd
  have d2 := wd.1
  have d3 := wd.2
  have Kd := Lib.hid wd
  clear wd
  have vx := HR.out.reg hx
  have zx : W.frozen? ⟨g.rg, x, none⟩ = false := frozen_heap HR.out.regs x
  have x0 : (0 : Int) ≤ (x : Int) := by omega
  have x1 : (x : Int) < (s.regs.length : Int) := by omega
  have wx := HR.out.regw hx
  have x2 := wx.1
  have x3 := wx.2
  have Kx := Lib.hid wx
  clear wx
  have HL := Lib.hid (look_zip (rows := g.rows) hj (HR.out.nnames.trans HR.out.nrows.symm))
  have hjm : pos names sym < s.mem.length := by rw [← HR.out.nnames]; exact hj
  have HOW := Lib.hid (HR.out.rows _ hjm)
  have hrl := ownsRow_len HOW.out
  obtain ⟨ra, rc, hrv⟩ := ownsRow_val HOW.out
  have hrun : ∀ n, (Instr.lookup 144 (.map (some g.mb)) (.string sym) false).run Tryd.prog (W.drewN n) = .ok (.slice ra (s.row (pos names sym)).length rc) (W.drewN n) := fun n => by
    rw [(HR.out.map.move (w' := W.drewN n) rfl).run Tryd.underlying9 Tryd.underlying144 (zeroR _) hs, HL.out, hrv]
    rfl
  have HJ := Lib.hid hj
  clear hj
  clear h hB
  unfold Ins.val
  go_enter Tryd.func118, Tryd.ntmps118
  go_wp2_with fail
  clear hW
  go_quiet (fail)
  generalize hV : World.drewN _ _ = V
  have HRV : Hid (RunAt N g names V ov s) := by show RunAt _ _ _ _ _ _; rw [← hV]; exact HR.out.same rfl
  have HFV : Hid (Frame g ov ov w V) := by show Frame _ _ _ _ _; rw [← hV]; exact ⟨HF.out.os, HF.out.tape, HF.out.output, HF.out.size, HF.out.block, HF.out.ovs⟩
  have HFC : Hid (∀ k, V.cell? ⟨w.heap.size, k, none⟩ = W.cell? ⟨w.heap.size, k, none⟩) := fun k => by rw [← hV]; rfl
  have q0 : V.cell? ⟨g.rb, 0, none⟩ = some (.slice (some ⟨g.rg, 0, none⟩) s.regs.length s.regs.length) := HRV.out.cell 0
  have qx : V.cell? ⟨g.rg, x, none⟩ = some (.int .i32 (s.reg x)) := HRV.out.reg hx
  have j2 := (HFC.out 2).trans i2
  clear hV
  go_wp2_with fail
  go_quiet (fail)
  generalize hU : World.drewN _ _ = U
  have HRU : Hid (RunAt N g names U ov s) := by show RunAt _ _ _ _ _ _; rw [← hU]; exact HRV.out.same rfl
  have HFU : Hid (Frame g ov ov w U) := by show Frame _ _ _ _ _; rw [← hU]; exact ⟨HFV.out.os, HFV.out.tape, HFV.out.output, HFV.out.size, HFV.out.block, HFV.out.ovs⟩
  have HUC : Hid (∀ k, U.cell? ⟨w.heap.size, k, none⟩ = W.cell? ⟨w.heap.size, k, none⟩) := fun k => by rw [← hU]; exact HFC.out k
  have p0 : U.cell? ⟨g.rb, 0, none⟩ = some (.slice (some ⟨g.rg, 0, none⟩) s.regs.length s.regs.length) := HRU.out.cell 0
  have l0 := (HUC.out 0).trans i0
  have l1 := (HUC.out 1).trans i1
  have l3 := (HUC.out 3).trans i3
  clear hU q0 qx j2 HFC HRV HFV V r0 r5 z5 i0 i1 i2 i3 i4 i5 hrun
  by_cases hc : s.reg x < 0 ∨ (s.row (pos names sym)).length ≤ s.reg x
  · have hc' : s.reg x < 0 ∨ (decide (s.reg x < 0) = false ∧ (s.row (pos names sym)).length ≤ s.reg x) := by
      by_cases q : s.reg x < 0
      · exact .inl q
      · exact .inr ⟨by simpa using q, by omega⟩
    rcases hc' with q | ⟨q, q'⟩
    all_goals
      go_wp2_with fail
      go_ret
      exact StepOk.trap (step_4.trans (if_pos hc)) HRU.out HFU.out rfl rfl rfl rfl
  · have q : decide (s.reg x < 0) = false := by simp; omega
    have HC := Lib.hid hc
    obtain ⟨k, hk⟩ : ∃ k : Nat, s.reg x = (k : Int) := ⟨(s.reg x).toNat, by omega⟩
    have HK := Lib.hid hk
    have hkl : k < (s.row (pos names sym)).length := by omega
    have q' : decide (((s.row (pos names sym)).length : Int) ≤ (k : Int)) = false := by simp; omega
    obtain ⟨b, rfl⟩ : ∃ b, ra = some ⟨b, 0, none⟩ := ownsRow_some (hrv ▸ HOW.out) (by omega)
    have rw_ := HRU.out.rowCell hjm hrv hkl
    have rz_ : U.frozen? ⟨b, k, none⟩ = false := HRU.out.rowFree hjm hrv hkl k
    rw [hk] at q
    have HWV : Hid (Wd.W ((s.row (pos names sym)).getD k 0)) := HRU.out.wf.mem _ (row_mem hjm) _ (getD_mem hkl)
    obtain ⟨rv0, hrv0⟩ : ∃ v, (s.row (pos names sym)).getD k 0 = v := ⟨_, rfl⟩
    have HRV0 := Lib.hid hrv0
    rw [hrv0] at rw_ HWV
    clear hrv0
    have hk0 : (0 : Int) ≤ (k : Int) := by omega
    have hk1 : (k : Int) < ((s.row (pos names sym)).length : Int) := by omega
    have ud : U.cell? ⟨g.rg, d, none⟩ = some (.int .i32 (s.reg d)) := HRU.out.reg hd
    have uz : U.frozen? ⟨g.rg, d, none⟩ = false := frozen_heap HRU.out.regs d
    rw [hk]
    clear hc hk
    go_wp2_with fail
    go_region
    go_wp2_with fail
    go_ret
    exact StepOk.ok (step_4.trans ((if_neg HC.out).trans (by rw [HK.out, Int.toNat_natCast, HRV0.out]))) (HRU.out.setReg (k := d) HWV.out) (HFU.out.trans (Frame.setCell g.rg d _ (.inr (.inl rfl)))) rfl rfl rfl rfl

theorem access_6 (N : Nat) (g : Geo) (names : List ByteArray) (inp : List Int) (d : Nat) (x : Nat) (y : Int) (imm : Int) (sym : ByteArray) (w : World) (ov : Value) (s : St) (h : RunAt N g names w ov s) (hd : d < s.regs.length) (hx : x < s.regs.length) (hs : sym.size ≤ 9223372036854775807) (hj : pos names sym < names.length) :
    Calls Tryd.prog 118 #[.pointer (some ⟨g.rb, 0, none⟩), Ins.val ⟨6, ((d : Nat) : Int), ((x : Nat) : Int), y, imm, sym⟩] w (StepOk N g names ov s w (step names inp ⟨6, ((d : Nat) : Int), ((x : Nat) : Int), y, imm, sym⟩ s)) := by
  obtain ⟨W, hW⟩ : ∃ W : World, w.alloc (.cells #[.int .u8 6, .int .i64 ((d : Nat) : Int), .int .i64 ((x : Nat) : Int), .int .i64 y, .int .i64 imm, .string sym] 54) = W := ⟨_, rfl⟩
  have hB : Below w.heap.size w W := by rw [← hW]; exact (Below.refl _ _).alloc (Nat.le_refl _) _
  have hWs : W.heap.size = w.heap.size + 1 := by rw [← hW]; simp
  have HR := Lib.hid (h.keep hB)
  have HF := Lib.hid (Frame.of_below (g := g) (ov := ov) hB)
  have i0 : W.cell? ⟨w.heap.size, 0, none⟩ = some (.int .u8 6) := by rw [← hW]; simp
  have i1 : W.cell? ⟨w.heap.size, 1, none⟩ = some (.int .i64 ((d : Nat) : Int)) := by rw [← hW]; simp
  have i2 : W.cell? ⟨w.heap.size, 2, none⟩ = some (.int .i64 ((x : Nat) : Int)) := by rw [← hW]; simp
  have i3 : W.cell? ⟨w.heap.size, 3, none⟩ = some (.int .i64 y) := by rw [← hW]; simp
  have i4 : W.cell? ⟨w.heap.size, 4, none⟩ = some (.int .i64 imm) := by rw [← hW]; simp
  have i5 : W.cell? ⟨w.heap.size, 5, none⟩ = some (.string sym) := by rw [← hW]; simp
  have r0 : W.cell? ⟨g.rb, 0, none⟩ = some (.slice (some ⟨g.rg, 0, none⟩) s.regs.length s.regs.length) := HR.out.cell 0
  have r5 : W.cell? ⟨g.rb, 5, none⟩ = some (.map (some g.mb)) := HR.out.cell 5
  have z5 : W.frozen? ⟨g.rb, 5, none⟩ = false := frozen_heap HR.out.run 5
  have vd := HR.out.reg hd
  have zd : W.frozen? ⟨g.rg, d, none⟩ = false := frozen_heap HR.out.regs d
  have d0 : (0 : Int) ≤ (d : Int) := by omega
  have d1 : (d : Int) < (s.regs.length : Int) := by omega
  have wd := HR.out.regw hd
  have d2 := wd.1
  have d3 := wd.2
  have Kd := Lib.hid wd
  clear wd
  have vx := HR.out.reg hx
  have zx : W.frozen? ⟨g.rg, x, none⟩ = false := frozen_heap HR.out.regs x
  have x0 : (0 : Int) ≤ (x : Int) := by omega
  have x1 : (x : Int) < (s.regs.length : Int) := by omega
  have wx := HR.out.regw hx
  have x2 := wx.1
  have x3 := wx.2
  have Kx := Lib.hid wx
  clear wx
  have HL := Lib.hid (look_zip (rows := g.rows) hj (HR.out.nnames.trans HR.out.nrows.symm))
  have hjm : pos names sym < s.mem.length := by rw [← HR.out.nnames]; exact hj
  have HOW := Lib.hid (HR.out.rows _ hjm)
  have hrl := ownsRow_len HOW.out
  obtain ⟨ra, rc, hrv⟩ := ownsRow_val HOW.out
  have hrun : ∀ n, (Instr.lookup 144 (.map (some g.mb)) (.string sym) false).run Tryd.prog (W.drewN n) = .ok (.slice ra (s.row (pos names sym)).length rc) (W.drewN n) := fun n => by
    rw [(HR.out.map.move (w' := W.drewN n) rfl).run Tryd.underlying9 Tryd.underlying144 (zeroR _) hs, HL.out, hrv]
    rfl
  have HJ := Lib.hid hj
  clear hj
  clear h hB
  unfold Ins.val
  go_enter Tryd.func118, Tryd.ntmps118
  go_wp2_with fail
  clear hW
  go_quiet (fail)
  generalize hV : World.drewN _ _ = V
  have HRV : Hid (RunAt N g names V ov s) := by show RunAt _ _ _ _ _ _; rw [← hV]; exact HR.out.same rfl
  have HFV : Hid (Frame g ov ov w V) := by show Frame _ _ _ _ _; rw [← hV]; exact ⟨HF.out.os, HF.out.tape, HF.out.output, HF.out.size, HF.out.block, HF.out.ovs⟩
  have HFC : Hid (∀ k, V.cell? ⟨w.heap.size, k, none⟩ = W.cell? ⟨w.heap.size, k, none⟩) := fun k => by rw [← hV]; rfl
  have q0 : V.cell? ⟨g.rb, 0, none⟩ = some (.slice (some ⟨g.rg, 0, none⟩) s.regs.length s.regs.length) := HRV.out.cell 0
  have qx : V.cell? ⟨g.rg, x, none⟩ = some (.int .i32 (s.reg x)) := HRV.out.reg hx
  have j2 := (HFC.out 2).trans i2
  clear hV
  go_wp2_with fail
  go_quiet (fail)
  generalize hU : World.drewN _ _ = U
  have HRU : Hid (RunAt N g names U ov s) := by show RunAt _ _ _ _ _ _; rw [← hU]; exact HRV.out.same rfl
  have HFU : Hid (Frame g ov ov w U) := by show Frame _ _ _ _ _; rw [← hU]; exact ⟨HFV.out.os, HFV.out.tape, HFV.out.output, HFV.out.size, HFV.out.block, HFV.out.ovs⟩
  have HUC : Hid (∀ k, U.cell? ⟨w.heap.size, k, none⟩ = W.cell? ⟨w.heap.size, k, none⟩) := fun k => by rw [← hU]; exact HFC.out k
  have p0 : U.cell? ⟨g.rb, 0, none⟩ = some (.slice (some ⟨g.rg, 0, none⟩) s.regs.length s.regs.length) := HRU.out.cell 0
  have l0 := (HUC.out 0).trans i0
  have l1 := (HUC.out 1).trans i1
  have l3 := (HUC.out 3).trans i3
  clear hU q0 qx j2 HFC HRV HFV V r0 r5 z5 i0 i1 i2 i3 i4 i5 hrun
  by_cases hc : s.reg x < 0 ∨ (s.row (pos names sym)).length ≤ s.reg x
  · have hc' : s.reg x < 0 ∨ (decide (s.reg x < 0) = false ∧ (s.row (pos names sym)).length ≤ s.reg x) := by
      by_cases q : s.reg x < 0
      · exact .inl q
      · exact .inr ⟨by simpa using q, by omega⟩
    rcases hc' with q | ⟨q, q'⟩
    all_goals
      go_wp2_with fail
      go_ret
      exact StepOk.trap (step_6.trans (if_pos hc)) HRU.out HFU.out rfl rfl rfl rfl
  · have q : decide (s.reg x < 0) = false := by simp; omega
    have HC := Lib.hid hc
    obtain ⟨k, hk⟩ : ∃ k : Nat, s.reg x = (k : Int) := ⟨(s.reg x).toNat, by omega⟩
    have HK := Lib.hid hk
    have hkl : k < (s.row (pos names sym)).length := by omega
    have q' : decide (((s.row (pos names sym)).length : Int) ≤ (k : Int)) = false := by simp; omega
    obtain ⟨b, rfl⟩ : ∃ b, ra = some ⟨b, 0, none⟩ := ownsRow_some (hrv ▸ HOW.out) (by omega)
    have rw_ := HRU.out.rowCell hjm hrv hkl
    have rz_ : U.frozen? ⟨b, k, none⟩ = false := HRU.out.rowFree hjm hrv hkl k
    rw [hk] at q
    have HWV : Hid (Wd.W ((s.row (pos names sym)).getD k 0)) := HRU.out.wf.mem _ (row_mem hjm) _ (getD_mem hkl)
    obtain ⟨rv0, hrv0⟩ : ∃ v, (s.row (pos names sym)).getD k 0 = v := ⟨_, rfl⟩
    have HRV0 := Lib.hid hrv0
    rw [hrv0] at rw_ HWV
    clear hrv0
    have hk0 : (0 : Int) ≤ (k : Int) := by omega
    have hk1 : (k : Int) < ((s.row (pos names sym)).length : Int) := by omega
    have ud : U.cell? ⟨g.rg, d, none⟩ = some (.int .i32 (s.reg d)) := HRU.out.reg hd
    have uz : U.frozen? ⟨g.rg, d, none⟩ = false := frozen_heap HRU.out.regs d
    rw [hk]
    clear hc hk
    go_wp2_with fail
    go_region
    go_wp2_with fail
    go_ret
    exact StepOk.ok (step_6.trans ((if_neg HC.out).trans (by rw [HK.out, Int.toNat_natCast, HRV0.out]))) (HRU.out.setReg (k := d) HWV.out) (HFU.out.trans (Frame.setCell g.rg d _ (.inr (.inl rfl)))) rfl rfl rfl rfl

end Go.Proofs.YteknhnnlhhgppaaDoor
