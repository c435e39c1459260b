/-
  Mg27: several texts in one (IrStep6, Ref17Uses).
-/
import Derived.Test.YtkpdngfkdmllkaaDoorMg3
import Derived.BigRegion
import Derived.Deep.QuietTactic
import Derived.BigQuiet
import Derived.Test.YtkpdngfkdmllkaaDoorMg0
import Derived.Maps.AppendAt
import Derived.Laws.OwnMore
/-
  Contract: instruction (package ir: runner), operation by operation.
-/
namespace Go.Proofs.YtkpdngfkdmllkaaDoor
set_option linter.unusedVariables false
set_option linter.unusedSimpArgs false
open Go.RowKit
set_option maxRecDepth 100000
set_option maxHeartbeats 4000000
theorem instr_9 (N : Nat) (g : Geo) (names : List ByteArray) (inp : List Int) (d : Nat) (x : Int) (y : Int) (imm : Int) (sym : ByteArray) (w : World) (ov : Value) (s : IrSt) (h : RunAt N g names w ov s) (hd : d < s.regs.length) (ia : Option Addr) (ic : Nat) (hinv : g.inv = .slice ia inp.length ic) (hin : IrWordsAt w ia inp) (hNw : ∀ b, 0 < inp.length → ia.map Addr.block = some b → b < N) (hrd : s.read < 8000000000) :
    Calls Tryd.prog 48 #[.pointer (some ⟨g.rb, 0, none⟩), Ins.val ⟨9, ((d : Nat) : Int), x, y, imm, sym⟩] w (StepOk N g names ov s w (step names inp ⟨9, ((d : Nat) : Int), x, y, imm, sym⟩ s)) := by
  obtain ⟨W, hW⟩ : ∃ W : World, w.alloc (.cells #[.int .u8 9, .int .i64 ((d : Nat) : Int), .int .i64 x, .int .i64 y, .int .i64 imm, .string sym] 48) = W := ⟨_, rfl⟩
  have hB : Below w.heap.size w W := by rw [← hW]; exact (Below.refl _ _).alloc (Nat.le_refl _) _
  have hWs : W.heap.size = w.heap.size + 1 := by rw [← hW]; simp
  have HR := Lib.hid (h.keep hB)
  have HF := Lib.hid (Frame.of_below (g := g) (ov := ov) hB)
  have i0 : W.cell? ⟨w.heap.size, 0, none⟩ = some (.int .u8 9) := by rw [← hW]; simp
  have i1 : W.cell? ⟨w.heap.size, 1, none⟩ = some (.int .i64 ((d : Nat) : Int)) := by rw [← hW]; simp
  have i2 : W.cell? ⟨w.heap.size, 2, none⟩ = some (.int .i64 x) := by rw [← hW]; simp
  have i3 : W.cell? ⟨w.heap.size, 3, none⟩ = some (.int .i64 y) := by rw [← hW]; simp
  have i4 : W.cell? ⟨w.heap.size, 4, none⟩ = some (.int .i64 imm) := by rw [← hW]; simp
  have i5 : W.cell? ⟨w.heap.size, 5, none⟩ = some (.string sym) := by rw [← hW]; simp
  have r0 : W.cell? ⟨g.rb, 0, none⟩ = some (.slice (some ⟨g.rg, 0, none⟩) s.regs.length s.regs.length) := HR.out.cell 0
  have r8 : W.cell? ⟨g.rb, 8, none⟩ = some (g.inv) := HR.out.cell 8
  have z8 : W.frozen? ⟨g.rb, 8, none⟩ = false := frozen_heap HR.out.run 8
  have r10 : W.cell? ⟨g.rb, 10, none⟩ = some (.int .i64 s.read) := HR.out.cell 10
  have z10 : W.frozen? ⟨g.rb, 10, none⟩ = false := frozen_heap HR.out.run 10
  have vd := HR.out.reg hd
  have zd : W.frozen? ⟨g.rg, d, none⟩ = false := frozen_heap HR.out.regs d
  have d0 : (0 : Int) ≤ (d : Int) := by omega
  have d1 : (d : Int) < (s.regs.length : Int) := by omega
  have wd := HR.out.regw hd
  have d2 := wd.1
  have d3 := wd.2
  have Kd := Lib.hid wd
  clear wd
  have HIN := Lib.hid (hin.below hB)
  have hil := hin.fits
  rw [hinv] at r8
  have HH := Lib.hid h
  clear hin
  clear h hB
  unfold Ins.val
  go_enter Tryd.func48, Tryd.ntmps48
  go_wp2_with fail
  clear hW
  go_region
  go_wp2_with fail
  generalize hV : World.drew _ = V
  have HRV : Hid (RunAt N g names V ov (s.setReg d 0)) := by show RunAt _ _ _ _ _ _; rw [← hV]; exact (HR.out.setReg (k := d) ⟨by omega, by omega⟩).same rfl
  have HFV : Hid (Frame g ov ov w V) := by show Frame _ _ _ _ _; rw [← hV]; exact (HF.out.trans (Frame.setCell g.rg d _ (.inr (.inl rfl)))).drew
  have HFW : Hid (Frame g ov ov W V) := by show Frame _ _ _ _ _; rw [← hV]; exact (Frame.setCell g.rg d _ (.inr (.inl rfl))).drew
  have q0 : V.cell? ⟨g.rb, 0, none⟩ = some (.slice (some ⟨g.rg, 0, none⟩) s.regs.length s.regs.length) := by have := HRV.out.cell 0; simpa [runCells, IrSt.setReg] using this
  have q8 : V.cell? ⟨g.rb, 8, none⟩ = some (.slice ia inp.length ic) := by rw [← hinv]; exact HRV.out.cell 8
  have q10 : V.cell? ⟨g.rb, 10, none⟩ = some (.int .i64 s.read) := HRV.out.cell 10
  have y10 : V.frozen? ⟨g.rb, 10, none⟩ = false := frozen_heap HRV.out.run 10
  have yd : V.frozen? ⟨g.rg, d, none⟩ = false := frozen_heap HRV.out.regs d
  have qd := HRV.out.reg (k := d) (by simpa [IrSt.setReg] using hd)
  have qi : V.cell? ⟨w.heap.size, 1, none⟩ = some (.int .i64 ((d : Nat) : Int)) :=
    (World.cell?_of_block (a := ⟨w.heap.size, 1, none⟩) (HFW.out.block w.heap.size (by omega) (fun h0 => by have := (HH.out.ours h0).2; omega))).trans i1
  have hr0 : (0 : Int) ≤ (s.read : Int) := by omega
  have hr1 : (s.read : Int) + 1 ≤ 9223372036854775807 := by omega
  clear hV r0 r8 r10 z8 z10 zd vd i0 i1 i2 i3 i4 i5
  by_cases hlt : s.read < inp.length
  · have hlt' : (s.read : Int) < (inp.length : Int) := by omega
    rcases HIN.out.at_ with h0 | ⟨ib, io, rfl, hk⟩
    · omega
    obtain ⟨xv, hx⟩ : ∃ v, inp[s.read]? = some v := ⟨_, List.getElem?_eq_getElem hlt⟩
    have xw := HIN.out.words xv (List.mem_of_getElem? hx)
    have HXW := Lib.hid xw
    have HXV : Hid (inp.getD s.read 0 = xv) := by show _ = _; simp [hx]
    have ci0 := hk s.read xv hx
    have ci : V.cell? ⟨ib, io + s.read, none⟩ = some (.int .i32 xv) := (World.cell?_of_block (a := ⟨ib, io + s.read, none⟩) (HFW.out.block ib (World.block_lt_of_cell? _ _ ci0) (fun h0 => by have := (HH.out.ours h0).1; have := hNw ib (by omega) rfl; omega))).trans ci0
    clear hk hx ci0 xw
    go_quiet (fail)
    generalize hU : World.drewN _ _ = U
    have HRU : Hid (RunAt N g names U ov (s.setReg d 0)) := by show RunAt _ _ _ _ _ _; rw [← hU]; exact HRV.out.same rfl
    have HFU : Hid (Frame g ov ov w U) := by show Frame _ _ _ _ _; rw [← hU]; exact ⟨HFV.out.os, HFV.out.tape, HFV.out.output, HFV.out.size, HFV.out.block, HFV.out.ovs⟩
    have p0 : U.cell? ⟨g.rb, 0, none⟩ = some (.slice (some ⟨g.rg, 0, none⟩) s.regs.length s.regs.length) := by rw [← hU]; exact q0
    have p8 : U.cell? ⟨g.rb, 8, none⟩ = some (.slice (some ⟨ib, io, none⟩) inp.length ic) := by rw [← hU]; exact q8
    have p10 : U.cell? ⟨g.rb, 10, none⟩ = some (.int .i64 s.read) := by rw [← hU]; exact q10
    have u10 : U.frozen? ⟨g.rb, 10, none⟩ = false := by rw [← hU]; exact y10
    have ud : U.frozen? ⟨g.rg, d, none⟩ = false := by rw [← hU]; exact yd
    have pd : U.cell? ⟨g.rg, d, none⟩ = some (.int .i32 (IrSt.reg (s.setReg d 0) d)) := by rw [← hU]; exact qd
    have pi : U.cell? ⟨w.heap.size, 1, none⟩ = some (.int .i64 ((d : Nat) : Int)) := by rw [← hU]; exact qi
    have pc : U.cell? ⟨ib, io + s.read, none⟩ = some (.int .i32 xv) := by rw [← hU]; exact ci
    clear hU q0 q8 q10 y10 yd qd qi ci HRV HFV HFW HR HF V
    go_wp2_with fail
    go_region
    generalize hT : World.drew _ = T
    have HRT : Hid (RunAt N g names T ov ((s.setReg d 0).setReg d xv)) := by show RunAt _ _ _ _ _ _; rw [← hT]; exact (HRU.out.setReg (k := d) HXW.out).same rfl
    have HFT : Hid (Frame g ov ov w T) := by show Frame _ _ _ _ _; rw [← hT]; exact (HFU.out.trans (Frame.setCell g.rg d _ (.inr (.inl rfl)))).drew
    have t10 : T.cell? ⟨g.rb, 10, none⟩ = some (.int .i64 s.read) := HRT.out.cell 10
    have s10 : T.frozen? ⟨g.rb, 10, none⟩ = false := frozen_heap HRT.out.run 10
    clear hT p0 p8 p10 u10 ud pd pi pc HRU HFU U
    go_wp2_with fail
    go_ret
    refine StepOk.ok step_9 ?_ (HFT.out.trans (Frame.setCell g.rb 10 _ (.inl rfl))) rfl rfl rfl rfl
    have e := HRT.out.setRead (s.read + 1)
    rw [HXV.out]
    simpa [IrSt.setReg] using e
  · have hlt' : decide ((s.read : Int) < (inp.length : Int)) = false := by simp; omega
    have HXV : Hid (inp.getD s.read 0 = 0) := by show _ = _; simp [List.getElem?_eq_none (Nat.le_of_not_lt hlt)]
    go_quiet (fail)
    generalize hU : World.drewN _ _ = U
    have HRU : Hid (RunAt N g names U ov (s.setReg d 0)) := by show RunAt _ _ _ _ _ _; rw [← hU]; exact HRV.out.same rfl
    have HFU : Hid (Frame g ov ov w U) := by show Frame _ _ _ _ _; rw [← hU]; exact ⟨HFV.out.os, HFV.out.tape, HFV.out.output, HFV.out.size, HFV.out.block, HFV.out.ovs⟩
    have p10 : U.cell? ⟨g.rb, 10, none⟩ = some (.int .i64 s.read) := by rw [← hU]; exact q10
    have u10 : U.frozen? ⟨g.rb, 10, none⟩ = false := by rw [← hU]; exact y10
    clear hU q0 q8 q10 y10 yd qd qi HRV HFV HFW HR HF V
    go_wp2_with fail
    go_ret
    refine StepOk.ok step_9 ?_ (HFU.out.trans (Frame.setCell g.rb 10 _ (.inl rfl))) rfl rfl rfl rfl
    have e := HRU.out.setRead (s.read + 1)
    rw [HXV.out]
    simpa [IrSt.setReg] using e

end Go.Proofs.YtkpdngfkdmllkaaDoor

/-
  Contracts: Uses, Succ (package ontimeref17).
-/
namespace Go.Proofs.YtkpdngfkdmllkaaDoor
set_option linter.unusedVariables false
set_option linter.unusedSimpArgs false
open Go.RowKit
set_option maxRecDepth 100000

theorem Tryd.infoInt17 : (Tryd.prog.info? 3).map (fun i => (i.zero, i.size, i.bytes)) = some (some (.int .i64 0), 1, 8) := by kernel_rfl
theorem shape_x {op : Int} (h0 : 0 ≤ op) : hasB (shapeOf op) 120 (shapeOf op).size = decide (op = 2 ∨ op = 3 ∨ op = 4 ∨ op = 5 ∨ op = 6 ∨ op = 7 ∨ op = 8 ∨ op = 10 ∨ op = 16) := by
  by_cases h : 17 ≤ op
  · rw [shape_none h]
    have : ¬ (op = 2 ∨ op = 3 ∨ op = 4 ∨ op = 5 ∨ op = 6 ∨ op = 7 ∨ op = 8 ∨ op = 10 ∨ op = 16) := by omega
    rw [decide_eq_false this]; rfl
  · obtain ⟨k, rfl⟩ := Int.eq_ofNat_of_zero_le h0
    have hk : k < 17 := by omega
    have all : ∀ k : Fin 17, hasB (shapeOf (k.1 : Int)) 120 (shapeOf (k.1 : Int)).size = decide ((k.1 : Int) = 2 ∨ (k.1 : Int) = 3 ∨ (k.1 : Int) = 4 ∨ (k.1 : Int) = 5 ∨ (k.1 : Int) = 6 ∨ (k.1 : Int) = 7 ∨ (k.1 : Int) = 8 ∨ (k.1 : Int) = 10 ∨ (k.1 : Int) = 16) := by decide
    exact all ⟨k, hk⟩
theorem shape_y {op : Int} (h0 : 0 ≤ op) : hasB (shapeOf op) 121 (shapeOf op).size = decide (op = 3 ∨ op = 5 ∨ op = 7) := by
  by_cases h : 17 ≤ op
  · rw [shape_none h]
    have : ¬ (op = 3 ∨ op = 5 ∨ op = 7) := by omega
    rw [decide_eq_false this]; rfl
  · obtain ⟨k, rfl⟩ := Int.eq_ofNat_of_zero_le h0
    have hk : k < 17 := by omega
    have all : ∀ k : Fin 17, hasB (shapeOf (k.1 : Int)) 121 (shapeOf (k.1 : Int)).size = decide ((k.1 : Int) = 3 ∨ (k.1 : Int) = 5 ∨ (k.1 : Int) = 7) := by decide
    exact all ⟨k, hk⟩

/-- an owned row of ints is a slice of ints -/
theorem ints_of_row {w : World} {base : Nat} {v : Value} {xs : List Int} (h : w.ownsRow base 3 1 v xs.length (xs.map (Value.int .i64))) : IntsIn (fun k => base ≤ k) w v xs := by
  rcases h.2 with ⟨rfl, h0⟩ | ⟨g, cap, cur, rfl, hg, hc, hn, _⟩
  · exact .inl ⟨List.length_eq_zero_iff.1 h0, rfl⟩
  · refine .inr ⟨g, 0, cap, rfl, hg, hn, (Array.getElem?_eq_some_iff.1 hc).1, fun i hi => ?_⟩
    have := h.cells (g := g) rfl i (.int .i64 (xs.getD i 0)) (by simp [hi])
    rwa [show (⟨g, 0, none⟩ : Addr).add i = ⟨g, 0 + i, none⟩ by unfold Addr.add; split <;> simp_all] at this

/-- the second half of the reference's Uses: out so far, then the second register -/
def refU (i : Ins) (bx b16 bY : Bool) : List Int := (if bx && b16 then [i.x] else []) ++ (if bY then [i.y] else [])
theorem refU_uses {i : Ins} (h0 : 0 ≤ i.op) : refU i (hasB (shapeOf i.op) 120 (shapeOf i.op).size) (i.op != 16) (hasB (shapeOf i.op) 121 (shapeOf i.op).size) = i.uses := by
  rw [shape_x h0, shape_y h0]
  unfold refU Ins.uses
  by_cases h3 : i.op = 3 ∨ i.op = 5 ∨ i.op = 7
  · have hA : (i.op = 2 ∨ i.op = 3 ∨ i.op = 4 ∨ i.op = 5 ∨ i.op = 6 ∨ i.op = 7 ∨ i.op = 8 ∨ i.op = 10 ∨ i.op = 16) := by omega
    have hB : ¬ (i.op = 2 ∨ i.op = 4 ∨ i.op = 6 ∨ i.op = 8 ∨ i.op = 10) := by omega
    have hC : (i.op != 16) = true := by simp; omega
    rw [decide_eq_true hA, decide_eq_true h3, hC, if_neg hB, if_pos h3]; rfl
  · by_cases h2 : i.op = 2 ∨ i.op = 4 ∨ i.op = 6 ∨ i.op = 8 ∨ i.op = 10
    · have hA : (i.op = 2 ∨ i.op = 3 ∨ i.op = 4 ∨ i.op = 5 ∨ i.op = 6 ∨ i.op = 7 ∨ i.op = 8 ∨ i.op = 10 ∨ i.op = 16) := by omega
      have hC : (i.op != 16) = true := by simp; omega
      rw [decide_eq_true hA, decide_eq_false h3, hC, if_pos h2]; rfl
    · by_cases h16 : i.op = 16
      · have hC : (i.op != 16) = false := by simp [h16]
        rw [decide_eq_false h3, hC, if_neg h2, if_neg h3, Bool.and_false]; rfl
      · have hA : ¬ (i.op = 2 ∨ i.op = 3 ∨ i.op = 4 ∨ i.op = 5 ∨ i.op = 6 ∨ i.op = 7 ∨ i.op = 8 ∨ i.op = 10 ∨ i.op = 16) := by omega
        rw [decide_eq_false hA, decide_eq_false h3, if_neg h2, if_neg h3]; rfl

theorem own_at_ge {g n c b base : Nat} (h : (Value.slice (some ⟨g, 0, none⟩) n c).ownBlock = some b) (hg : base ≤ g) : base ≤ b := by
  have : g = b := by simpa [Value.ownBlock] using h
  omega
theorem uses_grow {w W w6 : World} {v v' : Value} {xs : List Int} (ho : w6.ownsRow w.heap.size 3 1 v' xs.length (xs.map (Value.int .i64))) (hgr : W.grownBy w6 v.ownBlock) (hB : Below w.heap.size w W) (hv : ∀ b, v.ownBlock = some b → w.heap.size ≤ b) :
    IntsIn (fun k => w.heap.size ≤ k) w6 v' xs ∧ Below w.heap.size w w6 :=
  ⟨ints_of_row ho, hgr.os.trans hB.os, hgr.tape.trans hB.tape, hgr.output.trans hB.output, Nat.le_trans hB.size hgr.size, fun k hk => (hgr.block k (Nat.lt_of_lt_of_le hk hB.size) (fun e => by have := hv k e.symm; omega)).trans (hB.block k hk)⟩

end Go.Proofs.YtkpdngfkdmllkaaDoor
