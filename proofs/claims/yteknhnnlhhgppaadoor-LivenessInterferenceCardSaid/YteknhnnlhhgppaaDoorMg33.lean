/-
  Mg33: several texts in one (DeadRef, Drews, IrStep1).
-/
import Derived.Test.YteknhnnlhhgppaaDoorLiveAt
import Derived.Test.YteknhnnlhhgppaaDoorMg4
import Derived.Test.YteknhnnlhhgppaaDoorMg23
import Derived.WalkKit
import Derived.Below
import Derived.Deep.QuietTactic
import Derived.Test.YteknhnnlhhgppaaDoorIrStep
import Derived.BigRegion
import Derived.BigQuiet
/-
  Contract: Dead (package ontimeref19).
-/
namespace Go.Proofs.YteknhnnlhhgppaaDoor
set_option linter.unusedVariables false
set_option linter.unusedSimpArgs false
open Go.RowKit
set_option maxRecDepth 100000
set_option maxHeartbeats 16000000

theorem refdead_any (f : Fn) (aa ba : Option Addr) (ac bc R k i o : Nat) (b : Blk) (w : World) (hf : FnAt w f aa ba) (hn : f.blocks.length ≤ 1000) (hb : f.blocks[k]? = some b) (hcl : ∀ b ∈ f.blocks, b.code.length ≤ 1000000) (hi : i < b.code.length) (hF : FormR f R)
    (ho : o < 2 ^ R) (hol : ∀ r, r < R → (o.testBit r = true ↔ LeavesP f r k)) :
    Calls Tryd.prog 38 #[fnVal f.name f.regs aa f.arrays.length ac ba f.blocks.length bc, .int .i64 (k : Int), .int .i64 (i : Int)] w (Tells (deadAt b o i = true) w) := by
  have HF := Lib.hid hf
  have HCL := Lib.hid hcl
  have HFR := Lib.hid hF
  have HO := Lib.hid ho
  have HOL := Lib.hid hol
  have HN1 := Lib.hid hn
  have HB := Lib.hid hb
  obtain ⟨n, hnn⟩ : ∃ n, f.blocks.length = n := ⟨_, rfl⟩
  have HN := Lib.hid hnn
  have hkn : k < n := by have := (List.getElem?_eq_some_iff.1 hb).1; omega
  obtain ⟨q, hq⟩ : ∃ q, b.code[i]? = some q := ⟨_, List.getElem?_eq_getElem hi⟩
  obtain ⟨PP, hPP⟩ : ∃ PP : Prop, (deadAt b o i = true) = PP := ⟨_, rfl⟩
  have HPP : Hid (PP ↔ (removable q && !((blkB b (i + 1) o).testBit q.dst.toNat)) = true) := by show _ ↔ _; rw [← hPP, deadAt_some hq]
  rw [hPP]
  have HQR := Lib.hid ((hF.blk b (List.mem_of_getElem? hb)).ins q (List.mem_of_getElem? hq)).2.2
  have QL : Hid (∀ (w' : World) (x : Nat), Below w.heap.size w w' → x < R → Calls Tryd.prog 50 #[.agg #[.string f.name, .int .i64 f.regs, .slice aa f.arrays.length ac, .slice ba n bc], .int .i64 (k : Int), .int .i64 ((i : Int) + 1), .int .i64 (x : Int)] w' (Tells ((blkB b (i + 1) o).testBit x = true) w')) := fun w' x hB hx => by
    have h9 := live_any f aa ba ac bc R k (i + 1) x o b w' (HF.out.below hB) HN1.out HB.out HCL.out hi HFR.out hx HO.out (HOL.out x hx)
    rw [HN.out, show ((i + 1 : Nat) : Int) = (i : Int) + 1 by omega] at h9
    exact h9
  obtain ⟨W, hW⟩ : ∃ W : World, w.alloc (.cells #[.string f.name, .int .i64 f.regs, .slice aa f.arrays.length ac, .slice ba n bc] 36) = W := ⟨_, rfl⟩
  have HBW : Hid (Below w.heap.size w W) := by show Below _ _ _; rw [← hW]; exact mem_alloc _ _
  have HX : Hid (W.heap[w.heap.size]? = some (.cells #[.string f.name, .int .i64 f.regs, .slice aa f.arrays.length ac, .slice ba n bc] 36)) := by
    show _ = _
    rw [← hW]
    exact mem_new _ _
  have HXC : Hid (∀ w', Below W.heap.size W w' → (w'.cell? ⟨w.heap.size, 0, none⟩ = some (.string f.name) ∧ w'.cell? ⟨w.heap.size, 1, none⟩ = some (.int .i64 f.regs) ∧ w'.cell? ⟨w.heap.size, 2, none⟩ = some (.slice aa f.arrays.length ac) ∧ w'.cell? ⟨w.heap.size, 3, none⟩ = some (.slice ba n bc)) ∧ Below w.heap.size w w') := fun w' h => by
    have h9 := mem_keep HX.out h
    exact ⟨⟨cell_heap h9 0, cell_heap h9 1, cell_heap h9 2, cell_heap h9 3⟩, mem_then HBW.out h⟩
  obtain ⟨⟨x0, x1, x2, x3⟩, _⟩ := HXC.out W (Below.refl _ _)
  rcases hf.blocks.at_ with hz | ⟨bb, off, rfl, hbk⟩
  · omega
  obtain ⟨ca, cc, hba, hcode⟩ := hbk k b hb
  obtain ⟨c0, c1, c2, c3, c4⟩ := hba.below HBW.out
  rcases hcode.at_ with hz | ⟨cb, co, rfl, hcc⟩
  · omega
  obtain ⟨g0, g1, g2, g3, g4, g5⟩ := (hcc i q hq).below HBW.out
  have HQWF := Lib.hid (hcode.wf q (List.mem_of_getElem? hq))
  obtain ⟨V1, hV1⟩ : ∃ V1 : World, W.alloc (.cells #[.int .u8 q.op, .int .i64 q.dst, .int .i64 q.x, .int .i64 q.y, .int .i64 q.imm, .string q.sym] 91) = V1 := ⟨_, rfl⟩
  have HBV1 : Hid (Below W.heap.size W V1) := by show Below _ _ _; rw [← hV1]; exact mem_alloc _ _
  have HZ1 : Hid (V1.heap[W.heap.size]? = some (.cells #[.int .u8 q.op, .int .i64 q.dst, .int .i64 q.x, .int .i64 q.y, .int .i64 q.imm, .string q.sym] 91)) := by
    show _ = _
    rw [← hV1]
    exact mem_new _ _
  obtain ⟨d0, d1, d2, d3, d4, d5⟩ := six_cells HZ1.out
  have hk0 : (0 : Int) ≤ (k : Int) := by omega
  have hk1 : (k : Int) < (n : Int) := by omega
  have hi0 : (0 : Int) ≤ (i : Int) := by omega
  have hi1 : (i : Int) < (b.code.length : Int) := by omega
  have hcl1 := HCL.out b (List.mem_of_getElem? hb)
  rw [hnn]
  clear hf hcl hF ho hol hn hb hq hPP hbk hba hcode hcc hnn
  go_enter Tryd.func38, Tryd.ntmps38
  go_wp2_with fail
  clear hW hV1 x0 x1 x2 x3 c0 c1 c2 c3 c4 g0 g1 g2 g3 g4 g5 d0 d1 d2 d3 d4 d5
  refine (refDefines_any q _ HQWF.out.op0 HQWF.out.op1).mono ?_
  unfold DefOk
  rintro e w2 ⟨rfl, hB2⟩
  have HBF2 : Hid (Below W.heap.size W w2) := mem_then HBV1.out hB2
  have HZ2 : Hid (w2.heap[W.heap.size]? = some (.cells #[.int .u8 q.op, .int .i64 q.dst, .int .i64 q.x, .int .i64 q.y, .int .i64 q.imm, .string q.sym] 91)) := mem_keep HZ1.out hB2
  obtain ⟨⟨x0, x1, x2, x3⟩, hbw⟩ := HXC.out w2 HBF2.out
  have HBW2 := Lib.hid hbw
  clear hB2 hbw
  obtain ⟨K, hK⟩ : ∃ K : Option Int, q.defines = K := ⟨_, rfl⟩
  rw [hK]
  have HD := Lib.hid hK
  clear hK
  cases K with
  | none =>
    have HNO : Hid (¬ PP) := fun h => by
      have h9 := HPP.out.1 h
      rw [Bool.and_eq_true] at h9
      have h8 := removable_def h9.1
      rw [HD.out] at h8
      cases h8
    simp only [Option.getD_none, Option.isSome_none]
    go_wp2_with fail
    go_ret
    exact ⟨false, rfl, ⟨fun h => by simp at h, fun h => absurd h HNO.out⟩, HBW2.out⟩
  | some d =>
    have hdd : d = q.dst := by
      have h9 := HD.out
      unfold Ins.defines at h9
      split at h9
      · injection h9 with h9; exact h9.symm
      · cases h9
    have hd9 := HQR.out.dfn d HD.out
    obtain ⟨r, hr⟩ : ∃ r : Nat, d = (r : Int) := ⟨d.toNat, by omega⟩
    have hrR : r < R := by omega
    have HQD : Hid (q.dst = (r : Int)) := by show _ = _; rw [← hdd, hr]
    subst hr
    simp only [Option.getD_some, Option.isSome_some]
    clear hdd hd9
    go_wp2_with fail
    clear x0 x1 x2 x3
    refine (QL.out _ r HBW2.out hrR).mono ?_
    rintro e w3 ⟨r3, rfl, hr3, hB3⟩
    have HR3 := Lib.hid hr3
    have HBF3 := Lib.hid (Below.trans HBW2.out (hB3.mono HBW2.out.size))
    have HZ3 := Lib.hid (mem_keep HZ2.out hB3)
    clear hr3 hB3
    cases r3 with
    | true =>
      have HNO : Hid (¬ PP) := fun h => by
        have h9 := HPP.out.1 h
        rw [Bool.and_eq_true, HQD.out, Int.toNat_natCast, HR3.out.1 (by simp)] at h9
        simp at h9
      go_wp2_with fail
      go_ret
      exact ⟨false, rfl, ⟨fun h => by simp at h, fun h => absurd h HNO.out⟩, HBF3.out⟩
    | false =>
      have HEND : Hid (∀ z, removable q = z → (z = true ↔ PP)) := fun z hz => by
        have h8 : (blkB b (i + 1) o).testBit r = false := by
          cases h7 : (blkB b (i + 1) o).testBit r with
          | false => rfl
          | true => have := HR3.out.2 h7; simp at this
        rw [HPP.out, hz, HQD.out, Int.toNat_natCast, h8]
        simp
      obtain ⟨d0, d1, d2, d3, d4, d5⟩ := six_cells HZ3.out
      by_cases a1 : q.op = 1
      · skip
        have a1b : (q.op == 1) = true := by simp [a1]
        have a1d : decide (q.op = 1) = true := by simp [a1]
        have a1n : (q.op != 1) = false := by simp [a1]
        have HR9 : Hid (removable q = true) := by show _ = _; unfold removable; simp [a1]
        clear a1
        go_wp2_with fail
        go_ret
        exact ⟨true, rfl, HEND.out _ HR9.out, HBF3.out⟩
      have a1b : (q.op == 1) = false := by simpa using a1
      have a1d : decide (q.op = 1) = false := by simpa using a1
      have a1n : (q.op != 1) = true := by simpa using a1
      by_cases a2 : q.op = 2
      · skip
        have a2b : (q.op == 2) = true := by simp [a2]
        have a2d : decide (q.op = 2) = true := by simp [a2]
        have a2n : (q.op != 2) = false := by simp [a2]
        have HR9 : Hid (removable q = true) := by show _ = _; unfold removable; simp [a1, a2]
        clear a1 a2
        go_wp2_with fail
        go_ret
        exact ⟨true, rfl, HEND.out _ HR9.out, HBF3.out⟩
      have a2b : (q.op == 2) = false := by simpa using a2
      have a2d : decide (q.op = 2) = false := by simpa using a2
      have a2n : (q.op != 2) = true := by simpa using a2
      by_cases a3 : q.op = 15
      · skip
        have a3b : (q.op == 15) = true := by simp [a3]
        have a3d : decide (q.op = 15) = true := by simp [a3]
        have a3n : (q.op != 15) = false := by simp [a3]
        have HR9 : Hid (removable q = true) := by show _ = _; unfold removable; simp [a1, a2, a3]
        clear a1 a2 a3
        go_wp2_with fail
        go_ret
        exact ⟨true, rfl, HEND.out _ HR9.out, HBF3.out⟩
      have a3b : (q.op == 15) = false := by simpa using a3
      have a3d : decide (q.op = 15) = false := by simpa using a3
      have a3n : (q.op != 15) = true := by simpa using a3
      by_cases a4 : q.op = 3
      case neg =>
        have a4b : (q.op == 3) = false := by simpa using a4
        have a4d : decide (q.op = 3) = false := by simpa using a4
        have a4n : (q.op != 3) = true := by simpa using a4
        have HR9 : Hid (removable q = false) := by show _ = _; unfold removable; simp [a1, a2, a3, a4]
        clear a1 a2 a3 a4
        go_wp2_with fail
        go_ret
        exact ⟨false, rfl, HEND.out _ HR9.out, HBF3.out⟩
      have a4b : (q.op == 3) = true := by simp [a4]
      have a4d : decide (q.op = 3) = true := by simp [a4]
      have a4n : (q.op != 3) = false := by simp [a4]
      by_cases a5 : q.imm = 9
      · skip
        have a5b : (q.imm == 9) = true := by simp [a5]
        have a5d : decide (q.imm = 9) = true := by simp [a5]
        have a5n : (q.imm != 9) = false := by simp [a5]
        have HR9 : Hid (removable q = false) := by show _ = _; unfold removable; simp [a1, a2, a3, a4, a5]
        clear a1 a2 a3 a4 a5
        go_wp2_with fail
        go_ret
        exact ⟨false, rfl, HEND.out _ HR9.out, HBF3.out⟩
      have a5b : (q.imm == 9) = false := by simpa using a5
      have a5d : decide (q.imm = 9) = false := by simpa using a5
      have a5n : (q.imm != 9) = true := by simpa using a5
      by_cases a6 : q.imm = 10
      · skip
        have a6b : (q.imm == 10) = true := by simp [a6]
        have a6d : decide (q.imm = 10) = true := by simp [a6]
        have a6n : (q.imm != 10) = false := by simp [a6]
        have HR9 : Hid (removable q = false) := by show _ = _; unfold removable; simp [a1, a2, a3, a4, a5, a6]
        clear a1 a2 a3 a4 a5 a6
        go_wp2_with fail
        go_ret
        exact ⟨false, rfl, HEND.out _ HR9.out, HBF3.out⟩
      have a6b : (q.imm == 10) = false := by simpa using a6
      have a6d : decide (q.imm = 10) = false := by simpa using a6
      have a6n : (q.imm != 10) = true := by simpa using a6
      have HR9 : Hid (removable q = true) := by show _ = _; unfold removable; simp [a1, a2, a3, a4, a5, a6]
      clear a1 a2 a3 a4 a5 a6
      go_wp2_with fail
      go_ret
      exact ⟨true, rfl, HEND.out _ HR9.out, HBF3.out⟩
end Go.Proofs.YteknhnnlhhgppaaDoor

/-
  Worlds that differ by draws alone. No program is named here.
-/
namespace Go.Proofs.YteknhnnlhhgppaaDoor
set_option linter.unusedVariables false
set_option linter.unusedSimpArgs false
open Go.RowKit

theorem below_drew {w w' : World} (h : ∃ m, w' = World.drewN w m) : Below w.heap.size w w' := by
  obtain ⟨m, rfl⟩ := h
  exact ⟨rfl, rfl, rfl, Nat.le_refl _, fun _ _ => rfl⟩
theorem drew_more {w w' V : World} {n : Nat} (h : ∃ m, w' = World.drewN w m) (hV : World.drewN w' n = V) : ∃ m, V = World.drewN w m := by
  obtain ⟨m, rfl⟩ := h
  exact ⟨m + n, by rw [← hV]; simp [World.drewN, Nat.add_assoc]⟩
end Go.Proofs.YteknhnnlhhgppaaDoor

/-
  Contract: instruction (package ir: runner), operation by operation.
-/
namespace Go.Proofs.YteknhnnlhhgppaaDoor
set_option linter.unusedVariables false
set_option linter.unusedSimpArgs false
open Go.RowKit
set_option maxRecDepth 100000
set_option maxHeartbeats 4000000
theorem instr_1 (N : Nat) (g : Geo) (names : List ByteArray) (inp : List Int) (d : Nat) (x : Int) (y : Int) (imm : Int) (sym : ByteArray) (w : World) (ov : Value) (s : St) (h : RunAt N g names w ov s) (hd : d < s.regs.length) (hi0 : -2147483648 ≤ imm) (hi1 : imm ≤ 2147483647) :
    Calls Tryd.prog 108 #[.pointer (some ⟨g.rb, 0, none⟩), Ins.val ⟨1, ((d : Nat) : Int), x, y, imm, sym⟩] w (StepOk N g names ov s w (step names inp ⟨1, ((d : Nat) : Int), x, y, imm, sym⟩ s)) := by
  obtain ⟨W, hW⟩ : ∃ W : World, w.alloc (.cells #[.int .u8 1, .int .i64 ((d : Nat) : Int), .int .i64 x, .int .i64 y, .int .i64 imm, .string sym] 54) = W := ⟨_, rfl⟩
  have hB : Below w.heap.size w W := by rw [← hW]; exact (Below.refl _ _).alloc (Nat.le_refl _) _
  have hWs : W.heap.size = w.heap.size + 1 := by rw [← hW]; simp
  have HR := Lib.hid (h.keep hB)
  have HF := Lib.hid (Frame.of_below (g := g) (ov := ov) hB)
  have i0 : W.cell? ⟨w.heap.size, 0, none⟩ = some (.int .u8 1) := by rw [← hW]; simp
  have i1 : W.cell? ⟨w.heap.size, 1, none⟩ = some (.int .i64 ((d : Nat) : Int)) := by rw [← hW]; simp
  have i2 : W.cell? ⟨w.heap.size, 2, none⟩ = some (.int .i64 x) := by rw [← hW]; simp
  have i3 : W.cell? ⟨w.heap.size, 3, none⟩ = some (.int .i64 y) := by rw [← hW]; simp
  have i4 : W.cell? ⟨w.heap.size, 4, none⟩ = some (.int .i64 imm) := by rw [← hW]; simp
  have i5 : W.cell? ⟨w.heap.size, 5, none⟩ = some (.string sym) := by rw [← hW]; simp
  have r0 : W.cell? ⟨g.rb, 0, none⟩ = some (.slice (some ⟨g.rg, 0, none⟩) s.regs.length s.regs.length) := HR.out.cell 0
  have vd := HR.out.reg hd
  have zd : W.frozen? ⟨g.rg, d, none⟩ = false := frozen_heap HR.out.regs d
  have d0 : (0 : Int) ≤ (d : Int) := by omega
  have d1 : (d : Int) < (s.regs.length : Int) := by omega
  have wd := HR.out.regw hd
  have d2 := wd.1
  have d3 := wd.2
  have Kd := Lib.hid wd
  clear wd
  clear h hB
  unfold Ins.val
  go_enter Tryd.func108, Tryd.ntmps108
  go_wp2_with fail
  clear hW
  go_region
  go_wp2_with fail
  go_ret
  refine StepOk.ok (by rw [step_1, wrap_id hi0 hi1]) (HR.out.setReg (k := d) ⟨hi0, hi1⟩) (HF.out.trans (Frame.setCell g.rg d _ (.inr (.inl rfl)))) rfl rfl rfl rfl

theorem instr_2 (N : Nat) (g : Geo) (names : List ByteArray) (inp : List Int) (d : Nat) (x : Nat) (y : Int) (imm : Int) (sym : ByteArray) (w : World) (ov : Value) (s : St) (h : RunAt N g names w ov s) (hd : d < s.regs.length) (hx : x < s.regs.length)  :
    Calls Tryd.prog 108 #[.pointer (some ⟨g.rb, 0, none⟩), Ins.val ⟨2, ((d : Nat) : Int), ((x : Nat) : Int), y, imm, sym⟩] w (StepOk N g names ov s w (step names inp ⟨2, ((d : Nat) : Int), ((x : Nat) : Int), y, imm, sym⟩ s)) := by
  obtain ⟨W, hW⟩ : ∃ W : World, w.alloc (.cells #[.int .u8 2, .int .i64 ((d : Nat) : Int), .int .i64 ((x : Nat) : Int), .int .i64 y, .int .i64 imm, .string sym] 54) = W := ⟨_, rfl⟩
  have hB : Below w.heap.size w W := by rw [← hW]; exact (Below.refl _ _).alloc (Nat.le_refl _) _
  have hWs : W.heap.size = w.heap.size + 1 := by rw [← hW]; simp
  have HR := Lib.hid (h.keep hB)
  have HF := Lib.hid (Frame.of_below (g := g) (ov := ov) hB)
  have i0 : W.cell? ⟨w.heap.size, 0, none⟩ = some (.int .u8 2) := by rw [← hW]; simp
  have i1 : W.cell? ⟨w.heap.size, 1, none⟩ = some (.int .i64 ((d : Nat) : Int)) := by rw [← hW]; simp
  have i2 : W.cell? ⟨w.heap.size, 2, none⟩ = some (.int .i64 ((x : Nat) : Int)) := by rw [← hW]; simp
  have i3 : W.cell? ⟨w.heap.size, 3, none⟩ = some (.int .i64 y) := by rw [← hW]; simp
  have i4 : W.cell? ⟨w.heap.size, 4, none⟩ = some (.int .i64 imm) := by rw [← hW]; simp
  have i5 : W.cell? ⟨w.heap.size, 5, none⟩ = some (.string sym) := by rw [← hW]; simp
  have r0 : W.cell? ⟨g.rb, 0, none⟩ = some (.slice (some ⟨g.rg, 0, none⟩) s.regs.length s.regs.length) := HR.out.cell 0
  have vd := HR.out.reg hd
  have zd : W.frozen? ⟨g.rg, d, none⟩ = false := frozen_heap HR.out.regs d
  have d0 : (0 : Int) ≤ (d : Int) := by omega
  have d1 : (d : Int) < (s.regs.length : Int) := by omega
  have wd := HR.out.regw hd
  have d2 := wd.1
  have d3 := wd.2
  have Kd := Lib.hid wd
  clear wd
  have vx := HR.out.reg hx
  have zx : W.frozen? ⟨g.rg, x, none⟩ = false := frozen_heap HR.out.regs x
  have x0 : (0 : Int) ≤ (x : Int) := by omega
  have x1 : (x : Int) < (s.regs.length : Int) := by omega
  have wx := HR.out.regw hx
  have x2 := wx.1
  have x3 := wx.2
  have Kx := Lib.hid wx
  clear wx
  clear h hB
  unfold Ins.val
  go_enter Tryd.func108, Tryd.ntmps108
  go_wp2_with fail
  clear hW
  go_region
  go_wp2_with fail
  go_ret
  refine StepOk.ok step_2 (HR.out.setReg (k := d) Kx.out) (HF.out.trans (Frame.setCell g.rg d _ (.inr (.inl rfl)))) rfl rfl rfl rfl

theorem instr_8 (N : Nat) (g : Geo) (names : List ByteArray) (inp : List Int) (d : Int) (x : Nat) (y : Int) (imm : Int) (sym : ByteArray) (w : World) (ov : Value) (s : St) (h : RunAt N g names w ov s) (hx : x < s.regs.length)  :
    Calls Tryd.prog 108 #[.pointer (some ⟨g.rb, 0, none⟩), Ins.val ⟨8, d, ((x : Nat) : Int), y, imm, sym⟩] w (StepOk N g names ov s w (step names inp ⟨8, d, ((x : Nat) : Int), y, imm, sym⟩ s)) := by
  obtain ⟨W, hW⟩ : ∃ W : World, w.alloc (.cells #[.int .u8 8, .int .i64 d, .int .i64 ((x : Nat) : Int), .int .i64 y, .int .i64 imm, .string sym] 54) = W := ⟨_, rfl⟩
  have hB : Below w.heap.size w W := by rw [← hW]; exact (Below.refl _ _).alloc (Nat.le_refl _) _
  have hWs : W.heap.size = w.heap.size + 1 := by rw [← hW]; simp
  have HR := Lib.hid (h.keep hB)
  have HF := Lib.hid (Frame.of_below (g := g) (ov := ov) hB)
  have i0 : W.cell? ⟨w.heap.size, 0, none⟩ = some (.int .u8 8) := by rw [← hW]; simp
  have i1 : W.cell? ⟨w.heap.size, 1, none⟩ = some (.int .i64 d) := by rw [← hW]; simp
  have i2 : W.cell? ⟨w.heap.size, 2, none⟩ = some (.int .i64 ((x : Nat) : Int)) := by rw [← hW]; simp
  have i3 : W.cell? ⟨w.heap.size, 3, none⟩ = some (.int .i64 y) := by rw [← hW]; simp
  have i4 : W.cell? ⟨w.heap.size, 4, none⟩ = some (.int .i64 imm) := by rw [← hW]; simp
  have i5 : W.cell? ⟨w.heap.size, 5, none⟩ = some (.string sym) := by rw [← hW]; simp
  have r0 : W.cell? ⟨g.rb, 0, none⟩ = some (.slice (some ⟨g.rg, 0, none⟩) s.regs.length s.regs.length) := HR.out.cell 0
  have vx := HR.out.reg hx
  have zx : W.frozen? ⟨g.rg, x, none⟩ = false := frozen_heap HR.out.regs x
  have x0 : (0 : Int) ≤ (x : Int) := by omega
  have x1 : (x : Int) < (s.regs.length : Int) := by omega
  have wx := HR.out.regw hx
  have x2 := wx.1
  have x3 := wx.2
  have Kx := Lib.hid wx
  clear wx
  clear h hB
  unfold Ins.val
  go_enter Tryd.func108, Tryd.ntmps108
  go_wp2_with fail
  clear hW
  go_quiet (fail)
  by_cases hc : s.reg x < 0 ∨ imm ≤ s.reg x
  · have hc' : s.reg x < 0 ∨ (decide (s.reg x < 0) = false ∧ imm ≤ s.reg x) := by
      by_cases q : s.reg x < 0
      · exact .inl q
      · exact .inr ⟨by simpa using q, by omega⟩
    rcases hc' with q | ⟨q, q'⟩
    all_goals
      go_wp2_with fail
      go_ret
      exact StepOk.trap (by rw [step_8, if_pos hc]) HR.out HF.out rfl rfl rfl rfl
  · have q : decide (s.reg x < 0) = false := by simp; omega
    have q' : decide (imm ≤ s.reg x) = false := by simp; omega
    go_wp2_with fail
    go_ret
    exact StepOk.ok (by rw [step_8, if_neg hc]) HR.out HF.out rfl rfl rfl rfl

end Go.Proofs.YteknhnnlhhgppaaDoor
