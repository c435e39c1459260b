/-
  Mg6: several texts in one (IrClos, IrSym, IrIns).
-/
import Derived.Test.YteknhnnlhhgppaaDoorMg0
import Derived.Test.YteknhnnlhhgppaaDoorMg4
import Derived.Deep.QuietTactic
import Derived.BigQuiet
/-
  Contracts: the closures of validIns (package ir): between, register.
-/
namespace Go.Proofs.YteknhnnlhhgppaaDoor
set_option linter.unusedVariables false
set_option linter.unusedSimpArgs false
open Go.RowKit
set_option maxRecDepth 100000

set_option maxHeartbeats 2000000 in
theorem between_any (n lo hi : Int) (w : World) :
    Calls Tryd.prog 114 #[.int .i64 n, .int .i64 lo, .int .i64 hi] w fun e w' => e = .returned (.bool (decide (lo ≤ n) && decide (n ≤ hi))) ∧ w = w' := by
  go_enter Tryd.func114, Tryd.ntmps114
  go_wp2
  all_goals
    go_ret
    exact ⟨ret_bool (by first | (simp [*]; done) | (simp [*]; intros; omega)), rfl⟩

set_option maxHeartbeats 2000000 in
theorem isReg_any (n regs : Int) (b o : Nat) (w : World) (hc : w.cell? ⟨b, o + 1, none⟩ = some (.int .i64 regs)) :
    Calls Tryd.prog 115 #[.int .i64 n, .pointer (some ⟨b, o, none⟩)] w fun e w' => e = .returned (.bool (decide (0 ≤ n) && decide (n < regs))) ∧ w = w' := by
  go_enter Tryd.func115, Tryd.ntmps115
  go_wp2
  all_goals
    go_ret
    exact ⟨ret_bool (by first | (simp [*]; done) | (simp [*]; intros; omega)), rfl⟩
end Go.Proofs.YteknhnnlhhgppaaDoor

/-
  Contracts: the closure symbol of validIns, validIns (package ir).
-/
namespace Go.Proofs.YteknhnnlhhgppaaDoor
set_option linter.unusedVariables false
set_option linter.unusedSimpArgs false
open Go.RowKit
set_option maxRecDepth 100000

theorem zeroB (w : World) : (zeroValue 4).run Tryd.prog w = .ok (.bool false) w := by kernel_rfl
/-- the names of a function: true for arrays, false for shared objects -/
def symMap (names : List (ByteArray × Bool)) : List (ByteArray × Value) := names.map fun p => (p.1, .bool p.2)
def lookB (names : List (ByteArray × Bool)) (s : ByteArray) : Option Bool := (names.find? (fun p => decide (p.1 = s))).map (·.2)
theorem look_symMap (names : List (ByteArray × Bool)) (s : ByteArray) : look (symMap names) s = (lookB names s).map Value.bool := by
  unfold look symMap lookB
  rw [List.find?_map]
  simp only [Option.map_map]
  rfl

set_option maxHeartbeats 2000000 in
theorem symbol_any (array : Bool) (names : List (ByteArray × Bool)) (mb bm bi oi om : Nat) (sym : ByteArray) (w : World) (hs : sym.size ≤ 9223372036854775807)
    (h1 : w.cell? ⟨bm, om, none⟩ = some (.map (some mb))) (h2 : w.cell? ⟨bi, oi + 5, none⟩ = some (.string sym)) (hm : MapAt Tryd.prog 9 w mb (symMap names)) :
    Calls Tryd.prog 116 #[.bool array, .pointer (some ⟨bm, om, none⟩), .pointer (some ⟨bi, oi, none⟩)] w fun e w' => e = .returned (.bool (lookB names sym == some array)) ∧ w = w' := by
  have hrun := hm.run_ok (s := sym) (t := 163) Tryd.underlying9 Tryd.underlying163 (zeroB w) hs
  rw [look_symMap] at hrun
  cases hl : lookB names sym with
  | none =>
    rw [hl] at hrun
    have hrun' : (Instr.lookup 163 (.map (some mb)) (.string sym) true).run Tryd.prog w = .ok (.tuple #[.bool false, .bool false]) w := hrun
    clear hrun hl hm
    go_enter Tryd.func116, Tryd.ntmps116
    go_wp2
    go_ret
    exact ⟨rfl, rfl⟩
  | some k =>
    rw [hl] at hrun
    have hrun' : (Instr.lookup 163 (.map (some mb)) (.string sym) true).run Tryd.prog w = .ok (.tuple #[.bool k, .bool true]) w := hrun
    clear hrun hl hm
    go_enter Tryd.func116, Tryd.ntmps116
    go_wp2
    go_ret
    exact ⟨by cases k <;> cases array <;> rfl, rfl⟩
end Go.Proofs.YteknhnnlhhgppaaDoor

/-
  Contract: validIns (package ir).
-/
namespace Go.Proofs.YteknhnnlhhgppaaDoor
set_option linter.unusedVariables false
set_option linter.unusedSimpArgs false
open Go.RowKit
set_option maxRecDepth 100000

/-- whether a number is between two others; whether it is a register -/
def betw (n lo hi : Int) : Bool := decide (lo ≤ n) && decide (n ≤ hi)
def inReg (n regs : Int) : Bool := decide (0 ≤ n) && decide (n < regs)
/-- whether an instruction is valid, from the tests of its operands -/
def insOk (regs : Int) (names : List (ByteArray × Bool)) (i : Ins) : Bool :=
  bif i.op == 1 then inReg i.dst regs && betw i.imm (-2147483648) 2147483647 && i.x == 0 && i.y == 0 && i.sym.toList.isEmpty
  else bif i.op == 2 then inReg i.dst regs && inReg i.x regs && i.y == 0 && i.imm == 0 && i.sym.toList.isEmpty
  else bif i.op == 3 then inReg i.dst regs && inReg i.x regs && inReg i.y regs && betw i.imm 6 23 && i.sym.toList.isEmpty
  else bif i.op == 4 || i.op == 6 then inReg i.dst regs && inReg i.x regs && (lookB names i.sym == some (i.op == 4)) && i.y == 0 && i.imm == 0
  else bif i.op == 5 || i.op == 7 then inReg i.x regs && inReg i.y regs && (lookB names i.sym == some (i.op == 5)) && i.dst == 0 && i.imm == 0
  else bif i.op == 8 then inReg i.x regs && betw i.imm 1 131071 && i.dst == 0 && i.y == 0 && i.sym.toList.isEmpty
  else bif i.op == 9 then inReg i.dst regs && betw i.imm 0 7 && i.x == 0 && i.y == 0 && i.sym.toList.isEmpty
  else bif i.op == 10 then inReg i.x regs && betw i.imm 0 7 && i.dst == 0 && i.y == 0 && i.sym.toList.isEmpty
  else bif i.op == 11 || i.op == 12 then (lookB names i.sym == some false) && i.dst == 0 && i.x == 0 && i.y == 0 && i.imm == 0
  else bif i.op == 13 || i.op == 14 then betw i.imm 0 3 && i.dst == 0 && i.x == 0 && i.y == 0 && i.sym.toList.isEmpty
  else bif i.op == 15 then inReg i.dst regs && betw i.imm 0 3 && i.x == 0 && i.y == 0 && i.sym.toList.isEmpty
  else bif i.op == 16 then betw i.x 0 3 && betw i.imm 1 131071 && i.dst == 0 && i.y == 0 && i.sym.toList.isEmpty
  else false

set_option maxHeartbeats 16000000 in
theorem validIns_any (name : ByteArray) (regs : Int) (aa ba : Option Addr) (an ac bn bc : Nat) (names : List (ByteArray × Bool)) (mb : Nat) (i : Ins) (w : World) (hs : i.sym.size ≤ 9223372036854775807) (hm : MapAt Tryd.prog 9 w mb (symMap names)) :
    Calls Tryd.prog 104 #[fnVal name regs aa an ac ba bn bc, .map (some mb), i.val] w fun e w' => e = .returned (.bool (insOk regs names i)) ∧ Below w.heap.size w w' := by
  unfold Ins.val
  obtain ⟨W, hW⟩ : ∃ W : World, ((w.alloc (.cells #[.string name, .int .i64 regs, .slice aa an ac, .slice ba bn bc] 25)).alloc (.cells #[.map (some mb)] 163)).alloc (.cells #[.int .u8 i.op, .int .i64 i.dst, .int .i64 i.x, .int .i64 i.y, .int .i64 i.imm, .string i.sym] 54) = W := ⟨_, rfl⟩
  have hB : Below w.heap.size w W := by rw [← hW]; exact (((Below.refl _ _).alloc (Nat.le_refl _) _).alloc (by simp) _).alloc (by simp; omega) _
  have HM := Lib.hid (hm.below hB)
  have HB := Lib.hid hB
  have f1 : W.cell? ⟨w.heap.size, 1, none⟩ = some (.int .i64 regs) := by rw [← hW, World.cell?_alloc_past _ _ _ (by simp; omega), World.cell?_alloc_past _ _ _ (by simp)]; simp
  have m0 : W.cell? ⟨w.heap.size + 1, 0, none⟩ = some (.map (some mb)) := by rw [← hW]; simp [World.cell?_alloc_at, World.cell?_alloc_past]
  have c0 : W.cell? ⟨w.heap.size + 1 + 1, 0, none⟩ = some (.int .u8 i.op) := by rw [← hW]; simp [World.cell?_alloc_at, World.cell?_alloc_past]
  have c1 : W.cell? ⟨w.heap.size + 1 + 1, 1, none⟩ = some (.int .i64 i.dst) := by rw [← hW]; simp [World.cell?_alloc_at, World.cell?_alloc_past]
  have c2 : W.cell? ⟨w.heap.size + 1 + 1, 2, none⟩ = some (.int .i64 i.x) := by rw [← hW]; simp [World.cell?_alloc_at, World.cell?_alloc_past]
  have c3 : W.cell? ⟨w.heap.size + 1 + 1, 3, none⟩ = some (.int .i64 i.y) := by rw [← hW]; simp [World.cell?_alloc_at, World.cell?_alloc_past]
  have c4 : W.cell? ⟨w.heap.size + 1 + 1, 4, none⟩ = some (.int .i64 i.imm) := by rw [← hW]; simp [World.cell?_alloc_at, World.cell?_alloc_past]
  have c5 : W.cell? ⟨w.heap.size + 1 + 1, 5, none⟩ = some (.string i.sym) := by rw [← hW]; simp [World.cell?_alloc_at, World.cell?_alloc_past]
  clear hm hB
  go_enter Tryd.func104, Tryd.ntmps104
  go_wp2_with fail
  clear hW
  go_quiet (fail)
  generalize hV : World.drewN _ _ = V
  have HBV : Hid (Below w.heap.size w V) := by rw [← hV]; exact ⟨HB.out.os, HB.out.tape, HB.out.output, HB.out.size, HB.out.block⟩
  have HMV : Hid (MapAt Tryd.prog 9 V mb (symMap names)) := by rw [← hV]; exact HM.out.move rfl
  have g1 : V.cell? ⟨w.heap.size, 1, none⟩ = some (.int .i64 regs) := by rw [← hV]; exact f1
  have n0 : V.cell? ⟨w.heap.size + 1, 0, none⟩ = some (.map (some mb)) := by rw [← hV]; exact m0
  have d0 : V.cell? ⟨w.heap.size + 1 + 1, 0, none⟩ = some (.int .u8 i.op) := by rw [← hV]; exact c0
  have d1 : V.cell? ⟨w.heap.size + 1 + 1, 1, none⟩ = some (.int .i64 i.dst) := by rw [← hV]; exact c1
  have d2 : V.cell? ⟨w.heap.size + 1 + 1, 2, none⟩ = some (.int .i64 i.x) := by rw [← hV]; exact c2
  have d3 : V.cell? ⟨w.heap.size + 1 + 1, 3, none⟩ = some (.int .i64 i.y) := by rw [← hV]; exact c3
  have d4 : V.cell? ⟨w.heap.size + 1 + 1, 4, none⟩ = some (.int .i64 i.imm) := by rw [← hV]; exact c4
  have d5 : V.cell? ⟨w.heap.size + 1 + 1, 5, none⟩ = some (.string i.sym) := by rw [← hV]; exact c5
  clear hV f1 m0 c0 c1 c2 c3 c4 c5 HB HM W
  obtain ⟨rd, hrd⟩ : ∃ b, inReg i.dst regs = b := ⟨_, rfl⟩
  obtain ⟨rx, hrx⟩ : ∃ b, inReg i.x regs = b := ⟨_, rfl⟩
  obtain ⟨ry, hry⟩ : ∃ b, inReg i.y regs = b := ⟨_, rfl⟩
  have RD : Hid (∀ n, Calls Tryd.prog 115 #[.int .i64 i.dst, .pointer (some ⟨w.heap.size, 0, none⟩)] (World.drewN V n) (fun e w'' => e = .returned (.bool rd) ∧ ∃ m, w'' = V.drewN m)) := fun n => (isReg_any i.dst regs _ 0 (V.drewN n) g1).mono fun e w'' ⟨h1, h2⟩ => ⟨by rw [h1, ← hrd]; rfl, n, h2.symm⟩
  have RX : Hid (∀ n, Calls Tryd.prog 115 #[.int .i64 i.x, .pointer (some ⟨w.heap.size, 0, none⟩)] (World.drewN V n) (fun e w'' => e = .returned (.bool rx) ∧ ∃ m, w'' = V.drewN m)) := fun n => (isReg_any i.x regs _ 0 (V.drewN n) g1).mono fun e w'' ⟨h1, h2⟩ => ⟨by rw [h1, ← hrx]; rfl, n, h2.symm⟩
  have RY : Hid (∀ n, Calls Tryd.prog 115 #[.int .i64 i.y, .pointer (some ⟨w.heap.size, 0, none⟩)] (World.drewN V n) (fun e w'' => e = .returned (.bool ry) ∧ ∃ m, w'' = V.drewN m)) := fun n => (isReg_any i.y regs _ 0 (V.drewN n) g1).mono fun e w'' ⟨h1, h2⟩ => ⟨by rw [h1, ← hry]; rfl, n, h2.symm⟩
  have HRD := Lib.hid hrd
  have HRX := Lib.hid hrx
  have HRY := Lib.hid hry
  clear hrd hrx hry
  go_wp2_with fail
  go_quiet (first | (go_at_call 115; with_reducible exact RD.out _) | (go_at_call 115; with_reducible exact RX.out _) | (go_at_call 115; with_reducible exact RY.out _))
  generalize hU : World.drewN _ _ = U
  have HBU : Hid (Below w.heap.size w U) := by rw [← hU]; exact ⟨HBV.out.os, HBV.out.tape, HBV.out.output, HBV.out.size, HBV.out.block⟩
  have HMU : Hid (MapAt Tryd.prog 9 U mb (symMap names)) := by rw [← hU]; exact HMV.out.move rfl
  have k0 : U.cell? ⟨w.heap.size + 1, 0, none⟩ = some (.map (some mb)) := by rw [← hU]; exact n0
  have e0 : U.cell? ⟨w.heap.size + 1 + 1, 0, none⟩ = some (.int .u8 i.op) := by rw [← hU]; exact d0
  have e2 : U.cell? ⟨w.heap.size + 1 + 1, 2, none⟩ = some (.int .i64 i.x) := by rw [← hU]; exact d2
  have e4 : U.cell? ⟨w.heap.size + 1 + 1, 4, none⟩ = some (.int .i64 i.imm) := by rw [← hU]; exact d4
  have e5 : U.cell? ⟨w.heap.size + 1 + 1, 5, none⟩ = some (.string i.sym) := by rw [← hU]; exact d5
  clear hU g1 n0 d0 d1 d2 d3 d4 d5 HBV HMV RD RX RY V
  go_wp2_with (first
    | (go_at_call 114; refine (between_any _ _ _ _).mono ?_; rintro e w' ⟨rfl, rfl⟩)
    | (go_at_call 116; refine (symbol_any _ names mb _ _ 0 0 i.sym _ hs k0 e5 HMU.out).mono ?_; rintro e w' ⟨rfl, rfl⟩))
  all_goals
    go_ret
    refine ⟨ret_bool ?_, HBU.out⟩
    have q1 := HRD.out
    have q2 := HRX.out
    have q3 := HRY.out
    simp [insOk, betw, *]
end Go.Proofs.YteknhnnlhhgppaaDoor
