/-
  Contract: instruction (package ir: runner), for every valid instruction.
-/
import Derived.Test.YteknhnnlhhgppaaDoorMg33
import Derived.Test.YteknhnnlhhgppaaDoorIrStep2
import Derived.Test.YteknhnnlhhgppaaDoorMg39
import Derived.Test.YteknhnnlhhgppaaDoorMg40
import Derived.Test.YteknhnnlhhgppaaDoorIrStep7
import Derived.Test.YteknhnnlhhgppaaDoorIrStep10
import Derived.Test.YteknhnnlhhgppaaDoorMg37
import Derived.Test.YteknhnnlhhgppaaDoorMg1
namespace Go.Proofs.YteknhnnlhhgppaaDoor
set_option linter.unusedVariables false
set_option linter.unusedSimpArgs false
open Go.RowKit
set_option maxRecDepth 100000

theorem inReg_nat {n regs : Int} (h : inReg n regs = true) : ∃ k : Nat, n = (k : Int) ∧ (k : Int) < regs := by
  simp [inReg] at h
  exact ⟨n.toNat, by omega, by omega⟩
theorem betw_iff {n lo hi : Int} (h : betw n lo hi = true) : lo ≤ n ∧ n ≤ hi := by simpa [betw] using h
theorem pos_lookB {ns : List (ByteArray × Bool)} {sym : ByteArray} : ∀ {b : Bool}, lookB ns sym = some b → pos (ns.map (·.1)) sym < (ns.map (·.1)).length := by
  intro b h
  unfold lookB at h
  unfold pos
  rw [List.findIdx_lt_length]
  cases hf : ns.find? (fun p => decide (p.1 = sym)) with
  | none => rw [hf] at h; cases h
  | some p =>
    refine ⟨p.1, List.mem_map.2 ⟨p, List.mem_of_find?_eq_some hf, rfl⟩, ?_⟩
    have := List.find?_some hf
    exact this
theorem instr_any (N : Nat) (g : Geo) (ns : List (ByteArray × Bool)) (inp : List Int) (regs : Int) (i : Ins) (w : World) (ov : Value) (s : St) (h : RunAt N g (ns.map (·.1)) w ov s) (hi : i.Wf) (hok : insOk regs ns i = true) (hr : (s.regs.length : Int) = regs)
    (ia : Option Addr) (ic : Nat) (hinv : g.inv = .slice ia inp.length ic) (hin : WordsAt w ia inp) (hNw : ∀ b, 0 < inp.length → ia.map Addr.block = some b → b < N) (hrd : s.read < 8000000000) (hol : s.out.length < 8000000000) :
    Calls Tryd.prog 108 #[.pointer (some ⟨g.rb, 0, none⟩), i.val] w (StepOk N g (ns.map (·.1)) ov s w (step (ns.map (·.1)) inp i s)) := by
  obtain ⟨op, d, x, y, imm, sym⟩ := i
  have hsz : sym.size ≤ 9223372036854775807 := hi.sym
  have reg : ∀ {n : Int}, inReg n regs = true → ∃ k : Nat, n = (k : Int) ∧ k < s.regs.length := fun h => by
    obtain ⟨k, h1, h2⟩ := inReg_nat h
    exact ⟨k, h1, by omega⟩
  have cnt : ∀ {n : Int}, betw n 0 3 = true → n = 0 ∨ n = 1 ∨ n = 2 ∨ n = 3 := fun h => by
    have := betw_iff h; omega
  unfold insOk at hok
  simp only at hok
  by_cases h1 : op = 1
  · subst h1
    simp only [beq_self_eq_true, cond_true, Bool.and_eq_true] at hok
    obtain ⟨⟨⟨⟨a1, a2⟩, a3⟩, a4⟩, a5⟩ := hok
    obtain ⟨d, rfl, hd⟩ := reg a1
    obtain ⟨b1, b2⟩ := betw_iff a2
    obtain rfl : x = 0 := by simpa using a3
    obtain rfl : y = 0 := by simpa using a4
    exact instr_1 N g _ inp d _ _ imm sym w ov s h hd b1 b2
  have h1' : (op == 1) = false := by simpa using h1
  rw [h1', cond_false] at hok
  by_cases h2 : op = 2
  · subst h2
    simp only [beq_self_eq_true, cond_true, Bool.and_eq_true] at hok
    obtain ⟨⟨⟨⟨a1, a2⟩, a3⟩, a4⟩, a5⟩ := hok
    obtain ⟨d, rfl, hd⟩ := reg a1
    obtain ⟨x, rfl, hx⟩ := reg a2
    exact instr_2 N g _ inp d x _ imm sym w ov s h hd hx
  have h2' : (op == 2) = false := by simpa using h2
  rw [h2', cond_false] at hok
  by_cases h3 : op = 3
  · subst h3
    simp only [beq_self_eq_true, cond_true, Bool.and_eq_true] at hok
    obtain ⟨⟨⟨⟨a1, a2⟩, a3⟩, a4⟩, a5⟩ := hok
    obtain ⟨d, rfl, hd⟩ := reg a1
    obtain ⟨x, rfl, hx⟩ := reg a2
    obtain ⟨y, rfl, hy⟩ := reg a3
    obtain ⟨b1, b2⟩ := betw_iff a4
    exact instr_3 N g _ inp d x y imm sym w ov s h hd hx hy b1 b2
  have h3' : (op == 3) = false := by simpa using h3
  rw [h3', cond_false] at hok
  by_cases h4 : op = 4 ∨ op = 6
  · have h4' : (op == 4 || op == 6) = true := by simpa using h4
    rw [h4', cond_true] at hok
    simp only [Bool.and_eq_true] at hok
    obtain ⟨⟨⟨⟨a1, a2⟩, a3⟩, a4⟩, a5⟩ := hok
    obtain ⟨d, rfl, hd⟩ := reg a1
    obtain ⟨x, rfl, hx⟩ := reg a2
    have hp := pos_lookB (by simpa using a3)
    rcases h4 with rfl | rfl
    · exact instr_4 N g _ inp d x _ imm sym w ov s h hd hx hsz hp
    · exact instr_6 N g _ inp d x _ imm sym w ov s h hd hx hsz hp
  have h4' : (op == 4 || op == 6) = false := by simpa using h4
  rw [h4', cond_false] at hok
  by_cases h5 : op = 5 ∨ op = 7
  · have h5' : (op == 5 || op == 7) = true := by simpa using h5
    rw [h5', cond_true] at hok
    simp only [Bool.and_eq_true] at hok
    obtain ⟨⟨⟨⟨a1, a2⟩, a3⟩, a4⟩, a5⟩ := hok
    obtain ⟨x, rfl, hx⟩ := reg a1
    obtain ⟨y, rfl, hy⟩ := reg a2
    have hp := pos_lookB (by simpa using a3)
    rcases h5 with rfl | rfl
    · exact instr_5 N g _ inp _ x y imm sym w ov s h hx hy hsz hp
    · exact instr_7 N g _ inp _ x y imm sym w ov s h hx hy hsz hp
  have h5' : (op == 5 || op == 7) = false := by simpa using h5
  rw [h5', cond_false] at hok
  by_cases h8 : op = 8
  · subst h8
    simp only [beq_self_eq_true, cond_true, Bool.and_eq_true] at hok
    obtain ⟨⟨⟨⟨a1, a2⟩, a3⟩, a4⟩, a5⟩ := hok
    obtain ⟨x, rfl, hx⟩ := reg a1
    exact instr_8 N g _ inp _ x _ imm sym w ov s h hx
  have h8' : (op == 8) = false := by simpa using h8
  rw [h8', cond_false] at hok
  by_cases h9 : op = 9
  · subst h9
    simp only [beq_self_eq_true, cond_true, Bool.and_eq_true] at hok
    obtain ⟨⟨⟨⟨a1, a2⟩, a3⟩, a4⟩, a5⟩ := hok
    obtain ⟨d, rfl, hd⟩ := reg a1
    exact instr_9 N g _ inp d _ _ imm sym w ov s h hd ia ic hinv hin hNw hrd
  have h9' : (op == 9) = false := by simpa using h9
  rw [h9', cond_false] at hok
  by_cases h10 : op = 10
  · subst h10
    simp only [beq_self_eq_true, cond_true, Bool.and_eq_true] at hok
    obtain ⟨⟨⟨⟨a1, a2⟩, a3⟩, a4⟩, a5⟩ := hok
    obtain ⟨x, rfl, hx⟩ := reg a1
    exact instr_10 N g _ inp _ x _ imm sym w ov s h hx hol
  have h10' : (op == 10) = false := by simpa using h10
  rw [h10', cond_false] at hok
  by_cases h11 : op = 11 ∨ op = 12
  · rcases h11 with rfl | rfl
    · cases hl : s.locked with
      | true => exact instr_11t N g _ inp _ _ _ imm sym w ov s h hsz hl
      | false => exact instr_11f N g _ inp _ _ _ imm sym w ov s h hsz hl
    · exact instr_12 N g _ inp _ _ _ imm sym w ov s h
  have h11' : (op == 11 || op == 12) = false := by simpa using h11
  rw [h11', cond_false] at hok
  by_cases h13 : op = 13 ∨ op = 14
  · have h13' : (op == 13 || op == 14) = true := by simpa using h13
    rw [h13', cond_true] at hok
    simp only [Bool.and_eq_true] at hok
    obtain ⟨⟨⟨⟨a1, a2⟩, a3⟩, a4⟩, a5⟩ := hok
    rcases h13 with rfl | rfl <;> rcases cnt a1 with rfl | rfl | rfl | rfl
    · exact instr_13_0 N g _ inp _ _ _ sym w ov s h
    · exact instr_13_1 N g _ inp _ _ _ sym w ov s h
    · exact instr_13_2 N g _ inp _ _ _ sym w ov s h
    · exact instr_13_3 N g _ inp _ _ _ sym w ov s h
    · exact instr_14_0 N g _ inp _ _ _ sym w ov s h
    · exact instr_14_1 N g _ inp _ _ _ sym w ov s h
    · exact instr_14_2 N g _ inp _ _ _ sym w ov s h
    · exact instr_14_3 N g _ inp _ _ _ sym w ov s h
  have h13' : (op == 13 || op == 14) = false := by simpa using h13
  rw [h13', cond_false] at hok
  by_cases h15 : op = 15
  · subst h15
    simp only [beq_self_eq_true, cond_true, Bool.and_eq_true] at hok
    obtain ⟨⟨⟨⟨a1, a2⟩, a3⟩, a4⟩, a5⟩ := hok
    obtain ⟨d, rfl, hd⟩ := reg a1
    rcases cnt a2 with rfl | rfl | rfl | rfl
    · exact instr_15_0 N g _ inp d _ _ sym w ov s h hd
    · exact instr_15_1 N g _ inp d _ _ sym w ov s h hd
    · exact instr_15_2 N g _ inp d _ _ sym w ov s h hd
    · exact instr_15_3 N g _ inp d _ _ sym w ov s h hd
  have h15' : (op == 15) = false := by simpa using h15
  rw [h15', cond_false] at hok
  by_cases h16 : op = 16
  · subst h16
    simp only [beq_self_eq_true, cond_true, Bool.and_eq_true] at hok
    obtain ⟨⟨⟨⟨a1, a2⟩, a3⟩, a4⟩, a5⟩ := hok
    rcases cnt a1 with rfl | rfl | rfl | rfl
    · exact instr_16_0 N g _ inp _ _ imm sym w ov s h
    · exact instr_16_1 N g _ inp _ _ imm sym w ov s h
    · exact instr_16_2 N g _ inp _ _ imm sym w ov s h
    · exact instr_16_3 N g _ inp _ _ imm sym w ov s h
  have h16' : (op == 16) = false := by simpa using h16
  rw [h16', cond_false] at hok
  cases hok
end Go.Proofs.YteknhnnlhhgppaaDoor
