/-
  Mg0: several texts in one (Ir, IrUses, Ref17, IrEnd, IrArr, WordPlain).
-/
import Derived.WalkKit
import Derived.Below
import Derived.Test.YteknhnnlhhgppaaDoorProg
import Derived.Outline
import Derived.Lib.Hide
import Derived.LoopTactic
/-
  The intermediate code as data (layer 17): instructions, blocks, functions; slices of ints in memory. No program is named here.
-/
namespace Go.Proofs.YteknhnnlhhgppaaDoor
set_option linter.unusedVariables false
set_option linter.unusedSimpArgs false
open Go.RowKit

/-- an instruction -/
structure Ins where
  op : Int
  dst : Int
  x : Int
  y : Int
  imm : Int
  sym : ByteArray
def Ins.val (i : Ins) : Value := .agg #[.int .u8 i.op, .int .i64 i.dst, .int .i64 i.x, .int .i64 i.y, .int .i64 i.imm, .string i.sym]
/-- a block -/
structure Blk where
  code : List Ins
  kind : Int
  x : Int
  to : Int
  els : Int
def Blk.val (b : Blk) (a : Option Addr) (c : Nat) : Value := .agg #[.slice a b.code.length c, .int .u8 b.kind, .int .i64 b.x, .int .i64 b.to, .int .i64 b.els]

/-- the registers that an instruction reads, and the one that it writes -/
def Ins.uses (i : Ins) : List Int :=
  if i.op = 2 ∨ i.op = 4 ∨ i.op = 6 ∨ i.op = 8 ∨ i.op = 10 then [i.x] else if i.op = 3 ∨ i.op = 5 ∨ i.op = 7 then [i.x, i.y] else []
def Ins.defines (i : Ins) : Option Int :=
  if i.op = 1 ∨ i.op = 2 ∨ i.op = 3 ∨ i.op = 4 ∨ i.op = 6 ∨ i.op = 9 ∨ i.op = 15 then some i.dst else none
/-- the successors of a block -/
def Blk.succ (b : Blk) : List Int :=
  if b.kind = 1 ∨ (b.kind = 2 ∧ b.to = b.els) then [b.to] else if b.kind = 2 then [b.to, b.els] else []
example : (⟨3, 0, 4, 5, 6, ⟨#[]⟩⟩ : Ins).uses = [4, 5] ∧ (⟨[], 2, 0, 1, 1⟩ : Blk).succ = [1] := ⟨rfl, rfl⟩

/-- a slice of ints, nil or in a block of a kind -/
def IntsIn (S : Nat → Prop) (w : World) (v : Value) (p : List Int) : Prop :=
  (p = [] ∧ v = .slice none 0 0) ∨
  ∃ b off cap, v = .slice (some ⟨b, off, none⟩) p.length cap ∧ S b ∧ p.length ≤ cap ∧ b < w.heap.size ∧ ∀ i, i < p.length → w.cell? ⟨b, off + i, none⟩ = some (.int .i64 (p.getD i 0))
theorem IntsIn.move {S S' : Nat → Prop} {w w' : World} {v : Value} {p : List Int} (hsz : w.heap.size ≤ w'.heap.size) (h1 : ∀ k, S k → k < w.heap.size → w'.heap[k]? = w.heap[k]?) (h2 : ∀ k, S k → k < w.heap.size → S' k) (h : IntsIn S w v p) : IntsIn S' w' v p := by
  rcases h with h | ⟨b, off, cap, hv, hS, hc, hb, hk⟩
  · exact .inl h
  · exact .inr ⟨b, off, cap, hv, h2 b hS hb, hc, Nat.lt_of_lt_of_le hb hsz, fun i hi => (World.cell?_of_block (a := ⟨b, _, none⟩) (h1 b hS hb)).trans (hk i hi)⟩
theorem IntsIn.below {S : Nat → Prop} {w w' : World} {v : Value} {p : List Int} (h : IntsIn S w v p) (hb : Below w.heap.size w w') : IntsIn S w' v p :=
  h.move hb.size (fun k _ hk => hb.block k hk) (fun _ h _ => h)
/-- ints in new memory -/
def IntsNew (p : List Int) (w : World) (e : Ending) (w' : World) : Prop := ∃ v, e = .returned v ∧ IntsIn (fun k => w.heap.size ≤ k) w' v p ∧ Below w.heap.size w w'
theorem ints_one {w : World} {o : Obj} {x : Int} {t : TypeId} : IntsNew [x] w (.returned (.slice (some ⟨w.heap.size + 1, 0, none⟩) 1 1)) ((w.alloc o).alloc (.cells #[.int .i64 x] t)) := by
  have hz : (w.alloc o).heap.size = w.heap.size + 1 := by simp
  refine ⟨_, rfl, .inr ⟨_, 0, 1, rfl, by omega, Nat.le_refl _, by simp, fun i hi => ?_⟩, ((Below.refl _ _).alloc (Nat.le_refl _) _).alloc (by simp) _⟩
  obtain rfl : i = 0 := by simpa using hi
  rw [← hz]
  exact World.cell?_alloc_new _ _ _ 0
theorem ints_two {w : World} {o : Obj} {x y : Int} {t : TypeId} : IntsNew [x, y] w (.returned (.slice (some ⟨w.heap.size + 1, 0, none⟩) 2 2)) ((w.alloc o).alloc (.cells #[.int .i64 x, .int .i64 y] t)) := by
  have hz : (w.alloc o).heap.size = w.heap.size + 1 := by simp
  refine ⟨_, rfl, .inr ⟨_, 0, 2, rfl, by omega, Nat.le_refl _, by simp, fun i hi => ?_⟩, ((Below.refl _ _).alloc (Nat.le_refl _) _).alloc (by simp) _⟩
  rw [← hz]
  match i, hi with
  | 0, _ => exact World.cell?_alloc_new _ _ _ 0
  | 1, _ => exact World.cell?_alloc_new _ _ _ 1
  | i + 2, hi => simp at hi; omega
theorem ints_none {w : World} {o : Obj} : IntsNew [] w (.returned (.slice none 0 0)) (w.alloc o) :=
  ⟨_, rfl, .inl ⟨rfl, rfl⟩, (Below.refl _ _).alloc (Nat.le_refl _) _⟩
end Go.Proofs.YteknhnnlhhgppaaDoor

/-
  Contracts: Uses, Defines, Succ (package ir).
-/
namespace Go.Proofs.YteknhnnlhhgppaaDoor
set_option linter.unusedVariables false
set_option linter.unusedSimpArgs false
open Go.RowKit
set_option maxRecDepth 100000

set_option maxHeartbeats 2000000 in
theorem uses_any (i : Ins) (w : World) : Calls Tryd.prog 24 #[i.val] w (IntsNew i.uses w) := by
  unfold Ins.val
  go_enter Tryd.func24, Tryd.ntmps24
  go_wp2
  all_goals
    go_ret
    first
      | (have hu : i.uses = [i.x] := by simp_all [Ins.uses]
         rw [hu]
         exact ints_one)
      | (have hu : i.uses = [i.x, i.y] := by simp_all [Ins.uses]
         rw [hu]
         exact ints_two)
      | (have hu : i.uses = [] := by simp_all [Ins.uses]
         rw [hu]
         exact ints_none)

/-- the register that is written, or none -/
def DefOk (i : Ins) (w : World) (e : Ending) (w' : World) : Prop :=
  e = .returned (.tuple #[.int .i64 (i.defines.getD 0), .bool i.defines.isSome]) ∧ Below w.heap.size w w'
set_option maxHeartbeats 2000000 in
theorem defines_any (i : Ins) (w : World) : Calls Tryd.prog 23 #[i.val] w (DefOk i w) := by
  unfold Ins.val
  go_enter Tryd.func23, Tryd.ntmps23
  go_wp2
  all_goals
    go_ret2
    first
      | (have hu : i.defines = some i.dst := by simp_all [Ins.defines]
         unfold DefOk
         rw [hu]
         exact ⟨rfl, (Below.refl _ _).alloc (Nat.le_refl _) _⟩)
      | (have hu : i.defines = none := by simp_all [Ins.defines]
         unfold DefOk
         rw [hu]
         exact ⟨rfl, (Below.refl _ _).alloc (Nat.le_refl _) _⟩)

set_option maxHeartbeats 2000000 in
theorem succ_any (b : Blk) (a : Option Addr) (c : Nat) (w : World) : Calls Tryd.prog 21 #[b.val a c] w (IntsNew b.succ w) := by
  unfold Blk.val
  go_enter Tryd.func21, Tryd.ntmps21
  go_wp2
  all_goals
    go_ret
    first
      | (have hu : b.succ = [b.to] := by simp_all [Blk.succ]
         rw [hu]
         exact ints_one)
      | (have hu : b.succ = [b.to, b.els] := by simp_all [Blk.succ]
         rw [hu]
         exact ints_two)
      | (have hu : b.succ = [] := by simp_all [Blk.succ]
         rw [hu]
         exact ints_none)
end Go.Proofs.YteknhnnlhhgppaaDoor

/-
  Contracts: Shape, has, Defines (package ontimeref17).
-/
namespace Go.Proofs.YteknhnnlhhgppaaDoor
set_option linter.unusedVariables false
set_option linter.unusedSimpArgs false
open Go.RowKit
set_option maxRecDepth 100000

/-- the reference's table of operands -/
def shapes : List ByteArray := [⟨#[]⟩, ⟨#[100, 105]⟩, ⟨#[100, 120]⟩, ⟨#[100, 120, 121, 105]⟩, ⟨#[100, 120, 115]⟩, ⟨#[120, 121, 115]⟩, ⟨#[100, 120, 115]⟩, ⟨#[120, 121, 115]⟩, ⟨#[120, 105]⟩, ⟨#[100, 105]⟩, ⟨#[120, 105]⟩, ⟨#[115]⟩, ⟨#[115]⟩, ⟨#[105]⟩, ⟨#[105]⟩, ⟨#[100, 105]⟩, ⟨#[120, 105]⟩]
def shapeOf (op : Int) : ByteArray := shapes.getD op.toNat ⟨#[]⟩
abbrev shapeCells : Array Value := #[.string ⟨#[]⟩, .string ⟨#[100, 105]⟩, .string ⟨#[100, 120]⟩, .string ⟨#[100, 120, 121, 105]⟩, .string ⟨#[100, 120, 115]⟩, .string ⟨#[120, 121, 115]⟩, .string ⟨#[100, 120, 115]⟩, .string ⟨#[120, 121, 115]⟩, .string ⟨#[120, 105]⟩, .string ⟨#[100, 105]⟩, .string ⟨#[120, 105]⟩, .string ⟨#[115]⟩, .string ⟨#[115]⟩, .string ⟨#[105]⟩, .string ⟨#[105]⟩, .string ⟨#[100, 105]⟩, .string ⟨#[120, 105]⟩]
theorem shape_cell (k : Nat) (h : k < 17) : shapeCells[k]? = some (.string (shapeOf (k : Int))) := by
  match k, h with
  | 0, _ => rfl
  | 1, _ => rfl
  | 2, _ => rfl
  | 3, _ => rfl
  | 4, _ => rfl
  | 5, _ => rfl
  | 6, _ => rfl
  | 7, _ => rfl
  | 8, _ => rfl
  | 9, _ => rfl
  | 10, _ => rfl
  | 11, _ => rfl
  | 12, _ => rfl
  | 13, _ => rfl
  | 14, _ => rfl
  | 15, _ => rfl
  | 16, _ => rfl
  | k + 17, h => exact absurd h (by omega)
theorem shape_none {op : Int} (h : 17 ≤ op) : shapeOf op = ⟨#[]⟩ := by
  unfold shapeOf
  rw [List.getD_eq_getElem?_getD, List.getElem?_eq_none (by show 17 ≤ op.toNat; omega)]
  rfl

set_option maxHeartbeats 2000000 in
theorem shape_any (op : Int) (w : World) (h0 : 0 ≤ op) (h1 : op ≤ 255) :
    Calls Tryd.prog 86 #[.int .u8 op] w fun e w' => e = .returned (.string (shapeOf op)) ∧ Below w.heap.size w w' := by
  obtain ⟨k, rfl⟩ := Int.eq_ofNat_of_zero_le h0
  by_cases hk : k < 17
  · have hc : (w.alloc (.cells shapeCells 9)).cell? ⟨w.heap.size, k, none⟩ = some (.string (shapeOf (k : Int))) := (World.cell?_alloc_new w shapeCells _ k).trans (shape_cell k hk)
    have hk0 : (0 : Int) ≤ (k : Int) := by omega
    have hk1 : (k : Int) < 17 := by omega
    generalize hs : shapeOf (k : Int) = s at hc ⊢
    clear hs
    go_enter Tryd.func86, Tryd.ntmps86
    go_wp2
    go_ret
    exact ⟨rfl, (Below.refl _ _).alloc (Nat.le_refl _) _⟩
  · have hk1 : (17 : Int) ≤ (k : Int) := by omega
    rw [shape_none hk1]
    go_enter Tryd.func86, Tryd.ntmps86
    go_wp2
    go_ret
    exact ⟨rfl, (Below.refl _ _).alloc (Nat.le_refl _) _⟩

/-- whether a byte stands in a string -/
def hasB (s : ByteArray) (c : Int) (n : Nat) : Bool := (s.data.toList.take n).any fun b => (b.toNat : Int) == c
theorem hasB_succ (s : ByteArray) (c : Int) (k : Nat) (h : k < s.size) : hasB s c (k + 1) = (hasB s c k || ((s[k].toNat : Int) == c)) := by
  unfold hasB
  rw [List.take_succ_eq_append_getElem (by simpa using h), List.any_append]
  simp
  rfl
theorem hasB_mono {s : ByteArray} {c : Int} {k n : Nat} (h : hasB s c k = true) (hk : k ≤ n) : hasB s c n = true := by
  unfold hasB at *
  rw [List.any_eq_true] at *
  obtain ⟨x, hx, hq⟩ := h
  exact ⟨x, (List.take_prefix_take_left hk).subset hx, hq⟩
set_option maxHeartbeats 2000000 in
theorem has_any (s : ByteArray) (c : Int) (w : World) (hs : s.size ≤ 1000) :
    Calls Tryd.prog 85 #[.string s, .int .u8 c] w fun e w' => e = .returned (.bool (hasB s c s.size)) ∧ w = w' := by
  go_enter Tryd.func85, Tryd.ntmps85
  go_wp2
  go_loop [5] (fun i => ∃ k : Nat, k ≤ s.size ∧ i = .int .i64 k ∧ hasB s c k = false) (fun i => s.size - (intOf i).toNat)
  case atStart => exact ⟨0, Nat.zero_le _, rfl, rfl⟩
  case round =>
    obtain ⟨k, hk, rfl, hno⟩ := hrel
    have HNO := Lib.hid hno
    clear hno
    by_cases hlt : k < s.size
    · have HS := Lib.hid (hasB_succ s c k hlt)
      go_wp2
      · have h : (((s[k].toNat : Nat) : Int) == c) = true := by assumption
        have ht : hasB s c s.size = true := hasB_mono (k := k + 1) (by rw [HS.out, h]; simp) (by omega)
        go_ret
        exact ⟨by rw [ht]; rfl, rfl⟩
      · have h : (((s[k].toNat : Nat) : Int) == c) = false := by assumption
        exact ⟨⟨k + 1, by omega, by go_num, by rw [HS.out, HNO.out, h]; rfl⟩, by simp [intOf]; omega⟩
    · obtain rfl : k = s.size := by omega
      go_wp2
      go_ret
      exact ⟨by rw [HNO.out]; rfl, rfl⟩
/-- what the table says of the written register -/
theorem shape_d {op : Int} (h0 : 0 ≤ op) : hasB (shapeOf op) 100 (shapeOf op).size = decide (op = 1 ∨ op = 2 ∨ op = 3 ∨ op = 4 ∨ op = 6 ∨ op = 9 ∨ op = 15) := by
  by_cases h : 17 ≤ op
  · rw [shape_none h]
    have : ¬ (op = 1 ∨ op = 2 ∨ op = 3 ∨ op = 4 ∨ op = 6 ∨ op = 9 ∨ op = 15) := by omega
    rw [decide_eq_false this]; rfl
  · obtain ⟨k, rfl⟩ := Int.eq_ofNat_of_zero_le h0
    have hk : k < 17 := by omega
    have all : ∀ k : Fin 17, hasB (shapeOf (k.1 : Int)) 100 (shapeOf (k.1 : Int)).size = decide ((k.1 : Int) = 1 ∨ (k.1 : Int) = 2 ∨ (k.1 : Int) = 3 ∨ (k.1 : Int) = 4 ∨ (k.1 : Int) = 6 ∨ (k.1 : Int) = 9 ∨ (k.1 : Int) = 15) := by decide
    exact all ⟨k, hk⟩
theorem shape_size (op : Int) : (shapeOf op).size ≤ 4 := by
  unfold shapeOf
  rw [List.getD_eq_getElem?_getD]
  have h : ∀ s ∈ shapes, s.size ≤ 4 := by decide
  cases hq : shapes[op.toNat]? with
  | none => decide
  | some s => exact h s (List.mem_of_getElem? hq)
set_option maxHeartbeats 2000000 in
theorem refDefines_any (i : Ins) (w : World) (h0 : 0 ≤ i.op) (h1 : i.op ≤ 255) : Calls Tryd.prog 73 #[i.val] w (DefOk i w) := by
  have hsz := shape_size i.op
  have HD := Lib.hid (shape_d h0)
  generalize hb : decide (i.op = 1 ∨ i.op = 2 ∨ i.op = 3 ∨ i.op = 4 ∨ i.op = 6 ∨ i.op = 9 ∨ i.op = 15) = b at HD
  have HB := Lib.hid hb
  clear hb
  unfold Ins.val
  go_enter Tryd.func73, Tryd.ntmps73
  go_wp2_with fail
  refine (shape_any i.op _ h0 h1).mono ?_
  rintro e w1 ⟨rfl, hB1⟩
  have HB1 := Lib.hid (((Below.refl w.heap.size w).alloc (Nat.le_refl _) _).trans (hB1.mono (by simp)))
  have c1 : w1.cell? ⟨w.heap.size, 1, none⟩ = some (.int .i64 i.dst) := (hB1.cell (p := ⟨w.heap.size, 1, none⟩) (by simp)).trans (by simp)
  clear hB1
  go_wp2_with fail
  refine (has_any (shapeOf i.op) 100 _ (by omega)).mono ?_
  rintro e w2 ⟨he, rfl⟩
  rw [HD.out] at he
  subst he
  cases b with
  | true =>
    have hu : Hid (i.defines = some i.dst) := by
      show _ = _
      have := of_decide_eq_true HB.out
      simp [Ins.defines, this]
    go_wp2_with fail
    go_ret2
    unfold DefOk
    rw [hu.out]
    exact ⟨rfl, HB1.out⟩
  | false =>
    have hu : Hid (i.defines = none) := by
      show _ = _
      have := of_decide_eq_false HB.out
      simp [Ins.defines, this]
    go_wp2_with fail
    go_ret2
    unfold DefOk
    rw [hu.out]
    exact ⟨rfl, HB1.out⟩
end Go.Proofs.YteknhnnlhhgppaaDoor

/-
  Contracts: validEnd (package ir), immediate, register (package ontimeref17).
-/
namespace Go.Proofs.YteknhnnlhhgppaaDoor
set_option linter.unusedVariables false
set_option linter.unusedSimpArgs false
open Go.RowKit
set_option maxRecDepth 100000

/-- the value of a function: its name, registers, arrays, blocks -/
abbrev fnVal (name : ByteArray) (regs : Int) (aa : Option Addr) (an ac : Nat) (ba : Option Addr) (bn bc : Nat) : Value := .agg #[.string name, .int .i64 regs, .slice aa an ac, .slice ba bn bc]
/-- whether an immediate operand is in range, by the reference -/
def immOk (op n : Int) : Bool :=
  bif op == 1 then decide (-2147483648 ≤ n) && decide (n < 2147483648)
  else bif op == 3 then decide (6 ≤ n) && decide (n ≤ 23)
  else bif (op == 8) || (op == 16) then decide (1 ≤ n) && decide (n ≤ 131071)
  else bif (op == 9) || (op == 10) then decide (0 ≤ n) && decide (n < 8)
  else bif (op == 13) || (op == 14) || (op == 15) then decide (0 ≤ n) && decide (n < 4)
  else n == 0
def regOk (used : Bool) (n regs : Int) : Bool := if used then decide (0 ≤ n) && decide (n < regs) else decide (n = 0)

theorem ret_bool {a b : Bool} (h : a = b) : Ending.returned (.bool a) = .returned (.bool b) := by rw [h]
/-- whether the end of a block is valid -/
def endOk (regs : Int) (n : Nat) (b : Blk) : Bool :=
  bif b.kind == 1 then decide (0 ≤ b.to) && decide (b.to < (n : Int)) && (b.x == 0) && (b.els == 0)
  else bif b.kind == 2 then decide (0 ≤ b.x) && decide (b.x < regs) && decide (0 ≤ b.to) && decide (b.to < (n : Int)) && decide (0 ≤ b.els) && decide (b.els < (n : Int))
  else bif b.kind == 3 then (b.x == 0) && (b.to == 0) && (b.els == 0)
  else false
set_option maxHeartbeats 8000000 in
theorem validEnd_any (name : ByteArray) (regs : Int) (aa ba : Option Addr) (an ac bn bc : Nat) (b : Blk) (a : Option Addr) (c : Nat) (w : World) (hn : bn ≤ 9223372036854775807) :
    Calls Tryd.prog 105 #[fnVal name regs aa an ac ba bn bc, b.val a c] w fun e w' => e = .returned (.bool (endOk regs bn b)) ∧ Below w.heap.size w w' := by
  unfold Blk.val
  go_enter Tryd.func105, Tryd.ntmps105
  go_wp2
  all_goals
    go_ret
    exact ⟨ret_bool (by first | (simp [endOk, *]; done) | (simp [endOk, *]; intros; omega)), ((Below.refl _ _).alloc (Nat.le_refl _) _).alloc (by simp) _⟩
end Go.Proofs.YteknhnnlhhgppaaDoor

/-
  Arrays and shared objects in memory (layer 17); contract: Index (package ontimeref17).
-/
namespace Go.Proofs.YteknhnnlhhgppaaDoor
set_option linter.unusedVariables false
set_option linter.unusedSimpArgs false
open Go.RowKit
set_option maxRecDepth 100000

/-- a list of declarations (name, length) at an address -/
structure ArrsAt (w : World) (a : Option Addr) (l : List (ByteArray × Int)) : Prop where
  fits : l.length ≤ 9223372036854775807
  sizes : ∀ p ∈ l, p.1.size ≤ 9223372036854775807
  at_ : l.length = 0 ∨ ∃ b off, a = some ⟨b, off, none⟩ ∧ ∀ (i : Nat) (p : ByteArray × Int), l[i]? = some p → w.cell? ⟨b, off + i * 2, none⟩ = some (.string p.1) ∧ w.cell? ⟨b, off + i * 2 + 1, none⟩ = some (.int .i64 p.2)
theorem ArrsAt.below {w w' : World} {a : Option Addr} {l : List (ByteArray × Int)} (h : ArrsAt w a l) (hB : Below w.heap.size w w') : ArrsAt w' a l := by
  refine ⟨h.fits, h.sizes, ?_⟩
  rcases h.at_ with h0 | ⟨b, off, ha, hk⟩
  · exact .inl h0
  · refine .inr ⟨b, off, ha, fun i p hp => ?_⟩
    obtain ⟨h1, h2⟩ := hk i p hp
    exact ⟨(hB.cell (p := ⟨b, _, none⟩) (World.block_lt_of_cell? w _ h1)).trans h1, (hB.cell (p := ⟨b, _, none⟩) (World.block_lt_of_cell? w _ h2)).trans h2⟩
/-- the index of a name among the declarations, from a place on; or -1 -/
def idxFrom (name : ByteArray) : List (ByteArray × Int) → Nat → Int
  | [], _ => -1
  | p :: l, k => if p.1.toList = name.toList then (k : Int) else idxFrom name l (k + 1)
def idx (l : List (ByteArray × Int)) (name : ByteArray) : Int := idxFrom name l 0
example : idx [(⟨#[2]⟩, 4)] ⟨#[2]⟩ = 0 ∧ idx [] ⟨#[2]⟩ = -1 := ⟨by simp [idx, idxFrom], rfl⟩
theorem idxFrom_drop {name : ByteArray} {l : List (ByteArray × Int)} {k : Nat} {p : ByteArray × Int} (h : l[k]? = some p) : idxFrom name (l.drop k) k = if p.1.toList = name.toList then (k : Int) else idxFrom name (l.drop (k + 1)) (k + 1) := by
  obtain ⟨hk, rfl⟩ := List.getElem?_eq_some_iff.1 h
  rw [List.drop_eq_getElem_cons hk]
  rfl

end Go.Proofs.YteknhnnlhhgppaaDoor

/-
  Plain definitions and lemmas on 32-bit words: what word.Apply and word.Unary compute. No program is named here.
-/
namespace Go.Proofs.YteknhnnlhhgppaaDoor.Wd
set_option linter.unusedVariables false
set_option linter.unusedSimpArgs false
open Go.RowKit

def tr (b : Bool) : Int := if b then 1 else 0

/-- the value of a binary operator -/
def apply (k x y : Int) : Int :=
  if k = 6 then wrap32 (x + y)
  else if k = 7 then wrap32 (x - y)
  else if k = 8 then wrap32 (x * y)
  else if k = 9 then (if y = 0 then 0 else wrap32 (x.tdiv y))
  else if k = 10 then (if y = 0 then 0 else x.tmod y)
  else if k = 11 then bits .and .i32 x y
  else if k = 12 then bits .or .i32 x y
  else if k = 13 then bits .xor .i32 x y
  else if k = 14 then wrap32 (x * 2 ^ (y % 32).toNat)
  else if k = 15 then x / 2 ^ (y % 32).toNat
  else if k = 16 then tr (x == y)
  else if k = 17 then tr (x != y)
  else if k = 18 then tr (decide (x < y))
  else if k = 19 then tr (decide (x ≤ y))
  else if k = 20 then tr (decide (y < x))
  else if k = 21 then tr (decide (y ≤ x))
  else if k = 22 then tr (x != 0 && y != 0)
  else if k = 23 then tr (x != 0 || y != 0)
  else 0

/-- its error number -/
def err (k y : Int) : Int :=
  if k < 6 ∨ 23 < k then 1 else if (k = 9 ∨ k = 10) ∧ y = 0 then 9 else 0

def unary (k x : Int) : Int := if k = 4 then wrap32 (-x) else if k = 5 then tr (x == 0) else 0
def uerr (k : Int) : Int := if k = 4 ∨ k = 5 then 0 else 1

/-- a word -/
def W (x : Int) : Prop := -2147483648 ≤ x ∧ x ≤ 2147483647

theorem W_wrap (n : Int) : W (wrap32 n) := by unfold W wrap32; omega
theorem W_tr (b : Bool) : W (tr b) := by unfold W tr; split <;> omega
theorem W_wf {x : Int} (h : (Lit.int .i32 x).wf = true) : W x := by
  simpa [W, Lit.wf, IntKind.min, IntKind.max, IntKind.signed, IntKind.bits] using h

theorem bits_wrap (op : BinOp) (x y : Int) : W (bits op .i32 x y) := by
  have h : ∃ n : Int, bits op .i32 x y = IntKind.i32.wrap n := by
    unfold bits
    split <;> exact ⟨_, rfl⟩
  obtain ⟨n, h⟩ := h
  rw [h, IntWalk.i32_left]
  exact W_wrap n
theorem W_shr {x : Int} (h : W x) (n : Nat) : W (x / 2 ^ n) := by
  have hp : (0 : Int) < 2 ^ n := Int.pow_pos (by omega)
  unfold W at *
  constructor
  · rw [Int.le_ediv_iff_mul_le hp]
    have h1 : (1 : Int) ≤ 2 ^ n := hp
    have : (-2147483648 : Int) * 2 ^ n ≤ -2147483648 * 1 := Int.mul_le_mul_of_nonpos_left (by omega) h1
    omega
  · by_cases h0 : 0 ≤ x
    · have := Int.ediv_le_self (2 ^ n) h0; omega
    · have : x / 2 ^ n < 0 := Int.ediv_neg_of_neg_of_pos (by omega) hp
      omega
theorem W_tmod {x y : Int} (h : W x) : W (x.tmod y) := by
  unfold W at *
  have := Int.natAbs_tmod x y
  have h2 : x.natAbs % y.natAbs ≤ x.natAbs := Nat.mod_le _ _
  by_cases h0 : 0 ≤ x
  · have := Int.tmod_nonneg y h0; omega
  · have : x.tmod y = -((-x).tmod y) := by rw [Int.neg_tmod]; simp
    have := Int.tmod_nonneg y (show 0 ≤ -x by omega); omega

theorem W_ite {c : Prop} [Decidable c] {a b : Int} (ha : W a) (hb : W b) : W (if c then a else b) := by split <;> assumption
theorem W_apply {x y : Int} (k : Int) (hx : W x) (_hy : W y) : W (apply k x y) := by
  unfold apply
  have z : W 0 := by unfold W; omega
  repeat' (first | exact z | exact W_wrap _ | exact W_tr _ | exact bits_wrap _ _ _ | exact W_shr hx _ | exact W_tmod hx | refine W_ite ?_ ?_)
theorem W_unary (k x : Int) : W (unary k x) := by
  unfold unary
  have z : W 0 := by unfold W; omega
  repeat' (first | exact z | exact W_wrap _ | exact W_tr _ | split)

/-! ### each operator by itself -/
theorem a6 (x y : Int) : apply 6 x y = wrap32 (x + y) := rfl
theorem a7 (x y : Int) : apply 7 x y = wrap32 (x - y) := rfl
theorem a8 (x y : Int) : apply 8 x y = wrap32 (x * y) := rfl
theorem a9 (x y : Int) : apply 9 x y = if y = 0 then 0 else wrap32 (x.tdiv y) := rfl
theorem a10 (x y : Int) : apply 10 x y = if y = 0 then 0 else x.tmod y := rfl
theorem a11 (x y : Int) : apply 11 x y = bits .and .i32 x y := rfl
theorem a12 (x y : Int) : apply 12 x y = bits .or .i32 x y := rfl
theorem a13 (x y : Int) : apply 13 x y = bits .xor .i32 x y := rfl
theorem a14 (x y : Int) : apply 14 x y = wrap32 (x * 2 ^ (y % 32).toNat) := rfl
theorem a15 (x y : Int) : apply 15 x y = x / 2 ^ (y % 32).toNat := rfl
theorem a16 (x y : Int) : apply 16 x y = tr (x == y) := rfl
theorem a17 (x y : Int) : apply 17 x y = tr (x != y) := rfl
theorem a18 (x y : Int) : apply 18 x y = tr (decide (x < y)) := rfl
theorem a19 (x y : Int) : apply 19 x y = tr (decide (x ≤ y)) := rfl
theorem a20 (x y : Int) : apply 20 x y = tr (decide (y < x)) := rfl
theorem a21 (x y : Int) : apply 21 x y = tr (decide (y ≤ x)) := rfl
theorem a22 (x y : Int) : apply 22 x y = tr (x != 0 && y != 0) := rfl
theorem a23 (x y : Int) : apply 23 x y = tr (x != 0 || y != 0) := rfl
theorem aelse (k x y : Int) (h : k < 6 ∨ 23 < k) : apply k x y = 0 := by
  unfold apply
  repeat rw [if_neg (by omega)]
theorem eelse (k y : Int) (h : k < 6 ∨ 23 < k) : err k y = 1 := by unfold err; rw [if_pos h]
theorem e0 (k y : Int) (h : 6 ≤ k ∧ k ≤ 23) (h2 : ¬ ((k = 9 ∨ k = 10) ∧ y = 0)) : err k y = 0 := by
  unfold err; rw [if_neg (by omega), if_neg h2]
end Go.Proofs.YteknhnnlhhgppaaDoor.Wd
