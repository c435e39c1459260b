/-
  Contracts: Shape, has, Defines (package ontimeref17).
-/
import Derived.Test.YtjdfcpjlmfaaaaaProg
import Derived.Test.YtjdfcpjlmfaaaaaIr
import Derived.Test.YtjdfcpjlmfaaaaaIrUses
import Derived.Lib.Hide
import Derived.WalkKit
import Derived.LoopTactic
import Derived.Outline
namespace Go.Proofs.Ytjdfcpjlmfaaaaa
set_option linter.unusedVariables false
set_option linter.unusedSimpArgs false
open Go.RowKit
set_option maxRecDepth 100000

/-- the reference's table of operands -/
def shapes : List ByteArray := [⟨#[]⟩, ⟨#[100, 105]⟩, ⟨#[100, 120]⟩, ⟨#[100, 120, 121, 105]⟩, ⟨#[100, 120, 115]⟩, ⟨#[120, 121, 115]⟩, ⟨#[100, 120, 115]⟩, ⟨#[120, 121, 115]⟩, ⟨#[120, 105]⟩, ⟨#[100, 105]⟩, ⟨#[120, 105]⟩, ⟨#[115]⟩, ⟨#[115]⟩, ⟨#[105]⟩, ⟨#[105]⟩, ⟨#[100, 105]⟩, ⟨#[120, 105]⟩]
def shapeOf (op : Int) : ByteArray := shapes.getD op.toNat ⟨#[]⟩
abbrev shapeCells : Array Value := #[.string ⟨#[]⟩, .string ⟨#[100, 105]⟩, .string ⟨#[100, 120]⟩, .string ⟨#[100, 120, 121, 105]⟩, .string ⟨#[100, 120, 115]⟩, .string ⟨#[120, 121, 115]⟩, .string ⟨#[100, 120, 115]⟩, .string ⟨#[120, 121, 115]⟩, .string ⟨#[120, 105]⟩, .string ⟨#[100, 105]⟩, .string ⟨#[120, 105]⟩, .string ⟨#[115]⟩, .string ⟨#[115]⟩, .string ⟨#[105]⟩, .string ⟨#[105]⟩, .string ⟨#[100, 105]⟩, .string ⟨#[120, 105]⟩]
theorem shape_cell (k : Nat) (h : k < 17) : shapeCells[k]? = some (.string (shapeOf (k : Int))) := by
  match k, h with
  | 0, _ => rfl
  | 1, _ => rfl
  | 2, _ => rfl
  | 3, _ => rfl
  | 4, _ => rfl
  | 5, _ => rfl
  | 6, _ => rfl
  | 7, _ => rfl
  | 8, _ => rfl
  | 9, _ => rfl
  | 10, _ => rfl
  | 11, _ => rfl
  | 12, _ => rfl
  | 13, _ => rfl
  | 14, _ => rfl
  | 15, _ => rfl
  | 16, _ => rfl
  | k + 17, h => exact absurd h (by omega)
theorem shape_none {op : Int} (h : 17 ≤ op) : shapeOf op = ⟨#[]⟩ := by
  unfold shapeOf
  rw [List.getD_eq_getElem?_getD, List.getElem?_eq_none (by show 17 ≤ op.toNat; omega)]
  rfl

set_option maxHeartbeats 2000000 in
theorem shape_any (op : Int) (w : World) (h0 : 0 ≤ op) (h1 : op ≤ 255) :
    Calls Try.prog 47 #[.int .u8 op] w fun e w' => e = .returned (.string (shapeOf op)) ∧ Below w.heap.size w w' := by
  obtain ⟨k, rfl⟩ := Int.eq_ofNat_of_zero_le h0
  by_cases hk : k < 17
  · have hc : (w.alloc (.cells shapeCells 9)).cell? ⟨w.heap.size, k, none⟩ = some (.string (shapeOf (k : Int))) := (World.cell?_alloc_new w shapeCells _ k).trans (shape_cell k hk)
    have hk0 : (0 : Int) ≤ (k : Int) := by omega
    have hk1 : (k : Int) < 17 := by omega
    generalize hs : shapeOf (k : Int) = s at hc ⊢
    clear hs
    go_enter Try.func47, Try.ntmps47
    go_wp2
    go_ret
    exact ⟨rfl, (Below.refl _ _).alloc (Nat.le_refl _) _⟩
  · have hk1 : (17 : Int) ≤ (k : Int) := by omega
    rw [shape_none hk1]
    go_enter Try.func47, Try.ntmps47
    go_wp2
    go_ret
    exact ⟨rfl, (Below.refl _ _).alloc (Nat.le_refl _) _⟩

/-- whether a byte stands in a string -/
def hasB (s : ByteArray) (c : Int) (n : Nat) : Bool := (s.data.toList.take n).any fun b => (b.toNat : Int) == c
theorem hasB_succ (s : ByteArray) (c : Int) (k : Nat) (h : k < s.size) : hasB s c (k + 1) = (hasB s c k || ((s[k].toNat : Int) == c)) := by
  unfold hasB
  rw [List.take_succ_eq_append_getElem (by simpa using h), List.any_append]
  simp
  rfl
theorem hasB_mono {s : ByteArray} {c : Int} {k n : Nat} (h : hasB s c k = true) (hk : k ≤ n) : hasB s c n = true := by
  unfold hasB at *
  rw [List.any_eq_true] at *
  obtain ⟨x, hx, hq⟩ := h
  exact ⟨x, (List.take_prefix_take_left hk).subset hx, hq⟩
set_option maxHeartbeats 2000000 in
theorem has_any (s : ByteArray) (c : Int) (w : World) (hs : s.size ≤ 1000) :
    Calls Try.prog 46 #[.string s, .int .u8 c] w fun e w' => e = .returned (.bool (hasB s c s.size)) ∧ w = w' := by
  go_enter Try.func46, Try.ntmps46
  go_wp2
  go_loop [5] (fun i => ∃ k : Nat, k ≤ s.size ∧ i = .int .i64 k ∧ hasB s c k = false) (fun i => s.size - (intOf i).toNat)
  case atStart => exact ⟨0, Nat.zero_le _, rfl, rfl⟩
  case round =>
    obtain ⟨k, hk, rfl, hno⟩ := hrel
    have HNO := Lib.hid hno
    clear hno
    by_cases hlt : k < s.size
    · have HS := Lib.hid (hasB_succ s c k hlt)
      go_wp2
      · have h : (((s[k].toNat : Nat) : Int) == c) = true := by assumption
        have ht : hasB s c s.size = true := hasB_mono (k := k + 1) (by rw [HS.out, h]; simp) (by omega)
        go_ret
        exact ⟨by rw [ht]; rfl, rfl⟩
      · have h : (((s[k].toNat : Nat) : Int) == c) = false := by assumption
        exact ⟨⟨k + 1, by omega, by go_num, by rw [HS.out, HNO.out, h]; rfl⟩, by simp [intOf]; omega⟩
    · obtain rfl : k = s.size := by omega
      go_wp2
      go_ret
      exact ⟨by rw [HNO.out]; rfl, rfl⟩
/-- what the table says of the written register -/
theorem shape_d {op : Int} (h0 : 0 ≤ op) : hasB (shapeOf op) 100 (shapeOf op).size = decide (op = 1 ∨ op = 2 ∨ op = 3 ∨ op = 4 ∨ op = 6 ∨ op = 9 ∨ op = 15) := by
  by_cases h : 17 ≤ op
  · rw [shape_none h]
    have : ¬ (op = 1 ∨ op = 2 ∨ op = 3 ∨ op = 4 ∨ op = 6 ∨ op = 9 ∨ op = 15) := by omega
    rw [decide_eq_false this]; rfl
  · obtain ⟨k, rfl⟩ := Int.eq_ofNat_of_zero_le h0
    have hk : k < 17 := by omega
    have all : ∀ k : Fin 17, hasB (shapeOf (k.1 : Int)) 100 (shapeOf (k.1 : Int)).size = decide ((k.1 : Int) = 1 ∨ (k.1 : Int) = 2 ∨ (k.1 : Int) = 3 ∨ (k.1 : Int) = 4 ∨ (k.1 : Int) = 6 ∨ (k.1 : Int) = 9 ∨ (k.1 : Int) = 15) := by decide
    exact all ⟨k, hk⟩
theorem shape_size (op : Int) : (shapeOf op).size ≤ 4 := by
  unfold shapeOf
  rw [List.getD_eq_getElem?_getD]
  have h : ∀ s ∈ shapes, s.size ≤ 4 := by decide
  cases hq : shapes[op.toNat]? with
  | none => decide
  | some s => exact h s (List.mem_of_getElem? hq)
set_option maxHeartbeats 2000000 in
theorem refDefines_any (i : Ins) (w : World) (h0 : 0 ≤ i.op) (h1 : i.op ≤ 255) : Calls Try.prog 31 #[i.val] w (DefOk i w) := by
  have hsz := shape_size i.op
  have HD := Lib.hid (shape_d h0)
  generalize hb : decide (i.op = 1 ∨ i.op = 2 ∨ i.op = 3 ∨ i.op = 4 ∨ i.op = 6 ∨ i.op = 9 ∨ i.op = 15) = b at HD
  have HB := Lib.hid hb
  clear hb
  unfold Ins.val
  go_enter Try.func31, Try.ntmps31
  go_wp2_with fail
  refine (shape_any i.op _ h0 h1).mono ?_
  rintro e w1 ⟨rfl, hB1⟩
  have HB1 := Lib.hid (((Below.refl w.heap.size w).alloc (Nat.le_refl _) _).trans (hB1.mono (by simp)))
  have c1 : w1.cell? ⟨w.heap.size, 1, none⟩ = some (.int .i64 i.dst) := (hB1.cell (p := ⟨w.heap.size, 1, none⟩) (by simp)).trans (by simp)
  clear hB1
  go_wp2_with fail
  refine (has_any (shapeOf i.op) 100 _ (by omega)).mono ?_
  rintro e w2 ⟨he, rfl⟩
  rw [HD.out] at he
  subst he
  cases b with
  | true =>
    have hu : Hid (i.defines = some i.dst) := by
      show _ = _
      have := of_decide_eq_true HB.out
      simp [Ins.defines, this]
    go_wp2_with fail
    go_ret2
    unfold DefOk
    rw [hu.out]
    exact ⟨rfl, HB1.out⟩
  | false =>
    have hu : Hid (i.defines = none) := by
      show _ = _
      have := of_decide_eq_false HB.out
      simp [Ins.defines, this]
    go_wp2_with fail
    go_ret2
    unfold DefOk
    rw [hu.out]
    exact ⟨rfl, HB1.out⟩
end Go.Proofs.Ytjdfcpjlmfaaaaa
