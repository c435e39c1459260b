/-
  The intermediate code as data (layer 17): instructions, blocks, functions; slices of ints in memory. No program is named here.
-/
import Derived.WalkKit
import Derived.Below
namespace Go.Proofs.Ytjdfcpjlmfaaaaa
set_option linter.unusedVariables false
set_option linter.unusedSimpArgs false
open Go.RowKit

/-- an instruction -/
structure Ins where
  op : Int
  dst : Int
  x : Int
  y : Int
  imm : Int
  sym : ByteArray
def Ins.val (i : Ins) : Value := .agg #[.int .u8 i.op, .int .i64 i.dst, .int .i64 i.x, .int .i64 i.y, .int .i64 i.imm, .string i.sym]
/-- a block -/
structure Blk where
  code : List Ins
  kind : Int
  x : Int
  to : Int
  els : Int
def Blk.val (b : Blk) (a : Option Addr) (c : Nat) : Value := .agg #[.slice a b.code.length c, .int .u8 b.kind, .int .i64 b.x, .int .i64 b.to, .int .i64 b.els]

/-- the registers that an instruction reads, and the one that it writes -/
def Ins.uses (i : Ins) : List Int :=
  if i.op = 2 ∨ i.op = 4 ∨ i.op = 6 ∨ i.op = 8 ∨ i.op = 10 then [i.x] else if i.op = 3 ∨ i.op = 5 ∨ i.op = 7 then [i.x, i.y] else []
def Ins.defines (i : Ins) : Option Int :=
  if i.op = 1 ∨ i.op = 2 ∨ i.op = 3 ∨ i.op = 4 ∨ i.op = 6 ∨ i.op = 9 ∨ i.op = 15 then some i.dst else none
/-- the successors of a block -/
def Blk.succ (b : Blk) : List Int :=
  if b.kind = 1 ∨ (b.kind = 2 ∧ b.to = b.els) then [b.to] else if b.kind = 2 then [b.to, b.els] else []
example : (⟨3, 0, 4, 5, 6, ⟨#[]⟩⟩ : Ins).uses = [4, 5] ∧ (⟨[], 2, 0, 1, 1⟩ : Blk).succ = [1] := ⟨rfl, rfl⟩

/-- a slice of ints, nil or in a block of a kind -/
def IntsIn (S : Nat → Prop) (w : World) (v : Value) (p : List Int) : Prop :=
  (p = [] ∧ v = .slice none 0 0) ∨
  ∃ b off cap, v = .slice (some ⟨b, off, none⟩) p.length cap ∧ S b ∧ p.length ≤ cap ∧ b < w.heap.size ∧ ∀ i, i < p.length → w.cell? ⟨b, off + i, none⟩ = some (.int .i64 (p.getD i 0))
theorem IntsIn.move {S S' : Nat → Prop} {w w' : World} {v : Value} {p : List Int} (hsz : w.heap.size ≤ w'.heap.size) (h1 : ∀ k, S k → k < w.heap.size → w'.heap[k]? = w.heap[k]?) (h2 : ∀ k, S k → k < w.heap.size → S' k) (h : IntsIn S w v p) : IntsIn S' w' v p := by
  rcases h with h | ⟨b, off, cap, hv, hS, hc, hb, hk⟩
  · exact .inl h
  · exact .inr ⟨b, off, cap, hv, h2 b hS hb, hc, Nat.lt_of_lt_of_le hb hsz, fun i hi => (World.cell?_of_block (a := ⟨b, _, none⟩) (h1 b hS hb)).trans (hk i hi)⟩
theorem IntsIn.below {S : Nat → Prop} {w w' : World} {v : Value} {p : List Int} (h : IntsIn S w v p) (hb : Below w.heap.size w w') : IntsIn S w' v p :=
  h.move hb.size (fun k _ hk => hb.block k hk) (fun _ h _ => h)
/-- ints in new memory -/
def IntsNew (p : List Int) (w : World) (e : Ending) (w' : World) : Prop := ∃ v, e = .returned v ∧ IntsIn (fun k => w.heap.size ≤ k) w' v p ∧ Below w.heap.size w w'
theorem ints_one {w : World} {o : Obj} {x : Int} {t : TypeId} : IntsNew [x] w (.returned (.slice (some ⟨w.heap.size + 1, 0, none⟩) 1 1)) ((w.alloc o).alloc (.cells #[.int .i64 x] t)) := by
  have hz : (w.alloc o).heap.size = w.heap.size + 1 := by simp
  refine ⟨_, rfl, .inr ⟨_, 0, 1, rfl, by omega, Nat.le_refl _, by simp, fun i hi => ?_⟩, ((Below.refl _ _).alloc (Nat.le_refl _) _).alloc (by simp) _⟩
  obtain rfl : i = 0 := by simpa using hi
  rw [← hz]
  exact World.cell?_alloc_new _ _ _ 0
theorem ints_two {w : World} {o : Obj} {x y : Int} {t : TypeId} : IntsNew [x, y] w (.returned (.slice (some ⟨w.heap.size + 1, 0, none⟩) 2 2)) ((w.alloc o).alloc (.cells #[.int .i64 x, .int .i64 y] t)) := by
  have hz : (w.alloc o).heap.size = w.heap.size + 1 := by simp
  refine ⟨_, rfl, .inr ⟨_, 0, 2, rfl, by omega, Nat.le_refl _, by simp, fun i hi => ?_⟩, ((Below.refl _ _).alloc (Nat.le_refl _) _).alloc (by simp) _⟩
  rw [← hz]
  match i, hi with
  | 0, _ => exact World.cell?_alloc_new _ _ _ 0
  | 1, _ => exact World.cell?_alloc_new _ _ _ 1
  | i + 2, hi => simp at hi; omega
theorem ints_none {w : World} {o : Obj} : IntsNew [] w (.returned (.slice none 0 0)) (w.alloc o) :=
  ⟨_, rfl, .inl ⟨rfl, rfl⟩, (Below.refl _ _).alloc (Nat.le_refl _) _⟩
end Go.Proofs.Ytjdfcpjlmfaaaaa
