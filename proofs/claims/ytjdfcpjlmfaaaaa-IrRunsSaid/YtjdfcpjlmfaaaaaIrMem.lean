/-
  Functions of the intermediate code, as they lie in memory (layer 17). 
-/
import Derived.Test.YtjdfcpjlmfaaaaaIrArr
import Derived.Test.YtjdfcpjlmfaaaaaIrRun
namespace Go.Proofs.Ytjdfcpjlmfaaaaa
set_option linter.unusedVariables false
set_option linter.unusedSimpArgs false
open Go.RowKit

def isI64 (n : Int) : Prop := -9223372036854775808 ≤ n ∧ n ≤ 9223372036854775807
/-- an instruction as the language has it -/
structure Ins.Wf (i : Ins) : Prop where
  op0 : 0 ≤ i.op
  op1 : i.op ≤ 255
  dst : isI64 i.dst
  x : isI64 i.x
  y : isI64 i.y
  imm : isI64 i.imm
  sym : i.sym.size ≤ 9223372036854775807
/-- an instruction's six cells -/
structure InsAt (w : World) (b o : Nat) (i : Ins) : Prop where
  c0 : w.cell? ⟨b, o, none⟩ = some (.int .u8 i.op)
  c1 : w.cell? ⟨b, o + 1, none⟩ = some (.int .i64 i.dst)
  c2 : w.cell? ⟨b, o + 2, none⟩ = some (.int .i64 i.x)
  c3 : w.cell? ⟨b, o + 3, none⟩ = some (.int .i64 i.y)
  c4 : w.cell? ⟨b, o + 4, none⟩ = some (.int .i64 i.imm)
  c5 : w.cell? ⟨b, o + 5, none⟩ = some (.string i.sym)
/-- a row of instructions -/
structure CodeAt (w : World) (a : Option Addr) (l : List Ins) : Prop where
  fits : l.length ≤ 9223372036854775807
  wf : ∀ i ∈ l, i.Wf
  at_ : l.length = 0 ∨ ∃ b off, a = some ⟨b, off, none⟩ ∧ ∀ (k : Nat) (i : Ins), l[k]? = some i → InsAt w b (off + k * 6) i
structure Blk.Wf (b : Blk) : Prop where
  k0 : 0 ≤ b.kind
  k1 : b.kind ≤ 255
  x : isI64 b.x
  to : isI64 b.to
  els : isI64 b.els
/-- a block's five cells -/
structure BlkAt (w : World) (b o : Nat) (x : Blk) (a : Option Addr) (c : Nat) : Prop where
  c0 : w.cell? ⟨b, o, none⟩ = some (.slice a x.code.length c)
  c1 : w.cell? ⟨b, o + 1, none⟩ = some (.int .u8 x.kind)
  c2 : w.cell? ⟨b, o + 2, none⟩ = some (.int .i64 x.x)
  c3 : w.cell? ⟨b, o + 3, none⟩ = some (.int .i64 x.to)
  c4 : w.cell? ⟨b, o + 4, none⟩ = some (.int .i64 x.els)
/-- a row of blocks -/
structure BlksAt (w : World) (a : Option Addr) (l : List Blk) : Prop where
  fits : l.length ≤ 9223372036854775807
  wf : ∀ x ∈ l, x.Wf
  at_ : l.length = 0 ∨ ∃ b off, a = some ⟨b, off, none⟩ ∧ ∀ (k : Nat) (x : Blk), l[k]? = some x → ∃ ca cc, BlkAt w b (off + k * 5) x ca cc ∧ CodeAt w ca x.code
theorem cell_below {w w' : World} {b o : Nat} {v : Value} (hb : Below w.heap.size w w') (h : w.cell? ⟨b, o, none⟩ = some v) : w'.cell? ⟨b, o, none⟩ = some v :=
  (hb.cell (p := ⟨b, o, none⟩) (World.block_lt_of_cell? w _ h)).trans h
theorem InsAt.below {w w' : World} {b o : Nat} {i : Ins} (h : InsAt w b o i) (hb : Below w.heap.size w w') : InsAt w' b o i :=
  ⟨cell_below hb h.c0, cell_below hb h.c1, cell_below hb h.c2, cell_below hb h.c3, cell_below hb h.c4, cell_below hb h.c5⟩
theorem CodeAt.below {w w' : World} {a : Option Addr} {l : List Ins} (h : CodeAt w a l) (hb : Below w.heap.size w w') : CodeAt w' a l := by
  refine ⟨h.fits, h.wf, ?_⟩
  rcases h.at_ with h0 | ⟨b, off, ha, hk⟩
  · exact .inl h0
  · exact .inr ⟨b, off, ha, fun k i hi => (hk k i hi).below hb⟩
theorem BlkAt.below {w w' : World} {b o : Nat} {x : Blk} {a : Option Addr} {c : Nat} (h : BlkAt w b o x a c) (hb : Below w.heap.size w w') : BlkAt w' b o x a c :=
  ⟨cell_below hb h.c0, cell_below hb h.c1, cell_below hb h.c2, cell_below hb h.c3, cell_below hb h.c4⟩
theorem BlksAt.below {w w' : World} {a : Option Addr} {l : List Blk} (h : BlksAt w a l) (hb : Below w.heap.size w w') : BlksAt w' a l := by
  refine ⟨h.fits, h.wf, ?_⟩
  rcases h.at_ with h0 | ⟨b, off, ha, hk⟩
  · exact .inl h0
  · exact .inr ⟨b, off, ha, fun k x hx => by obtain ⟨ca, cc, h1, h2⟩ := hk k x hx; exact ⟨ca, cc, h1.below hb, h2.below hb⟩⟩
/-- a function: its rows -/
structure FnAt (w : World) (f : Fn) (aa ba : Option Addr) : Prop where
  arrays : ArrsAt w aa f.arrays
  blocks : BlksAt w ba f.blocks
  regs : isI64 f.regs
  name : f.name.size ≤ 9223372036854775807
theorem FnAt.below {w w' : World} {f : Fn} {aa ba : Option Addr} (h : FnAt w f aa ba) (hb : Below w.heap.size w w') : FnAt w' f aa ba := ⟨h.arrays.below hb, h.blocks.below hb, h.regs, h.name⟩
/-- what is held below is held where all of it lies below -/
theorem below_self {N : Nat} {w w' : World} (h : Below N w w') (hN : w.heap.size ≤ N) : Below w.heap.size w w' := h.mono hN
end Go.Proofs.Ytjdfcpjlmfaaaaa
