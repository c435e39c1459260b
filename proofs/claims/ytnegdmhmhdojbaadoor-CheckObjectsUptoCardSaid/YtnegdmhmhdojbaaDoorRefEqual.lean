/-
  Contract: when trees are equal (package ontimeref12).
-/
import Derived.Test.YtnegdmhmhdojbaaDoorAstAts
import Derived.StillTailTactics
import Derived.Deep.RegionWith
namespace Go.Proofs.YtnegdmhmhdojbaaDoor
set_option linter.unusedVariables false
set_option linter.unusedSimpArgs false
open Go.RowKit
set_option maxRecDepth 100000

theorem ofBB {w wr : World} {o o' : Obj} (h : Below (w.heap.size + 1 + 1) ((w.alloc o).alloc o') wr) : Below w.heap.size w wr := two_alloc.trans (h.mono (by omega))
theorem bb_size {w wr : World} {o o' : Obj} (h : Below (w.heap.size + 1 + 1) ((w.alloc o).alloc o') wr) : w.heap.size + 1 + 1 ≤ wr.heap.size := by have := h.size; simpa using this
theorem bb_cell {w wr : World} {c : Array Value} {t : TypeId} {o' : Obj} (h : Below (w.heap.size + 1 + 1) ((w.alloc (.cells c t)).alloc o') wr) (i : Nat) : wr.cell? ⟨w.heap.size, i, none⟩ = c[i]? :=
  (h.cell (p := ⟨w.heap.size, i, none⟩) (by show w.heap.size < _; omega)).trans ((World.cell?_alloc_lt _ _ _ (by simp)).trans (World.cell?_alloc_new w c t i))
theorem bb_cell' {w wr : World} {c : Array Value} {t : TypeId} {o : Obj} (h : Below (w.heap.size + 1 + 1) ((w.alloc o).alloc (.cells c t)) wr) (i : Nat) : wr.cell? ⟨w.heap.size + 1, i, none⟩ = c[i]? := by
  refine (h.cell (p := ⟨w.heap.size + 1, i, none⟩) (by show w.heap.size + 1 < _; omega)).trans ?_
  have := World.cell?_alloc_new (w.alloc o) c t i
  rw [World.size_alloc] at this
  exact this

theorem below_cell {w w' : World} {b o : Nat} {v : Value} (hb : Below w.heap.size w w') (h : w.cell? ⟨b, o, none⟩ = some v) : w'.cell? ⟨b, o, none⟩ = some v :=
  (hb.cell (p := ⟨b, o, none⟩) (World.block_lt_of_cell? w _ h)).trans h

end Go.Proofs.YtnegdmhmhdojbaaDoor
