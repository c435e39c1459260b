/-
  What a region keeps: the box of a node. No program is named here.
-/
import Derived.Test.YtfkegjdgbnkicaaDoorTree
namespace Go.Proofs.YtfkegjdgbnkicaaDoor
open Go.RowKit

theorem keep_box {w Wc w1 : World} {c0 c1 c2 c3 : Value} {T : TypeId} (h1 : Below Wc.heap.size Wc w1) (h : Below (w.heap.size + 1) (w.alloc (.cells #[c0, c1, c2, c3] T)) Wc) :
    w1.cell? ⟨w.heap.size, 0, none⟩ = some c0 ∧ w1.cell? ⟨w.heap.size, 1, none⟩ = some c1 ∧ w1.cell? ⟨w.heap.size, 2, none⟩ = some c2 ∧ w1.cell? ⟨w.heap.size, 3, none⟩ = some c3 ∧
    Below (w.heap.size + 1) (w.alloc (.cells #[c0, c1, c2, c3] T)) w1 := by
  have hk := h.trans (h1.mono (box_size h))
  exact ⟨box_cell hk 0, box_cell hk 1, box_cell hk 2, box_cell hk 3, hk⟩
theorem keep_box_drew {w Wc : World} {c0 c1 c2 c3 : Value} {T : TypeId} (h : Below (w.heap.size + 1) (w.alloc (.cells #[c0, c1, c2, c3] T)) Wc) :
    Wc.drew.cell? ⟨w.heap.size, 0, none⟩ = some c0 ∧ Wc.drew.cell? ⟨w.heap.size, 1, none⟩ = some c1 ∧ Wc.drew.cell? ⟨w.heap.size, 2, none⟩ = some c2 ∧ Wc.drew.cell? ⟨w.heap.size, 3, none⟩ = some c3 ∧
    Below (w.heap.size + 1) (w.alloc (.cells #[c0, c1, c2, c3] T)) Wc.drew := by
  have hk := h.drew
  exact ⟨box_cell hk 0, box_cell hk 1, box_cell hk 2, box_cell hk 3, hk⟩
end Go.Proofs.YtfkegjdgbnkicaaDoor
