/-
  The node at a path; a path in memory; a block of four cells. No program is named here.
-/
import Derived.Test.YtfkegjdgbnkicaaDoorTreeIn
import Derived.Test.YtfkegjdgbnkicaaDoorPath
import Derived.Laws.Rows
namespace Go.Proofs.YtfkegjdgbnkicaaDoor
open Go.RowKit

/-- the node at a path -/
def Tree.at : Tree → List Int → Option Tree
  | t, [] => some t
  | t, k :: p => if 0 ≤ k ∧ k < (t.len : Int) then (t.kid k.toNat).at p else none
theorem Tree.at_snoc (p : List Int) : ∀ (t : Tree) (k : Int), t.at (p ++ [k]) = (t.at p).bind fun u => if 0 ≤ k ∧ k < (u.len : Int) then some (u.kid k.toNat) else none := by
  induction p with
  | nil => intro t k; simp [Tree.at]
  | cons a p ih =>
    intro t k
    simp only [List.cons_append, Tree.at]
    split
    · exact ih _ _
    · rfl
theorem Tree.at_append (p : List Int) : ∀ (t : Tree) (q : List Int), t.at (p ++ q) = (t.at p).bind fun u => u.at q := by
  induction p with
  | nil => intro t q; simp [Tree.at]
  | cons a p ih =>
    intro t q
    simp only [List.cons_append, Tree.at]
    split
    · exact ih _ _
    · rfl
theorem Tree.at_none {p q : List Int} {t : Tree} (h : t.at p = none) : t.at (p ++ q) = none := by rw [Tree.at_append, h]; rfl
theorem take_next (p : List Int) (i : Nat) (h : i < p.length) : p.take (i + 1) = p.take i ++ [p.getD i 0] := by
  rw [List.take_succ_eq_append_getElem h]
  simp [h]

/-- a path that came in -/
def PathAt (w : World) (v : Value) (p : List Int) : Prop := ((∃ a c, v = .slice a 0 c) ∧ p = []) ∨ PathIn (fun _ => True) w v p
theorem PathIn.at {S : Nat → Prop} {w : World} {v : Value} {p : List Int} (h : PathIn S w v p) : PathAt w v p := .inr (h.move (Nat.le_refl _) (fun _ _ _ => rfl) (fun _ _ _ => trivial))
theorem PathAt.below {w w' : World} {v : Value} {p : List Int} (h : PathAt w v p) (hb : Below w.heap.size w w') : PathAt w' v p := by
  rcases h with h | h
  · exact .inl h
  · exact .inr (h.below hb)
theorem PathAt.form {w : World} {v : Value} {p : List Int} (h : PathAt w v p) : ∃ pa pc, v = .slice pa p.length pc ∧ ∀ i, i < p.length → ∃ pb po, pa = some ⟨pb, po, none⟩ ∧ p.length ≤ pc ∧ pb < w.heap.size ∧ w.cell? ⟨pb, po + i, none⟩ = some (.int .i64 (p.getD i 0)) := by
  rcases h with ⟨⟨a, c, rfl⟩, rfl⟩ | ⟨b, off, cap, rfl, _, hc, hb, hk⟩
  · exact ⟨a, c, rfl, fun i hi => by simp at hi⟩
  · exact ⟨_, _, rfl, fun i hi => ⟨b, off, rfl, hc, hb, hk i hi⟩⟩

/-! ### a block of four cells -/
theorem blk4 {w : World} {b : Nat} {x0 x1 x2 x3 : Value} {T : TypeId} (h : w.heap[b]? = some (.cells #[x0, x1, x2, x3] T (0, 0))) :
    (w.cell? ⟨b, 0, none⟩ = some x0 ∧ w.cell? ⟨b, 1, none⟩ = some x1 ∧ w.cell? ⟨b, 2, none⟩ = some x2 ∧ w.cell? ⟨b, 3, none⟩ = some x3) ∧
    (w.frozen? ⟨b, 0, none⟩ = false ∧ w.frozen? ⟨b, 1, none⟩ = false ∧ w.frozen? ⟨b, 2, none⟩ = false ∧ w.frozen? ⟨b, 3, none⟩ = false) := by
  have hc : ∀ o, w.cell? ⟨b, o, none⟩ = (#[x0, x1, x2, x3] : Array Value)[o]? := by intro o; unfold World.cell?; simp only [h]; rfl
  have hf : ∀ o, w.frozen? ⟨b, o, none⟩ = false := by intro o; unfold World.frozen?; simp only [h]; simp
  exact ⟨⟨hc 0, hc 1, hc 2, hc 3⟩, hf 0, hf 1, hf 2, hf 3⟩
/-- a block of four cells, written anew -/
abbrev set4 (w : World) (b : Nat) (y0 y1 y2 y3 : Value) : World := (((w.setCell ⟨b, 0, none⟩ y0).setCell ⟨b, 1, none⟩ y1).setCell ⟨b, 2, none⟩ y2).setCell ⟨b, 3, none⟩ y3
theorem set4_at {w : World} {b : Nat} {x0 x1 x2 x3 y0 y1 y2 y3 : Value} {T : TypeId} (h : w.heap[b]? = some (.cells #[x0, x1, x2, x3] T (0, 0))) : (set4 w b y0 y1 y2 y3).heap[b]? = some (.cells #[y0, y1, y2, y3] T (0, 0)) := by
  have h1 := heap_setCell_same w b 0 _ T y0 h
  have h2 := heap_setCell_same _ b 1 _ T y1 h1
  have h3 := heap_setCell_same _ b 2 _ T y2 h2
  have h4 := heap_setCell_same _ b 3 _ T y3 h3
  simpa using h4
theorem set4_other {w : World} {b k : Nat} {y0 y1 y2 y3 : Value} (h : k ≠ b) : (set4 w b y0 y1 y2 y3).heap[k]? = w.heap[k]? :=
  (Below.heap_setCell _ _ _ _ h).trans ((Below.heap_setCell _ _ _ _ h).trans ((Below.heap_setCell _ _ _ _ h).trans (Below.heap_setCell _ _ _ _ h)))
theorem set4_below {B : Nat} {a w : World} {b : Nat} {y0 y1 y2 y3 : Value} (h : Below B a w) (hb : B ≤ b) : Below B a (set4 w b y0 y1 y2 y3) :=
  (((h.setCell (p := ⟨b, 0, none⟩) hb _).setCell (p := ⟨b, 1, none⟩) hb _).setCell (p := ⟨b, 2, none⟩) hb _).setCell (p := ⟨b, 3, none⟩) hb _
end Go.Proofs.YtfkegjdgbnkicaaDoor
