/-
  Trees whose cells lie in given blocks. No program is named here.
-/
import Derived.Test.YtnegdmhmhdojbaaDoorTree
namespace Go.Proofs.YtnegdmhmhdojbaaDoor
set_option linter.unusedVariables false
set_option linter.unusedSimpArgs false
open Go.RowKit

/-- The children of a tree lie at an address, all in blocks of a kind. -/
def RepIn (S : Nat → Prop) (w : World) : Tree → Option Addr → Prop
  | .node k n s l kid => fun a => (Tree.node k n s l kid).Fits ∧
      (l = 0 ∨ ∃ b off, a = some ⟨b, off, none⟩ ∧ S b ∧ ∀ (i : Nat) (h : i < l), ∃ ai ci, NodeAt w b (off + i * 4) (kid ⟨i, h⟩) ai ci ∧ RepIn S w (kid ⟨i, h⟩) ai)

theorem RepIn.fits {S : Nat → Prop} {w : World} {t : Tree} {a : Option Addr} (h : RepIn S w t a) : t.Fits := by cases t; exact h.1
theorem RepIn.kids {S : Nat → Prop} {w : World} {t : Tree} {a : Option Addr} (h : RepIn S w t a) : t.len = 0 ∨ ∃ b off, a = some ⟨b, off, none⟩ ∧ S b ∧ ∀ i, i < t.len → ∃ ai ci, NodeAt w b (off + i * 4) (t.kid i) ai ci ∧ RepIn S w (t.kid i) ai := by
  cases t with
  | node k n s l kid =>
    rcases h.2 with h0 | ⟨b, off, ha, hS, hk⟩
    · exact .inl h0
    · exact .inr ⟨b, off, ha, hS, fun i hi => by have hi' : i < l := hi; rw [Tree.kid_node hi']; exact hk i hi⟩
theorem RepIn.mk {S : Nat → Prop} {w : World} {t : Tree} {a : Option Addr} (hf : t.Fits) (h : t.len = 0 ∨ ∃ b off, a = some ⟨b, off, none⟩ ∧ S b ∧ ∀ i, i < t.len → ∃ ai ci, NodeAt w b (off + i * 4) (t.kid i) ai ci ∧ RepIn S w (t.kid i) ai) : RepIn S w t a := by
  cases t with
  | node k n s l kid =>
    rcases h with h0 | ⟨b, off, ha, hS, hk⟩
    · exact ⟨hf, .inl h0⟩
    · exact ⟨hf, .inr ⟨b, off, ha, hS, fun i hi => by have hi' : i < l := hi; have := hk i hi; rwa [Tree.kid_node hi'] at this⟩⟩

theorem RepIn.rep {S : Nat → Prop} {w : World} : ∀ {t : Tree} {a : Option Addr}, RepIn S w t a → Rep w t a := by
  intro t
  induction t using Tree.ind with
  | h t ih =>
    intro a h
    refine Rep.mk h.fits ?_
    rcases h.kids with h0 | ⟨b, off, ha, _, hk⟩
    · exact .inl h0
    · exact .inr ⟨b, off, ha, fun i hi => by obtain ⟨ai, ci, hn, hr⟩ := hk i hi; exact ⟨ai, ci, hn, ih i hi hr⟩⟩

theorem NodeAt.same {w w' : World} {b off : Nat} {t : Tree} {a : Option Addr} {c : Nat} (h : NodeAt w b off t a c) (hb : w'.heap[b]? = w.heap[b]?) : NodeAt w' b off t a c :=
  ⟨(World.cell?_of_block (a := ⟨b, _, none⟩) hb).trans h.kind, (World.cell?_of_block (a := ⟨b, _, none⟩) hb).trans h.num, (World.cell?_of_block (a := ⟨b, _, none⟩) hb).trans h.name, (World.cell?_of_block (a := ⟨b, _, none⟩) hb).trans h.kids⟩

theorem RepIn.move {S S' : Nat → Prop} {w w' : World} (h1 : ∀ k, S k → k < w.heap.size → w'.heap[k]? = w.heap[k]?) (h2 : ∀ k, S k → k < w.heap.size → S' k) :
    ∀ {t : Tree} {a : Option Addr}, RepIn S w t a → RepIn S' w' t a := by
  intro t
  induction t using Tree.ind with
  | h t ih =>
    intro a h
    refine RepIn.mk h.fits ?_
    rcases h.kids with h0 | ⟨b, off, ha, hS, hk⟩
    · exact .inl h0
    · by_cases hl : 0 < t.len
      · have hlt : b < w.heap.size := by obtain ⟨ai, ci, hn, _⟩ := hk 0 hl; exact hn.lt
        exact .inr ⟨b, off, ha, h2 b hS hlt, fun i hi => by obtain ⟨ai, ci, hn, hr⟩ := hk i hi; exact ⟨ai, ci, hn.same (h1 b hS hlt), ih i hi hr⟩⟩
      · exact .inl (by omega)
/-- new memory, from a line on -/
theorem RepIn.mono {S S' : Nat → Prop} {w : World} (h : ∀ k, S k → S' k) {t : Tree} {a : Option Addr} (hr : RepIn S w t a) : RepIn S' w t a :=
  hr.move (fun _ _ _ => rfl) (fun k hk _ => h k hk)

/-- the cells of a node -/
def Tree.row (t : Tree) (x : Option Addr × Nat) : List Value := [.int .u8 t.kind, .int .i64 t.num, .string t.name, .slice x.1 t.len x.2]
/-- the cells of the first children -/
def rowsTo (kid : Nat → Tree) (x : Nat → Option Addr × Nat) : Nat → List Value
  | 0 => []
  | n + 1 => rowsTo kid x n ++ (kid n).row (x n)
theorem rowsTo_len (kid : Nat → Tree) (x : Nat → Option Addr × Nat) (n : Nat) : (rowsTo kid x n).length = n * 4 := by
  induction n with
  | zero => rfl
  | succ n ih => simp only [rowsTo, List.length_append, ih]; simp [Tree.row]; omega
theorem rowsTo_congr {kid : Nat → Tree} {x y : Nat → Option Addr × Nat} {n : Nat} (h : ∀ i, i < n → x i = y i) : rowsTo kid x n = rowsTo kid y n := by
  induction n with
  | zero => rfl
  | succ n ih => simp only [rowsTo]; rw [ih (fun i hi => h i (by omega)), h n (by omega)]
theorem rowsTo_at (kid : Nat → Tree) (x : Nat → Option Addr × Nat) {n i : Nat} (h : i < n) (d : Nat) (hd : d < 4) : (rowsTo kid x n)[i * 4 + d]? = ((kid i).row (x i))[d]? := by
  induction n with
  | zero => omega
  | succ n ih =>
    simp only [rowsTo]
    by_cases e : i = n
    · subst e
      rw [List.getElem?_append_right (by rw [rowsTo_len]; omega), rowsTo_len]
      congr 1; omega
    · rw [List.getElem?_append_left (by rw [rowsTo_len]; omega)]
      exact ih (by omega)
end Go.Proofs.YtnegdmhmhdojbaaDoor
