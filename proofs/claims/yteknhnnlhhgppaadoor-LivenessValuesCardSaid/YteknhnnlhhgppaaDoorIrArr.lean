/-
  Arrays and shared objects in memory (layer 17); contract: Index (package ontimeref17).
-/
import Derived.Test.YteknhnnlhhgppaaDoorRef17
namespace Go.Proofs.YteknhnnlhhgppaaDoor
set_option linter.unusedVariables false
set_option linter.unusedSimpArgs false
open Go.RowKit
set_option maxRecDepth 100000

/-- a list of declarations (name, length) at an address -/
structure ArrsAt (w : World) (a : Option Addr) (l : List (ByteArray × Int)) : Prop where
  fits : l.length ≤ 9223372036854775807
  sizes : ∀ p ∈ l, p.1.size ≤ 9223372036854775807
  at_ : l.length = 0 ∨ ∃ b off, a = some ⟨b, off, none⟩ ∧ ∀ (i : Nat) (p : ByteArray × Int), l[i]? = some p → w.cell? ⟨b, off + i * 2, none⟩ = some (.string p.1) ∧ w.cell? ⟨b, off + i * 2 + 1, none⟩ = some (.int .i64 p.2)
theorem ArrsAt.below {w w' : World} {a : Option Addr} {l : List (ByteArray × Int)} (h : ArrsAt w a l) (hB : Below w.heap.size w w') : ArrsAt w' a l := by
  refine ⟨h.fits, h.sizes, ?_⟩
  rcases h.at_ with h0 | ⟨b, off, ha, hk⟩
  · exact .inl h0
  · refine .inr ⟨b, off, ha, fun i p hp => ?_⟩
    obtain ⟨h1, h2⟩ := hk i p hp
    exact ⟨(hB.cell (p := ⟨b, _, none⟩) (World.block_lt_of_cell? w _ h1)).trans h1, (hB.cell (p := ⟨b, _, none⟩) (World.block_lt_of_cell? w _ h2)).trans h2⟩
/-- the index of a name among the declarations, from a place on; or -1 -/
def idxFrom (name : ByteArray) : List (ByteArray × Int) → Nat → Int
  | [], _ => -1
  | p :: l, k => if p.1.toList = name.toList then (k : Int) else idxFrom name l (k + 1)
def idx (l : List (ByteArray × Int)) (name : ByteArray) : Int := idxFrom name l 0
example : idx [(⟨#[2]⟩, 4)] ⟨#[2]⟩ = 0 ∧ idx [] ⟨#[2]⟩ = -1 := ⟨by simp [idx, idxFrom], rfl⟩
theorem idxFrom_drop {name : ByteArray} {l : List (ByteArray × Int)} {k : Nat} {p : ByteArray × Int} (h : l[k]? = some p) : idxFrom name (l.drop k) k = if p.1.toList = name.toList then (k : Int) else idxFrom name (l.drop (k + 1)) (k + 1) := by
  obtain ⟨hk, rfl⟩ := List.getElem?_eq_some_iff.1 h
  rw [List.drop_eq_getElem_cons hk]
  rfl

end Go.Proofs.YteknhnnlhhgppaaDoor
