/-
  Rows of faults, read wherever they lie (a slice of a slice too).
-/
import Derived.Test.YtnegdmhmhdojbaaDoorChkPlains
namespace Go.Proofs.YtnegdmhmhdojbaaDoor
set_option linter.unusedVariables false
set_option linter.unusedSimpArgs false
open Go.RowKit

/-- a fault's four cells and its path -/
def FltAt (w : World) (b off : Nat) (f : FltP) : Prop :=
  w.cell? ⟨b, off, none⟩ = some (.int .i64 f.task) ∧ w.cell? ⟨b, off + 1, none⟩ = some f.pv ∧ w.cell? ⟨b, off + 2, none⟩ = some (.int .i64 f.flt.err) ∧ w.cell? ⟨b, off + 3, none⟩ = some (.string f.flt.name) ∧
    ∃ pa pc, f.pv = .slice pa f.flt.path.length pc ∧ IRow w pa f.flt.path
/-- a row of faults -/
def FRow (w : World) (a : Option Addr) (L : List FltP) : Prop := ∀ j (h : j < L.length), ∃ b off, a = some ⟨b, off, none⟩ ∧ FltAt w b (off + j * 4) L[j]
theorem FltAt.below {w w' : World} {b off : Nat} {f : FltP} (h : FltAt w b off f) (hB : Below w.heap.size w w') : FltAt w' b off f := by
  obtain ⟨h0, h1, h2, h3, pa, pc, h4, h5⟩ := h
  exact ⟨cell_below hB h0, cell_below hB h1, cell_below hB h2, cell_below hB h3, pa, pc, h4, h5.below hB⟩
theorem FRow.below {w w' : World} {a : Option Addr} {L : List FltP} (h : FRow w a L) (hB : Below w.heap.size w w') : FRow w' a L := fun j hj => by
  obtain ⟨b, off, ha, hf⟩ := h j hj
  exact ⟨b, off, ha, hf.below hB⟩
theorem FltsAt.frow {N c : Nat} {w : World} {a : Option Addr} {L : List FltP} (h : FltsAt N w (.slice a L.length c) L) : FRow w a L := fun j hj => by
  obtain ⟨g, rfl, _, _⟩ := own_at h.ro (by omega)
  obtain ⟨r0, r1, r2, r3⟩ := h.four hj
  obtain ⟨pa, pc, hv⟩ := own_val (h.ri L[j] (List.getElem_mem hj))
  have hp := h.ri L[j] (List.getElem_mem hj)
  rw [hv] at hp
  exact ⟨g, 0, rfl, by rw [Nat.zero_add]; exact r0, by rw [Nat.zero_add]; exact r1, by rw [Nat.zero_add]; exact r2, by rw [Nat.zero_add]; exact r3, pa, pc, hv, PathV.row hp⟩
/-- the row without its first fault -/
theorem FRow.tail {w : World} {b off : Nat} {f : FltP} {L : List FltP} (h : FRow w (some ⟨b, off, none⟩) (f :: L)) : FRow w (some ⟨b, off + 4, none⟩) L := fun j hj => by
  obtain ⟨b', off', ha, hf⟩ := h (j + 1) (by simpa using hj)
  cases ha
  refine ⟨b, off + 4, rfl, ?_⟩
  rw [show off + 4 + j * 4 = off + (j + 1) * 4 by omega]
  simpa using hf
end Go.Proofs.YtnegdmhmhdojbaaDoor
