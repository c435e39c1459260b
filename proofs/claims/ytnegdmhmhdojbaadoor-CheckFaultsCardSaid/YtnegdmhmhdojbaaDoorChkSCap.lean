/-
  What reads as a program: its row of shared arrays lies within its room.
-/
import Derived.Test.YtnegdmhmhdojbaaDoorOpens
namespace Go.Proofs.YtnegdmhmhdojbaaDoor
set_option linter.unusedVariables false
set_option linter.unusedSimpArgs false
open Go.ChangeShapes Go.WideShapes Go.ChangeAt Go.RowKit
set_option maxRecDepth 100000

section
variable {H : Type} {enc : TypeId × Value → H} {w : World} {base : Nat} {sp : Nat → Bool} {held : Bool}
theorem open_prog_scap {r : Reach} {b0 : Nat} {v : Value} {d : DataW H} {p : List MemPlace} (hv : Value.okWide Tryd.prog w r b0 25 v) (h : DataW.Trod enc Tryd.prog w base sp held 25 v d p) :
    ∃ (q : Prg) (sa : Option Addr) (sc : Nat) (ta : Option Addr) (tc : Nat), v = q.val sa sc ta tc ∧ PrgAt w q sa ta ∧ q.shared.length ≤ sc := by
  obtain ⟨q, sa, sc, ta, tc, rfl, hr⟩ := open_prog hv h
  refine ⟨q, sa, sc, ta, tc, rfl, hr, ?_⟩
  obtain ⟨fuel, hf⟩ := h
  obtain ⟨xs, n, _, _, hl, hxl, hff⟩ := DataW.trod_struct Tryd.underlying25 hf
  match xs, hxl with
  | [y0, y1], _ =>
    have h1 : DataW.trod enc Tryd.prog w base sp held n 22 (((Value.agg #[.slice sa q.shared.length sc, .slice ta q.tasks.length tc]).cells.toList.drop 0).take (Tryd.prog.cellsOf 22)) = [y0, y1][0]? := hff 0 _ rfl
    rw [cellsArrs] at h1
    simp only [Value.cells, List.drop_zero, List.drop_succ_cons, List.take_succ_cons, List.take_zero, List.getElem?_cons_zero, List.getElem?_cons_succ] at h1
    rcases DataW.trod_slice Tryd.underlying22 h1 with ⟨h4, _⟩ | ⟨a, len, cap, elems, rest, n', _, h4, _, _, hlc, _⟩
    · simp only [List.cons.injEq, Value.slice.injEq, and_true] at h4
      omega
    · simp only [List.cons.injEq, Value.slice.injEq, and_true] at h4
      omega
end
end Go.Proofs.YtnegdmhmhdojbaaDoor
