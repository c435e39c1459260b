/-
  What reads as a program: the children of its tasks' bodies lie within their room.
-/
import Derived.Test.YtgochgcchkdlmaaDoorOpens
import Derived.Test.YtgochgcchkdlmaaDoorInBody
namespace Go.Proofs.YtgochgcchkdlmaaDoor
set_option linter.unusedVariables false
set_option linter.unusedSimpArgs false
open Go.ChangeShapes Go.WideShapes Go.ChangeAt Go.RowKit
set_option maxRecDepth 100000

section
variable {H : Type} {enc : TypeId × Value → H} {w : World} {base : Nat} {sp : Nat → Bool} {held : Bool}
theorem nodes_cap {fuel len cap : Nat} {a : Option Addr} {x : DataW H × List MemPlace} (h : DataW.trod enc Tryd.prog w base sp held fuel 48 [.slice a len cap] = some x) : len ≤ cap := by
  rcases DataW.trod_slice Tryd.underlying48 h with ⟨h4, _⟩ | ⟨a, len, cap, elems, rest, n', _, h4, _, _, hlc, _⟩
  · simp only [List.cons.injEq, Value.slice.injEq, and_true] at h4
    omega
  · simp only [List.cons.injEq, Value.slice.injEq, and_true] at h4
    omega
theorem tsks_body {fuel : Nat} {a : Option Addr} {l : List Tsk} {c : Nat} {x : DataW H × List MemPlace} (h : DataW.trod enc Tryd.prog w base sp held fuel 23 [.slice a l.length c] = some x) : BodyCap w a l := by
  intro i hi b off p ha hcell
  obtain ⟨a', len, cap, n, h4, hlen, hk⟩ := rows_open Tryd.underlying23 cellsTsk (by omega) h
  simp only [List.cons.injEq, Value.slice.injEq, and_true] at h4
  obtain ⟨rfl, rfl, rfl⟩ := h4
  obtain ⟨ab, ao, ha', cs', y, hc, ht⟩ := hk i hi
  rw [ha] at ha'
  cases ha'
  obtain ⟨xs, m, _, rfl, hl, hxl, hf⟩ := DataW.trod_struct Tryd.underlying52 ht
  rw [cellsTsk] at hl
  obtain ⟨c0, c1, c2, c3, c4, c5, c6, c7, rfl⟩ := list8 hl
  match xs, hxl with
  | [y0, y1, y2, y3, y4], _ =>
    have h4 : DataW.trod enc Tryd.prog w base sp held m 50 (([c0, c1, c2, c3, c4, c5, c6, c7].drop 4).take (Tryd.prog.cellsOf 50)) = [y0, y1, y2, y3, y4][4]? := hf 4 _ rfl
    rw [cellsNode] at h4
    simp only [List.drop_zero, List.drop_succ_cons, List.take_succ_cons, List.take_zero, List.take_nil, List.getElem?_cons_zero, List.getElem?_cons_succ] at h4
    obtain ⟨zs, m2, _, _, _, hzl, hg⟩ := DataW.trod_struct Tryd.underlying50 h4
    match zs, hzl with
    | [z0, z1, z2, z3], _ =>
      have h7 : DataW.trod enc Tryd.prog w base sp held m2 48 (([c4, c5, c6, c7].drop 3).take (Tryd.prog.cellsOf 48)) = [z0, z1, z2, z3][3]? := hg 3 _ rfl
      rw [cellsNode3] at h7
      simp only [List.drop_zero, List.drop_succ_cons, List.take_succ_cons, List.take_zero, List.getElem?_cons_zero, List.getElem?_cons_succ] at h7
      have e := (hc 7 (by omega)).symm.trans (hcell 7 (by omega))
      have e : some c7 = some (Value.slice p.ka (l.getD i Tsk.none).body.len p.kc) := e
      cases e
      exact nodes_cap h7
theorem open_prog_body {r : Reach} {b0 : Nat} {v : Value} {d : DataW H} {p : List MemPlace} (hv : Value.okWide Tryd.prog w r b0 25 v) (h : DataW.Trod enc Tryd.prog w base sp held 25 v d p) :
    ∃ (q : Prg) (sa : Option Addr) (sc : Nat) (ta : Option Addr) (tc : Nat), v = q.val sa sc ta tc ∧ PrgAt w q sa ta ∧ BodyCap w ta q.tasks := by
  obtain ⟨q, sa, sc, ta, tc, rfl, hr⟩ := open_prog hv h
  refine ⟨q, sa, sc, ta, tc, rfl, hr, ?_⟩
  obtain ⟨fuel, hf⟩ := h
  obtain ⟨xs, n, _, _, hl, hxl, hff⟩ := DataW.trod_struct Tryd.underlying25 hf
  match xs, hxl with
  | [y0, y1], _ =>
    have h1 : DataW.trod enc Tryd.prog w base sp held n 23 (((Value.agg #[.slice sa q.shared.length sc, .slice ta q.tasks.length tc]).cells.toList.drop 1).take (Tryd.prog.cellsOf 23)) = [y0, y1][1]? := hff 1 _ rfl
    rw [cellsTsks] at h1
    simp only [Value.cells, List.drop_zero, List.drop_succ_cons, List.take_succ_cons, List.take_zero, List.getElem?_cons_zero, List.getElem?_cons_succ] at h1
    exact tsks_body h1
end
end Go.Proofs.YtgochgcchkdlmaaDoor
