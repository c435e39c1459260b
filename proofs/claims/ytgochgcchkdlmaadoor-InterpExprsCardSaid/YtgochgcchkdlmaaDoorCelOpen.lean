/-
  A list of the reference's cells that reads as data lies in memory as one.
-/
import Derived.Test.YtgochgcchkdlmaaDoorMemOpen
import Derived.Test.YtgochgcchkdlmaaDoorRef16
namespace Go.Proofs.YtgochgcchkdlmaaDoor
set_option linter.unusedVariables false
set_option linter.unusedSimpArgs false
open Go.ChangeShapes Go.WideShapes Go.ChangeAt Go.RowKit
set_option maxRecDepth 100000

theorem cellsCel : Tryd.prog.cellsOf 54 = 3 := by kernel_rfl
theorem cellsBool : Tryd.prog.cellsOf 4 = 1 := by kernel_rfl
theorem cellsRow16 : Tryd.prog.cellsOf 30 = 1 := by kernel_rfl
section
variable {H : Type} {enc : TypeId × Value → H} {w : World} {base : Nat} {sp : Nat → Bool} {held : Bool}
theorem cel_open {fuel : Nat} {cs : List Value} {x : DataW H × List MemPlace} (h : DataW.trod enc Tryd.prog w base sp held fuel 54 cs = some x) :
    ∃ (y : Cel) (ra : Option Addr) (rc : Nat), cs = [.string y.name, .bool y.arr, .slice ra y.l.length rc] ∧ WordsAt w ra y.l ∧ y.name.size ≤ 9223372036854775807 := by
  obtain ⟨xs, n, _, rfl, hl, hxl, hf⟩ := DataW.trod_struct Tryd.underlying54 h
  rw [cellsCel] at hl
  match cs, hl with
  | [c0, c1, c2], _ =>
    match xs, hxl with
    | [y0, y1, y2], _ =>
      have h0 : DataW.trod enc Tryd.prog w base sp held n 9 (([c0, c1, c2].drop 0).take (Tryd.prog.cellsOf 9)) = [y0, y1, y2][0]? := hf 0 _ rfl
      have h1 : DataW.trod enc Tryd.prog w base sp held n 4 (([c0, c1, c2].drop 1).take (Tryd.prog.cellsOf 4)) = [y0, y1, y2][1]? := hf 1 _ rfl
      have h2 : DataW.trod enc Tryd.prog w base sp held n 30 (([c0, c1, c2].drop 2).take (Tryd.prog.cellsOf 30)) = [y0, y1, y2][2]? := hf 2 _ rfl
      rw [cellsNode2] at h0
      rw [cellsBool] at h1
      rw [cellsRow16] at h2
      simp only [List.drop_zero, List.drop_succ_cons, List.take_succ_cons, List.take_zero, List.getElem?_cons_zero, List.getElem?_cons_succ] at h0 h1 h2
      obtain ⟨s, hs, _, ws⟩ := DataW.trod_string Tryd.underlying9 h0
      obtain ⟨m, hm, _⟩ := DataW.trod_bool Tryd.underlying4 h1
      obtain ⟨ra, l, rc, hr, _, hw⟩ := words_open h2
      cases hs; cases hm; cases hr
      exact ⟨⟨s, m, l⟩, ra, rc, rfl, hw, le_max ws⟩
theorem open_cels {r : Reach} {b0 : Nat} {v : Value} {d : DataW H} {p : List MemPlace} (hv : Value.okWide Tryd.prog w r b0 43 v) (h : DataW.Trod enc Tryd.prog w base sp held 43 v d p) :
    ∃ (a : Option Addr) (l : List Cel) (c : Nat), v = .slice a l.length c ∧ CelsAt w a l := by
  obtain ⟨a0, len0, cap0, rfl⟩ := okWide_slice Tryd.underlying43 hv
  obtain ⟨fuel, hf⟩ := h
  obtain ⟨a, len, cap, n, e, hlen, _, hk⟩ := rows_nil Tryd.underlying43 cellsCel (by omega) hf
  have e : [Value.slice a0 len0 cap0] = [.slice a len cap] := e
  injection e with e
  obtain ⟨l, rfl, h1, h2⟩ := row_build (a := a) (len := len) (size := 3) (P := fun b o (y : Cel) => ∃ ra rc, CelAt w b o y ra rc) (fun i hi => by
    obtain ⟨ab, ao, ha, cs', y, hcell, ht⟩ := hk i hi
    obtain ⟨z, ra, rc, rfl, hw, hs⟩ := cel_open ht
    exact ⟨ab, ao, ha, z, ra, rc, hcell 0 (by omega), hcell 1 (by omega), hcell 2 (by omega), hw, hs⟩)
  refine ⟨a, l, cap, e, hlen, fun k d hkd => ?_⟩
  rcases h1 with h1 | ⟨b, off, ha, hc⟩
  · have := (List.getElem?_eq_some_iff.1 hkd).1; omega
  · obtain ⟨ra, rc, hq⟩ := hc k d hkd
    exact ⟨b, off, ra, rc, ha, hq⟩
end
end Go.Proofs.YtgochgcchkdlmaaDoor
