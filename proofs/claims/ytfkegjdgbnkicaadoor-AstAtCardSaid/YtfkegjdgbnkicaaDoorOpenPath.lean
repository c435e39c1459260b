/-
  A slice of ints that came in, opened as a path.
-/
import Derived.Test.YtfkegjdgbnkicaaDoorTreeOpen
import Derived.Test.YtfkegjdgbnkicaaDoorTreeAt
import Derived.ChangeSlices
namespace Go.Proofs.YtfkegjdgbnkicaaDoor
open Go.ChangeShapes Go.WideShapes Go.ChangeAt Go.RowKit

theorem open_path {H : Type} {enc : TypeId × Value → H} {w : World} {r : Reach} {b0 base : Nat} {sp : Nat → Bool} {held : Bool} {v : Value} {d : DataW H} {p : List MemPlace}
    (hv : Value.okWide Tryd.prog w r b0 34 v) (h : DataW.Trod enc Tryd.prog w base sp held 34 v d p) : ∃ zs : List Int, PathAt w v zs := by
  obtain ⟨a, len, cap, rfl⟩ := okWide_slice Tryd.underlying34 hv
  obtain ⟨fuel, hf⟩ := h
  have hc : (Value.slice a len cap).cells.toList = [.slice a len cap] := rfl
  rw [hc] at hf
  rcases ChangeShapes.open_ints Tryd.underlying34 Tryd.underlying3 cellsNode1 hf with ⟨h1, _⟩ | ⟨a', len', cap', zs, h1, hb, hl, hm, hz, _, hcell, _⟩
  · cases h1
    exact ⟨[], .inl ⟨⟨none, 0, rfl⟩, rfl⟩⟩
  · cases h1
    by_cases h0 : len = 0
    · subst h0; exact ⟨[], .inl ⟨⟨_, _, rfl⟩, rfl⟩⟩
    · have hzl : len ≤ zs.length := by rw [hz]; split <;> omega
      have hspot : a'.spot = none := by
        have e0 := hcell 0 (by omega)
        rw [show a'.add 0 = a' by simp [Addr.add]] at e0
        cases hq : a'.spot with
        | none => rfl
        | some q =>
          unfold World.cell? at e0
          rw [hq] at e0
          split at e0 <;> simp at e0
      obtain ⟨ab, ao, asp⟩ := a'
      obtain rfl : asp = none := hspot
      have hc' : ∀ i, i < zs.length → w.cell? ⟨ab, ao + i, none⟩ = some (.int .i64 (zs.getD i 0)) := by
        intro i hi
        have := hcell i hi
        rwa [show (⟨ab, ao, none⟩ : Addr).add i = ⟨ab, ao + i, none⟩ by unfold Addr.add; split <;> simp_all] at this
      refine ⟨zs.take len, .inr ⟨ab, ao, cap, ?_, trivial, ?_, World.block_lt_of_cell? w _ (hc' 0 (by omega)), fun i hi => ?_⟩⟩
      · rw [List.length_take, Nat.min_eq_left hzl]
      · rw [List.length_take, Nat.min_eq_left hzl]; exact hl
      · have hi' : i < len := by rw [List.length_take, Nat.min_eq_left hzl] at hi; exact hi
        rw [hc' i (by omega)]
        congr 2
        rw [List.getD_eq_getElem?_getD, List.getD_eq_getElem?_getD, List.getElem?_take, if_pos hi']
end Go.Proofs.YtfkegjdgbnkicaaDoor
