/-
  What reads as a node has a slice of children within its capacity.
-/
import Derived.Test.YtfkegjdgbnkicaaDoorSigns
namespace Go.Proofs.YtfkegjdgbnkicaaDoor
open Go.RowKit
section
variable {H : Type} {enc : TypeId × Value → H} {w : World} {base : Nat} {sp : Nat → Bool} {held : Bool}
theorem node_cap {fuel : Nat} {k n : Int} {s : ByteArray} {a : Option Addr} {len cap : Nat} {x : DataW H × List MemPlace}
    (h : DataW.trod enc Tryd.prog w base sp held fuel 24 [.int .u8 k, .int .i64 n, .string s, .slice a len cap] = some x) : len ≤ cap := by
  obtain ⟨xs, m, hm, rfl, hl, hxl, hf⟩ := DataW.trod_struct Tryd.underlying24 h
  match xs, hxl with
  | [y0, y1, y2, y3], _ =>
    have h3 : DataW.trod enc Tryd.prog w base sp held m 22 (([Value.int .u8 k, .int .i64 n, .string s, .slice a len cap].drop 3).take (Tryd.prog.cellsOf 22)) = [y0, y1, y2, y3][3]? := hf 3 _ rfl
    rw [cellsNode3] at h3
    simp only [List.drop_zero, List.drop_succ_cons, List.take_succ_cons, List.take_zero, List.getElem?_cons_zero, List.getElem?_cons_succ] at h3
    rcases DataW.trod_slice Tryd.underlying22 h3 with ⟨h4, _⟩ | ⟨a', len', cap', elems, rest, n', hn', h4, _, hb, hlc, hcm, hel, hel2, _, _⟩
    · cases h4; exact Nat.le_refl _
    · cases h4; exact hlc
theorem open_node_cap {r : Reach} {b0 : Nat} {v : Value} {d : DataW H} {p : List MemPlace} (hv : Value.okWide Tryd.prog w r b0 24 v) (h : DataW.Trod enc Tryd.prog w base sp held 24 v d p) :
    ∃ (t : Tree) (a : Option Addr) (c : Nat), v = t.val a c ∧ Rep w t a ∧ t.len ≤ c := by
  obtain ⟨t, a, c, rfl, hr⟩ := open_node hv h
  obtain ⟨fuel, hf⟩ := h
  exact ⟨t, a, c, rfl, hr, node_cap (fuel := fuel) (by simpa [Value.cells] using hf)⟩
end
end Go.Proofs.YtfkegjdgbnkicaaDoor
