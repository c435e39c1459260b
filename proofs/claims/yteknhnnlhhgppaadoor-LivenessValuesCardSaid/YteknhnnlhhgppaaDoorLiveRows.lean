/-
  Small laws of layer 19: equal lists; rows of rows; a store of what is there.
-/
import Derived.Test.YteknhnnlhhgppaaDoorLiveEq
import Derived.Test.YteknhnnlhhgppaaDoorLiveOf
namespace Go.Proofs.YteknhnnlhhgppaaDoor
set_option linter.unusedVariables false
set_option linter.unusedSimpArgs false
open Go.RowKit
set_option maxRecDepth 100000
set_option maxHeartbeats 4000000

theorem intsSame_any (l : List Int) (va vb : Value) (w : World) (ha : IntsAt w va l) (hb : IntsAt w vb l) (hl : l.length ≤ 1000000) :
    Calls Tryd.prog 16 #[va, vb] w fun e w' => e = .returned (.bool true) ∧ Below w.heap.size w w' :=
  (intsEqual_any l l va vb w ha hb hl hl).mono fun e w' ⟨he, k, hk⟩ => ⟨by rw [he]; simp, by rw [hk]; exact ⟨rfl, rfl, rfl, Nat.le_refl _, fun _ _ => rfl⟩⟩
theorem below_draw1 {W w1 : World} (h : Below W.heap.size W w1) : Below W.heap.size W w1.drew := ⟨h.os, h.tape, h.output, h.size, h.block⟩
theorem setCell_self {w : World} {b o : Nat} {v : Value} (h : w.cell? ⟨b, o, none⟩ = some v) : w.setCell ⟨b, o, none⟩ v = w := by
  have e : (w.setCell ⟨b, o, none⟩ v).heap = w.heap := by
    apply Array.ext_getElem?
    intro i
    simp only [World.setCell, Array.getElem?_modify]
    by_cases hb : b = i
    · subst hb
      rw [if_pos rfl]
      unfold World.cell? at h
      cases hc : w.heap[b]? with
      | none => rfl
      | some x =>
        rw [hc] at h
        match x, h with
        | .cells c e2 fz, h =>
          simp only [Option.isSome_none, Bool.false_eq_true, if_false, Option.map_some] at h ⊢
          congr 2
          apply Array.ext_getElem?
          intro j
          rw [Array.getElem?_setIfInBounds]
          by_cases hj : o = j
          · subst hj
            have hlt : o < c.size := (Array.getElem?_eq_some_iff.1 h).1
            rw [if_pos rfl, if_pos hlt, h]
          · rw [if_neg hj]
    · rw [if_neg hb]
  have e2 : w.setCell ⟨b, o, none⟩ v = { w with heap := (w.setCell ⟨b, o, none⟩ v).heap } := rfl
  rw [e2, e]
theorem row_get {rows : List (Value × List Int)} {xs : List Nat} {j : Nat} (h : rows.map (·.2) = xs.map listB) (hj : j < xs.length) : ∃ u, rows[j]? = some (u, listB (xs.getD j 0)) := by
  have h1 : (rows.map (·.2))[j]? = some (listB (xs.getD j 0)) := by
    rw [h, List.getElem?_map, List.getElem?_eq_getElem hj, getD_at _ _ hj]
    rfl
  rw [List.getElem?_map] at h1
  obtain ⟨p, hp, hp2⟩ := Option.map_eq_some_iff.1 h1
  exact ⟨p.1, by rw [hp, ← hp2]⟩
theorem IRows.get {B : Nat} {w : World} {v u : Value} {rows : List (Value × List Int)} {l : List Int} {j : Nat} (h : IRows B w v rows) (hj : rows[j]? = some (u, l)) : IntsAt w u l :=
  (h.ri _ (List.mem_of_getElem? hj)).at_
theorem IRows.cellAt {B n c g j : Nat} {w : World} {u : Value} {rows : List (Value × List Int)} {l : List Int} (h : IRows B w (.slice (some ⟨g, 0, none⟩) n c) rows) (hj : rows[j]? = some (u, l)) : w.cell? ⟨g, j, none⟩ = some u :=
  own_cell h.ro (by rw [List.getElem?_map, hj]; rfl)
end Go.Proofs.YteknhnnlhhgppaaDoor
