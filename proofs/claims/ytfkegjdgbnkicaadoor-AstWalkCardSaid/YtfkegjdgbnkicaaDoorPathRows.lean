/-
  Rows of paths (slices of slices of ints): owned ones, that grow by appending, and ones that are read. No function of the program is walked here.
-/
import Derived.Test.YtfkegjdgbnkicaaDoorPath
import Derived.Test.YtfkegjdgbnkicaaDoorCounts
import Derived.Maps.AppendAt
namespace Go.Proofs.YtfkegjdgbnkicaaDoor
open Go.RowKit

theorem Tryd.infoInts : (Tryd.prog.info? 34).map (fun i => (i.zero, i.size, i.bytes)) = some (some (.slice none 0 0), 1, 24) := by kernel_rfl

/-- the paths of a tree, in pre-order -/
def pathsOf (t : Tree) : List (List Int) := (t.items []).map (·.1)
/-- the paths up to a child -/
def pathsTo (t : Tree) (j : Nat) : List (List Int) := [] :: concatTo (fun i => (pathsOf (t.kid i)).map ((i : Int) :: ·)) j
theorem pathsOf_eq (t : Tree) : pathsOf t = pathsTo t t.len := by
  unfold pathsOf pathsTo
  rw [its_eq, List.map_cons, concatTo_map]
  congr 1
  refine concatTo_congr fun i _ => ?_
  simp [pathsOf, List.map_map, Function.comp_def]
theorem pathsTo_succ (t : Tree) (j : Nat) : pathsTo t (j + 1) = pathsTo t j ++ (pathsOf (t.kid j)).map ((j : Int) :: ·) := by
  unfold pathsTo; rw [concatTo_succ]; rfl
theorem pathsOf_len (t : Tree) : (pathsOf t).length = t.size := by unfold pathsOf; rw [List.length_map, its_length]
theorem pathsOf_ne (t : Tree) : pathsOf t ≠ [] := by
  intro h; have := pathsOf_len t; rw [h] at this; have := Tree.size_pos t; simp at *; omega
theorem pathsOf_depth {t : Tree} {p : List Int} (h : p ∈ pathsOf t) : p.length + 1 ≤ t.depth := by
  obtain ⟨x, hx, rfl⟩ := List.mem_map.1 h
  exact path_le hx
theorem pathsTo_len_le (t : Tree) (j : Nat) (hj : j ≤ t.len) : (pathsTo t j).length ≤ t.size := by
  have h : ∀ d, (pathsTo t j).length ≤ (pathsTo t (j + d)).length := by
    intro d
    induction d with
    | zero => exact Nat.le_refl _
    | succ d ih => rw [← Nat.add_assoc, pathsTo_succ, List.length_append]; omega
  have := h (t.len - j)
  rw [show j + (t.len - j) = t.len by omega, ← pathsOf_eq, pathsOf_len] at this
  exact this

/-- a row of paths of the call's own: the slices that lie in it, each with its path in another block -/
structure PRowV (base : Nat) (w : World) (v : Value) (ps : List (List Int)) (vs : List Value) : Prop where
  own : w.ownsRow base 34 1 v ps.length vs
  each : ∀ (i : Nat) (p : List Int) (u : Value), ps[i]? = some p → vs[i]? = some u → PathIn (fun k => base ≤ k ∧ v.ownBlock ≠ some k) w u p
def PRow (base : Nat) (w : World) (v : Value) (ps : List (List Int)) : Prop := ∃ vs, PRowV base w v ps vs

theorem prow_own_lt {base : Nat} {w : World} {v : Value} {ps : List (List Int)} {vs : List Value} (h : PRowV base w v ps vs) {g : Nat} (hg : v.ownBlock = some g) : base ≤ g ∧ g < w.heap.size := by
  rcases ownsRow_form h.own with ⟨rfl, _⟩ | ⟨g', cap, rfl, h1, h2, _⟩
  · cases hg
  · have : g' = g := by simpa [Value.ownBlock] using hg
    subst this; exact ⟨h1, h2⟩
theorem PRowV.len {base : Nat} {w : World} {v : Value} {ps : List (List Int)} {vs : List Value} (h : PRowV base w v ps vs) : vs.length = ps.length := by
  have := h.own.1; omega
theorem PRowV.below {base : Nat} {w w2 : World} {v : Value} {ps : List (List Int)} {vs : List Value} (h : PRowV base w v ps vs) (hB : Below w.heap.size w w2) : PRowV base w2 v ps vs :=
  ⟨ownsRow_below h.own hB, fun i p u hp hu => (h.each i p u hp hu).below hB⟩
theorem PRowV.base {base base' : Nat} {w : World} {v : Value} {ps : List (List Int)} {vs : List Value} (h : PRowV base w v ps vs) (hb : base' ≤ base) : PRowV base' w v ps vs :=
  ⟨ownsRow_base h.own hb, fun i p u hp hu => (h.each i p u hp hu).move (Nat.le_refl _) (fun _ _ _ => rfl) (fun _ hk _ => ⟨Nat.le_trans hb hk.1, hk.2⟩)⟩
theorem PRowV.step {base : Nat} {w w2 : World} {v v' u : Value} {ps : List (List Int)} {vs : List Value} {p : List Int} (h : PRowV base w v ps vs) (hp : PathIn (fun k => base ≤ k ∧ v.ownBlock ≠ some k) w u p)
    (hown : w2.ownsRow base 34 1 v' (ps.length + 1) (vs ++ [u])) (hg : w.grownBy w2 v.ownBlock) (hpl : v'.ownBlock = v.ownBlock ∨ v'.ownBlock = some w.heap.size) : PRowV base w2 v' (ps ++ [p]) (vs ++ [u]) := by
  have mv : ∀ {u p}, PathIn (fun k => base ≤ k ∧ v.ownBlock ≠ some k) w u p → PathIn (fun k => base ≤ k ∧ v'.ownBlock ≠ some k) w2 u p := by
    intro u p h
    refine h.move hg.size (fun k hk hl => hg.block k hl (fun e => hk.2 e.symm)) (fun k hk hl => ⟨hk.1, ?_⟩)
    rcases hpl with e | e <;> rw [e]
    · exact hk.2
    · intro e2; have : w.heap.size = k := by simpa using e2
      omega
  have hl := h.len
  refine ⟨by rw [List.length_append]; exact hown, fun i q x hq hx => ?_⟩
  by_cases hi : i < ps.length
  · rw [List.getElem?_append_left hi] at hq
    rw [List.getElem?_append_left (by omega)] at hx
    exact mv (h.each i q x hq hx)
  · rw [List.getElem?_append_right (by omega)] at hq hx
    rw [hl] at hx
    match hd : i - ps.length, hq, hx with
    | 0, hq, hx =>
      simp at hq hx
      subst hq hx
      exact mv hp
    | n + 1, hq, hx => simp at hq

/-- a row of paths that is read -/
def LRow (S : Nat → Prop) (w : World) (v : Value) (ps : List (List Int)) : Prop :=
  ∃ g cap, v = .slice (some ⟨g, 0, none⟩) ps.length cap ∧ S g ∧ g < w.heap.size ∧ ∀ (i : Nat) (p : List Int), ps[i]? = some p → ∃ u, w.cell? ⟨g, i, none⟩ = some u ∧ PathIn S w u p
theorem LRow.move {S S' : Nat → Prop} {w w' : World} {v : Value} {ps : List (List Int)} (h : LRow S w v ps) (hsz : w.heap.size ≤ w'.heap.size) (h1 : ∀ k, S k → k < w.heap.size → w'.heap[k]? = w.heap[k]?) (h2 : ∀ k, S k → k < w.heap.size → S' k) : LRow S' w' v ps := by
  obtain ⟨g, cap, hv, hS, hl, hk⟩ := h
  refine ⟨g, cap, hv, h2 g hS hl, Nat.lt_of_lt_of_le hl hsz, fun i p hp => ?_⟩
  obtain ⟨u, hu, hpu⟩ := hk i p hp
  exact ⟨u, (World.cell?_of_block (a := ⟨g, _, none⟩) (h1 g hS hl)).trans hu, hpu.move hsz h1 h2⟩
theorem PRowV.read {base : Nat} {w : World} {v : Value} {ps : List (List Int)} {vs : List Value} (h : PRowV base w v ps vs) (hne : ps ≠ []) : LRow (fun k => base ≤ k ∧ k < w.heap.size) w v ps := by
  rcases ownsRow_form h.own with ⟨_, h0⟩ | ⟨g, cap, rfl, hg, hl, _⟩
  · exact absurd (List.length_eq_zero_iff.1 h0) hne
  · refine ⟨g, cap, rfl, ⟨hg, hl⟩, hl, fun i p hp => ?_⟩
    have hi : i < ps.length := (List.getElem?_eq_some_iff.1 hp).1
    have hlen := h.len
    obtain ⟨u, hu⟩ : ∃ u, vs[i]? = some u := ⟨_, List.getElem?_eq_getElem (by omega)⟩
    refine ⟨u, ?_, (h.each i p u hp hu).move (Nat.le_refl _) (fun _ _ _ => rfl) (fun k hk hl => ⟨hk.1, hl⟩)⟩
    have := h.own.cells (g := g) rfl i u hu
    rwa [show (⟨g, 0, none⟩ : Addr).add i = ⟨g, i, none⟩ by unfold Addr.add; split <;> simp_all] at this
end Go.Proofs.YtfkegjdgbnkicaaDoor
