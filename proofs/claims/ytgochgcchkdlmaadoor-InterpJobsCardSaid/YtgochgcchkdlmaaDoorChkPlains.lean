/-
  ChkPlains: several texts in one (ChkBlock, ChkOnly, ChkSwap, ChkPlain, ChkTwiceP).
-/
import Derived.Test.YtgochgcchkdlmaaDoorChkRows
import Derived.Test.YtgochgcchkdlmaaDoorMemSet
import Derived.Deep.RegionHeld3
/-
  Contract: block (package ontimelaw15).
-/
namespace Go.Proofs.YtgochgcchkdlmaaDoor
set_option linter.unusedVariables false
set_option linter.unusedSimpArgs false
open Go.RowKit
set_option maxRecDepth 100000
set_option maxHeartbeats 4000000

/-- a path's row, read -/
theorem PathV.row {N : Nat} {w : World} {a : Option Addr} {c : Nat} {p : List Int} (h : PathV N w (.slice a p.length c) p) : IRow w a p := by
  refine ⟨own_size h, fun i hi => ?_⟩
  obtain ⟨b, rfl, _, _⟩ := own_at h (by omega)
  refine ⟨b, 0, rfl, ?_⟩
  rw [Nat.zero_add]
  refine own_get h ?_
  unfold ints
  simp [hi]
/-- what the rows of faults hold, cell for cell -/
theorem FltsAt.cell {N g m cap j : Nat} {w : World} {L : List FltP} {u : Value} (h : FltsAt N w (.slice (some ⟨g, 0, none⟩) m cap) L) (hu : (L.flatMap FltP.cells)[j]? = some u) : w.cell? ⟨g, j, none⟩ = some u := own_get h.ro hu
end Go.Proofs.YtgochgcchkdlmaaDoor

/-
  Contract: only (package ontimelaw15).
-/
namespace Go.Proofs.YtgochgcchkdlmaaDoor
set_option linter.unusedVariables false
set_option linter.unusedSimpArgs false
open Go.RowKit
set_option maxRecDepth 100000
set_option maxHeartbeats 8000000

/-- a row of paths -/
def PathsAt (w : World) (a : Option Addr) (ps : List (List Int)) : Prop := ps.length ≤ 9223372036854775807 ∧ ∀ i, i < ps.length → ∃ b off pa pc, a = some ⟨b, off, none⟩ ∧ w.cell? ⟨b, off + i, none⟩ = some (.slice pa (ps.getD i []).length pc) ∧ IRow w pa (ps.getD i [])
theorem PathsAt.below {w w' : World} {a : Option Addr} {ps : List (List Int)} (h : PathsAt w a ps) (hB : Below w.heap.size w w') : PathsAt w' a ps :=
  ⟨h.1, fun i hi => by obtain ⟨b, off, pa, pc, ha, hc, hr⟩ := h.2 i hi; exact ⟨b, off, pa, pc, ha, (hB.cell (p := ⟨b, off + i, none⟩) (World.block_lt_of_cell? w _ hc)).trans hc, hr.below hB⟩⟩
end Go.Proofs.YtgochgcchkdlmaaDoor

/-
  Contract: swap (package ontimelaw15): a program with one task replaced.
-/
namespace Go.Proofs.YtgochgcchkdlmaaDoor
set_option linter.unusedVariables false
set_option linter.unusedSimpArgs false
open Go.RowKit
set_option maxRecDepth 100000
set_option maxHeartbeats 8000000

/-- the cells of a row that came in, as a list -/
theorem src_cells {w : World} {b off m size : Nat} (h : ∀ j, j < m * size → ∃ u, w.cell? ⟨b, off + j, none⟩ = some u ∧ u.oneCell' = true) :
    ∃ news : List Value, Src w (some ⟨b, off, none⟩) m size news ∧ (∀ j, j < m * size → w.cell? ⟨b, off + j, none⟩ = news[j]?) ∧ ∀ u ∈ news, u.oneCell' = true := by
  have add : ∀ j, (⟨b, off, none⟩ : Addr).add j = ⟨b, off + j, none⟩ := fun j => by
    unfold Addr.add
    by_cases h0 : j = 0 <;> simp [h0]
  have hm : ∀ j, ∃ u : Value, j < m * size → w.cell? ⟨b, off + j, none⟩ = some u ∧ u.oneCell' = true := fun j => by
    by_cases hj : j < m * size
    · obtain ⟨u, hu⟩ := h j hj
      exact ⟨u, fun _ => hu⟩
    · exact ⟨.bool false, fun h => absurd h hj⟩
  obtain ⟨f, hf⟩ := Classical.axiomOfChoice hm
  refine ⟨(List.range (m * size)).map f, ⟨by simp, .inr ⟨_, rfl, fun j u hu => ?_⟩⟩, fun j hj => ?_, fun u hu => ?_⟩
  · rw [List.getElem?_map] at hu
    obtain ⟨k, hk, rfl⟩ := Option.map_eq_some_iff.1 hu
    obtain ⟨hj, rfl⟩ := List.getElem?_eq_some_iff.1 hk
    have hj' : j < m * size := by simpa using hj
    rw [add]
    simp only [List.getElem_range]
    exact (hf j hj').1
  · rw [(hf j hj).1]
    simp [hj]
  · obtain ⟨k, hk, rfl⟩ := List.mem_map.1 hu
    exact (hf k (by simpa using hk)).2
theorem tsk_ones {t : Tsk} {p : TskPlace} {o : Nat} {u : Value} (h : (t.cells p)[o]? = some u) : u.oneCell' = true := by
  unfold Tsk.cells at h
  match o, h with
  | 0, h => cases h; rfl
  | 1, h => cases h; rfl
  | 2, h => cases h; rfl
  | 3, h => cases h; rfl
  | 4, h => cases h; rfl
  | 5, h => cases h; rfl
  | 6, h => cases h; rfl
  | 7, h => cases h; rfl
theorem TsksAt.src {w : World} {b off : Nat} {l : List Tsk} (h : TsksAt w (some ⟨b, off, none⟩) l) :
    ∃ news : List Value, Src w (some ⟨b, off, none⟩) l.length 8 news ∧ (∀ j, j < l.length * 8 → w.cell? ⟨b, off + j, none⟩ = news[j]?) ∧ ∀ u ∈ news, u.oneCell' = true :=
  src_cells fun j hj => by
    obtain ⟨b', off', p, ha, hc, _⟩ := h.2 (j / 8) (by omega)
    cases ha
    have := hc (j % 8) (by omega)
    rw [show off + j / 8 * 8 + j % 8 = off + j by omega] at this
    have hs : j % 8 < ((l.getD (j / 8) Tsk.none).cells p).size := by show j % 8 < 8; omega
    rw [Array.getElem?_eq_getElem hs] at this
    exact ⟨_, this, tsk_ones (Array.getElem?_eq_getElem hs)⟩
end Go.Proofs.YtgochgcchkdlmaaDoor

/-
  Plain facts of the faults: programs without faults, a task replaced, a name repeated. No walk here.
-/
namespace Go.Proofs.YtgochgcchkdlmaaDoor
set_option linter.unusedVariables false
set_option linter.unusedSimpArgs false
open Go.RowKit

theorem tasksF_nil {shared : List ByteArray} : ∀ {l : List Tsk} {so : List ByteArray} {i : Nat}, tasksF shared so i l = [] → ∀ j (h : j < l.length), memB (so ++ (l.take j).map (·.name)) l[j].name = false ∧ taskF shared l[j] = []
  | t :: l, so, i, h, j, hj => by
    rw [tasksF, List.append_eq_nil_iff, List.map_eq_nil_iff, List.append_eq_nil_iff] at h
    obtain ⟨⟨h1, h2⟩, h3⟩ := h
    cases j with
    | zero =>
      refine ⟨?_, h2⟩
      cases hb : memB so t.name with
      | false => simpa using hb
      | true => rw [hb] at h1; cases h1
    | succ j =>
      have := tasksF_nil h3 j (by simpa using hj)
      simpa using this
theorem okP_parts {p : Prg} (h : okP p = true) : prgOk p = true ∧ declF (fun _ => false) [] (p.shared.map (·.name)) = [] ∧ tasksF (p.shared.map (·.name)) [] 0 p.tasks = [] := by
  unfold okP at h
  rw [Bool.and_eq_true, List.isEmpty_iff] at h
  obtain ⟨h1, h2⟩ := h
  unfold checkE at h2
  rw [if_pos h1] at h2
  unfold checkF at h2
  rw [List.append_eq_nil_iff, List.map_eq_nil_iff] at h2
  exact ⟨h1, h2⟩
end Go.Proofs.YtgochgcchkdlmaaDoor

/-
  Plain law of CheckTwice: a declaration that is repeated is the only fault. No walk here.
-/
namespace Go.Proofs.YtgochgcchkdlmaaDoor
set_option linter.unusedVariables false
set_option linter.unusedSimpArgs false
open Go.RowKit

theorem taskF_nil {shared : List ByteArray} {t : Tsk} (h : taskF shared t = []) : declF (memB shared) [] (t.vars ++ t.arrays.map (·.name)) = [] ∧ faultsT ⟨shared, t.vars, t.arrays.map (·.name)⟩ t.body [] false [] [] = [] := by
  unfold taskF at h
  exact List.append_eq_nil_iff.1 h
theorem task_in {p : Prg} {i : Nat} (h : okP p = true) (hi : i < p.tasks.length) : memB ((p.tasks.take i).map (·.name)) (p.tasks.getD i Tsk.none).name = false ∧ taskF (p.shared.map (·.name)) (p.tasks.getD i Tsk.none) = [] := by
  obtain ⟨_, _, h3⟩ := okP_parts h
  have := tasksF_nil h3 i hi
  rw [List.nil_append] at this
  rw [show p.tasks.getD i Tsk.none = p.tasks[i] by simp [hi]]
  exact this
end Go.Proofs.YtgochgcchkdlmaaDoor
