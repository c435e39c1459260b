/-
  Plain law of CheckTasks: the faults of one task, alone and among others. No walk here.
-/
import Derived.Test.YtnegdmhmhdojbaaDoorChkPlain
namespace Go.Proofs.YtnegdmhmhdojbaaDoor
set_option linter.unusedVariables false
set_option linter.unusedSimpArgs false
open Go.RowKit

/-- the faults of one task in a program -/
def mineF (p : Prg) (i : Nat) : List TFlt := (checkE p).filter (fun f => decide (f.task = (i : Int)))
/-- whether an earlier task has the name -/
def twiceP (p : Prg) (i : Nat) : Bool := memB ((p.tasks.take i).map (·.name)) (p.tasks.getD i Tsk.none).name
theorem filter_mk {l : List Flt} {a b : Int} : (l.map (TFlt.mk a)).filter (fun f => decide (f.task = b)) = if a = b then l.map (TFlt.mk a) else [] := by
  by_cases e : a = b
  · rw [if_pos e]
    refine List.filter_eq_self.2 fun f hf => ?_
    obtain ⟨g, _, rfl⟩ := List.mem_map.1 hf
    simpa using e
  · rw [if_neg e]
    refine List.filter_eq_nil_iff.2 fun f hf => ?_
    obtain ⟨g, _, rfl⟩ := List.mem_map.1 hf
    simpa using e
theorem filter_tasksF (shared : List ByteArray) : ∀ (l : List Tsk) (so : List ByteArray) (i j : Nat), (tasksF shared so i l).filter (fun f => decide (f.task = ((i + j : Nat) : Int))) =
    if h : j < l.length then ((if memB (so ++ (l.take j).map (·.name)) l[j].name then [Flt.mk [] 8 l[j].name] else []) ++ taskF shared l[j]).map (TFlt.mk ((i + j : Nat) : Int)) else []
  | [], so, i, j => by simp [tasksF]
  | t :: l, so, i, 0 => by
    rw [tasksF, List.filter_append, filter_mk, if_pos (by simp)]
    have h := filter_none l (so ++ [t.name]) (i + 1) ((i : Nat) : Int) (by omega)
    rw [Nat.add_zero, h]
    simp
  | t :: l, so, i, j + 1 => by
    rw [tasksF, List.filter_append, filter_mk, if_neg (by omega), List.nil_append]
    have h := filter_tasksF shared l (so ++ [t.name]) (i + 1) j
    rw [show i + 1 + j = i + (j + 1) by omega] at h
    rw [h]
    by_cases hj : j < l.length
    · rw [dif_pos hj, dif_pos (by simpa using hj)]
      simp
    · rw [dif_neg hj, dif_neg (by simpa using hj)]
where
  filter_none : ∀ (l : List Tsk) (so : List ByteArray) (i : Nat) (b : Int), b < (i : Int) → (tasksF shared so i l).filter (fun f => decide (f.task = b)) = []
    | [], so, i, b, _ => by simp [tasksF]
    | t :: l, so, i, b, h => by
      rw [tasksF, List.filter_append, filter_mk, if_neg (by omega), List.nil_append]
      exact filter_none l (so ++ [t.name]) (i + 1) b (by omega)
theorem mineF_eq {p : Prg} {i : Nat} (hp : prgOk p = true) (hi : i < p.tasks.length) :
    mineF p i = ((if twiceP p i then [Flt.mk [] 8 (p.tasks.getD i Tsk.none).name] else []) ++ taskF (p.shared.map (·.name)) (p.tasks.getD i Tsk.none)).map (TFlt.mk (i : Int)) := by
  unfold mineF checkE
  rw [if_pos hp]
  unfold checkF twiceP
  rw [List.filter_append, filter_mk, if_neg (by omega), List.nil_append]
  have h := filter_tasksF (p.shared.map (·.name)) p.tasks [] 0 i
  rw [Nat.zero_add, dif_pos hi, List.nil_append] at h
  rw [h]
  simp [hi]
/-- one task alone -/
def aloneP (p : Prg) (i : Nat) : Prg := ⟨p.shared, [p.tasks.getD i Tsk.none]⟩
theorem alone_ok {p : Prg} {i : Nat} (hp : prgOk p = true) (hi : i < p.tasks.length) : prgOk (aloneP p i) = true := by
  have ht := (prgOk_le hp).2.2 i hi
  unfold prgOk at hp ⊢
  simp only [Bool.and_eq_true, decide_eq_true_eq] at hp ⊢
  refine ⟨hp.1, by show 1 ≤ 8; omega, hp.2.2.1, ?_⟩
  show [p.tasks.getD i Tsk.none].all tskOk = true
  simp only [List.all_cons, List.all_nil, Bool.and_true]
  exact ht
theorem mineF_alone {p : Prg} {i : Nat} (hp : prgOk p = true) (hi : i < p.tasks.length) : mineF (aloneP p i) 0 = (taskF (p.shared.map (·.name)) (p.tasks.getD i Tsk.none)).map (TFlt.mk 0) := by
  rw [mineF_eq (alone_ok hp hi) (by show 0 < 1; omega)]
  rfl
end Go.Proofs.YtnegdmhmhdojbaaDoor
