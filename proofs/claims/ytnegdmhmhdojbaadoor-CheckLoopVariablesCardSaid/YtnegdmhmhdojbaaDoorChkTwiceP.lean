/-
  Plain law of CheckTwice: a declaration that is repeated is the only fault. No walk here.
-/
import Derived.Test.YtnegdmhmhdojbaaDoorChkPlains
namespace Go.Proofs.YtnegdmhmhdojbaaDoor
set_option linter.unusedVariables false
set_option linter.unusedSimpArgs false
open Go.RowKit

theorem declF_known {known : ByteArray → Bool} {x : ByteArray} {so m : List ByteArray} (h : (known x || memB so x) = true) : declF known so (x :: m) = ⟨[], 8, x⟩ :: declF known (so ++ [x]) m := by
  rw [declF, if_pos h]
  rfl
theorem taskF_nil {shared : List ByteArray} {t : Tsk} (h : taskF shared t = []) : declF (memB shared) [] (t.vars ++ t.arrays.map (·.name)) = [] ∧ faultsT ⟨shared, t.vars, t.arrays.map (·.name)⟩ t.body [] false [] [] = [] := by
  unfold taskF at h
  exact List.append_eq_nil_iff.1 h
/-- a variable repeated -/
def varsT (t : Tsk) (v : ByteArray) : Tsk := ⟨t.name, t.period, t.vars ++ [v], t.arrays, t.body⟩
def arrsT (t : Tsk) (x : Arr) : Tsk := ⟨t.name, t.period, t.vars, t.arrays ++ [x], t.body⟩
theorem taskF_vars {shared : List ByteArray} {t : Tsk} {v : ByteArray} (h : taskF shared t = []) (hv : v ∈ t.vars) : taskF shared (varsT t v) = [⟨[], 8, v⟩] := by
  obtain ⟨h1, h2⟩ := taskF_nil h
  rw [declF_append, List.append_eq_nil_iff] at h1
  obtain ⟨h1, h3⟩ := h1
  unfold taskF
  show declF (memB shared) [] ((t.vars ++ [v]) ++ t.arrays.map (·.name)) ++ faultsT ⟨shared, t.vars ++ [v], t.arrays.map (·.name)⟩ t.body [] false [] [] = _
  rw [List.append_assoc, declF_append, h1, List.nil_append, List.nil_append, List.singleton_append, declF_known (by rw [memB_iff.2 hv, Bool.or_true])]
  rw [faultsT_congr (d := ⟨shared, t.vars ++ [v], t.arrays.map (fun x => x.name)⟩) (d' := ⟨shared, t.vars, t.arrays.map (fun x => x.name)⟩) (fun _ => rfl) (fun s => memB_again hv s) (fun _ => rfl), h2]
  rw [declF_congr (known' := memB shared) (fun _ => rfl) _ _ ([] ++ t.vars) (fun s => by rw [List.nil_append]; exact memB_again hv s), h3]
  rfl
theorem taskF_arrs {shared : List ByteArray} {t : Tsk} {x : Arr} (h : taskF shared t = []) (hx : x ∈ t.arrays) : taskF shared (arrsT t x) = [⟨[], 8, x.name⟩] := by
  obtain ⟨h1, h2⟩ := taskF_nil h
  have hm : x.name ∈ t.arrays.map (·.name) := List.mem_map.2 ⟨x, hx, rfl⟩
  unfold taskF
  show declF (memB shared) [] (t.vars ++ (t.arrays ++ [x]).map (·.name)) ++ faultsT ⟨shared, t.vars, (t.arrays ++ [x]).map (·.name)⟩ t.body [] false [] [] = _
  rw [List.map_append, List.map_cons, List.map_nil, ← List.append_assoc, declF_append, h1, List.nil_append, List.nil_append, declF_known (by rw [memB_append, memB_iff.2 hm, Bool.or_true, Bool.or_true])]
  rw [faultsT_congr (d := ⟨shared, t.vars, t.arrays.map (fun x => x.name) ++ [x.name]⟩) (d' := ⟨shared, t.vars, t.arrays.map (fun x => x.name)⟩) (fun _ => rfl) (fun _ => rfl) (fun s => memB_again hm s), h2]
  rfl
theorem taskF_shared {l l' : List ByteArray} (h : ∀ s, memB l s = memB l' s) (t : Tsk) : taskF l t = taskF l' t := by
  unfold taskF
  rw [declF_congr h _ [] [] (fun _ => rfl), faultsT_congr (d := ⟨l, t.vars, t.arrays.map (fun x => x.name)⟩) (d' := ⟨l', t.vars, t.arrays.map (fun x => x.name)⟩) h (fun _ => rfl) (fun _ => rfl)]
theorem tasksF_shared {l l' : List ByteArray} (h : ∀ s, memB l s = memB l' s) : ∀ (ts : List Tsk) (so : List ByteArray) (i : Nat), tasksF l so i ts = tasksF l' so i ts
  | [], _, _ => rfl
  | t :: ts, so, i => by rw [tasksF, tasksF, taskF_shared h, tasksF_shared h ts]
theorem varsT_ok {t : Tsk} {v : ByteArray} (h : tskOk t = true) (hv : v ∈ t.vars) (hl : t.vars.length < 12) : tskOk (varsT t v) = true := by
  unfold tskOk at h ⊢
  simp only [Bool.and_eq_true, decide_eq_true_eq, List.all_eq_true] at h ⊢
  obtain ⟨a1, a2, a3, a4, a5, a6, a7, a8⟩ := h
  refine ⟨a1, a2, a3, ?_, a5, a6, fun x hx => ?_, a8⟩
  · show (t.vars ++ [v]).length ≤ 12
    simp; omega
  · rcases List.mem_append.1 hx with hx | hx
    · exact a7 x hx
    · obtain rfl := List.mem_singleton.1 hx
      exact a7 x hv
theorem arrsT_ok {t : Tsk} {x : Arr} (h : tskOk t = true) (hx : x ∈ t.arrays) (hl : t.arrays.length < 4) : tskOk (arrsT t x) = true := by
  unfold tskOk at h ⊢
  simp only [Bool.and_eq_true, decide_eq_true_eq, List.all_eq_true] at h ⊢
  obtain ⟨a1, a2, a3, a4, a5, a6, a7, a8⟩ := h
  refine ⟨a1, a2, a3, a4, ?_, fun y hy => ?_, a7, a8⟩
  · show (t.arrays ++ [x]).length ≤ 4
    simp; omega
  · rcases List.mem_append.1 hy with hy | hy
    · exact a6 y hy
    · obtain rfl := List.mem_singleton.1 hy
      exact a6 y hx
theorem onlyP_one {p : Prg} {k e : Int} {s : ByteArray} (h : checkE p = [⟨k, ⟨[], e, s⟩⟩]) : onlyP p k e [[]] = true := by
  unfold onlyP
  rw [h]
  exact decide_eq_true rfl
theorem task_in {p : Prg} {i : Nat} (h : okP p = true) (hi : i < p.tasks.length) : memB ((p.tasks.take i).map (·.name)) (p.tasks.getD i Tsk.none).name = false ∧ taskF (p.shared.map (·.name)) (p.tasks.getD i Tsk.none) = [] := by
  obtain ⟨_, _, h3⟩ := okP_parts h
  have := tasksF_nil h3 i hi
  rw [List.nil_append] at this
  rw [show p.tasks.getD i Tsk.none = p.tasks[i] by simp [hi]]
  exact this
theorem twice_vars {p : Prg} {i : Nat} {v : ByteArray} (h : okP p = true) (hi : i < p.tasks.length) (hv : v ∈ (p.tasks.getD i Tsk.none).vars) (hl : (p.tasks.getD i Tsk.none).vars.length < 12) : onlyP (swapP p i (varsT (p.tasks.getD i Tsk.none) v)) (i : Int) 8 [[]] = true := by
  refine onlyP_one (s := v) ?_
  rw [checkE_swap (t := varsT (p.tasks.getD i Tsk.none) v) h hi rfl (varsT_ok ((prgOk_le (okP_parts h).1).2.2 i hi) hv hl), taskF_vars (task_in h hi).2 hv]
  rfl
theorem twice_arrs {p : Prg} {i : Nat} {x : Arr} (h : okP p = true) (hi : i < p.tasks.length) (hx : x ∈ (p.tasks.getD i Tsk.none).arrays) (hl : (p.tasks.getD i Tsk.none).arrays.length < 4) : onlyP (swapP p i (arrsT (p.tasks.getD i Tsk.none) x)) (i : Int) 8 [[]] = true := by
  refine onlyP_one (s := x.name) ?_
  rw [checkE_swap (t := arrsT (p.tasks.getD i Tsk.none) x) h hi rfl (arrsT_ok ((prgOk_le (okP_parts h).1).2.2 i hi) hx hl), taskF_arrs (task_in h hi).2 hx]
  rfl
theorem twice_shared {p : Prg} {x : Arr} (h : okP p = true) (hx : x ∈ p.shared) (hl : p.shared.length < 4) : onlyP ⟨p.shared ++ [x], p.tasks⟩ (-1) 8 [[]] = true := by
  refine onlyP_one (s := x.name) ?_
  obtain ⟨h1, h2, h3⟩ := okP_parts h
  have hm : x.name ∈ p.shared.map (·.name) := List.mem_map.2 ⟨x, hx, rfl⟩
  have hv : prgOk ⟨p.shared ++ [x], p.tasks⟩ = true := by
    unfold prgOk at h1 ⊢
    simp only [Bool.and_eq_true, decide_eq_true_eq, List.all_eq_true] at h1 ⊢
    refine ⟨?_, h1.2.1, fun y hy => ?_, h1.2.2.2⟩
    · show (p.shared ++ [x]).length ≤ 4
      simp; omega
    · rcases List.mem_append.1 hy with hy | hy
      · exact h1.2.2.1 y hy
      · obtain rfl := List.mem_singleton.1 hy
        exact h1.2.2.1 y hx
  unfold checkE
  rw [if_pos hv]
  unfold checkF
  show (declF _ _ ((p.shared ++ [x]).map (·.name))).map _ ++ tasksF ((p.shared ++ [x]).map (·.name)) _ _ p.tasks = _
  rw [List.map_append, List.map_cons, List.map_nil, declF_append, h2, List.nil_append, List.nil_append, declF_known (by rw [memB_iff.2 hm, Bool.false_or])]
  rw [tasksF_shared (fun s => memB_again hm s), h3]
  rfl
theorem twice_task {p : Prg} {i : Nat} (h : okP p = true) (hi : i < p.tasks.length) (hl : p.tasks.length < 8) : onlyP ⟨p.shared, p.tasks ++ [p.tasks.getD i Tsk.none]⟩ (p.tasks.length : Int) 8 [[]] = true := by
  refine onlyP_one (s := (p.tasks.getD i Tsk.none).name) ?_
  obtain ⟨h1, h2, h3⟩ := okP_parts h
  have hm : p.tasks.getD i Tsk.none ∈ p.tasks := by simp [hi]
  have hv : prgOk ⟨p.shared, p.tasks ++ [p.tasks.getD i Tsk.none]⟩ = true := by
    unfold prgOk at h1 ⊢
    simp only [Bool.and_eq_true, decide_eq_true_eq, List.all_eq_true] at h1 ⊢
    refine ⟨h1.1, ?_, h1.2.2.1, fun y hy => ?_⟩
    · show (p.tasks ++ [_]).length ≤ 8
      simp; omega
    · rcases List.mem_append.1 hy with hy | hy
      · exact h1.2.2.2 y hy
      · obtain rfl := List.mem_singleton.1 hy
        exact h1.2.2.2 _ hm
  unfold checkE
  rw [if_pos hv]
  unfold checkF
  show (declF _ _ (p.shared.map (·.name))).map _ ++ tasksF (p.shared.map (·.name)) [] 0 (p.tasks ++ [p.tasks.getD i Tsk.none]) = _
  rw [h2, tasksF_snoc, h3, List.nil_append, (task_in h hi).2, if_pos (by rw [memB_iff]; exact List.mem_map.2 ⟨_, hm, rfl⟩)]
  simp
end Go.Proofs.YtnegdmhmhdojbaaDoor
