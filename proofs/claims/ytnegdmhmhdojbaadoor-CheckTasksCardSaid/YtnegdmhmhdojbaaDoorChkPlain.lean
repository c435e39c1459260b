/-
  Plain facts of the faults: programs without faults, a task replaced, a name repeated. No walk here.
-/
import Derived.Test.YtnegdmhmhdojbaaDoorChkOnly
import Derived.Test.YtnegdmhmhdojbaaDoorChkSwap
namespace Go.Proofs.YtnegdmhmhdojbaaDoor
set_option linter.unusedVariables false
set_option linter.unusedSimpArgs false
open Go.RowKit

theorem declF_append (known : ByteArray → Bool) : ∀ (l m so : List ByteArray), declF known so (l ++ m) = declF known so l ++ declF known (so ++ l) m
  | [], m, so => by simp [declF]
  | x :: l, m, so => by
    rw [List.cons_append, declF, declF, declF_append known l m (so ++ [x]), List.append_assoc, List.append_assoc]
    rfl
theorem declF_congr {known known' : ByteArray → Bool} (hk : ∀ s, known s = known' s) : ∀ (l so so' : List ByteArray), (∀ s, memB so s = memB so' s) → declF known so l = declF known' so' l
  | [], _, _, _ => rfl
  | x :: l, so, so', h => by
    rw [declF, declF, hk, h, declF_congr hk l (so ++ [x]) (so' ++ [x]) (fun s => by rw [memB_append, memB_append, h])]
/-- a name that is there already turns no question -/
theorem memB_again {l : List ByteArray} {x : ByteArray} (h : x ∈ l) (s : ByteArray) : memB (l ++ [x]) s = memB l s := by
  rw [memB_snoc]
  by_cases e : x = s
  · subst e
    rw [memB_iff.2 h]
    rfl
  · simp [e]
theorem memB_mid {so l m : List ByteArray} {x : ByteArray} (h : x ∈ l) (s : ByteArray) : memB (so ++ (l ++ [x]) ++ m) s = memB (so ++ l ++ m) s := by
  rw [memB_append, memB_append, memB_again h, memB_append, memB_append]
/-- the same names, the same faults -/
theorem faultN_congr {d d' : Nms} (h1 : ∀ s, memB d.shared s = memB d'.shared s) (h2 : ∀ s, memB d.scalars s = memB d'.scalars s) (h3 : ∀ s, memB d.arrays s = memB d'.arrays s) (k : Int) (n : ByteArray) (pl : Bool) (lo lk : List ByteArray) :
    faultN d k n pl lo lk = faultN d' k n pl lo lk := by
  unfold faultN
  rw [h1, h2, h3]
theorem faultsT_congr {d d' : Nms} (h1 : ∀ s, memB d.shared s = memB d'.shared s) (h2 : ∀ s, memB d.scalars s = memB d'.scalars s) (h3 : ∀ s, memB d.arrays s = memB d'.arrays s) : ∀ (t : Tree) (path : List Int) (pl : Bool) (lo lk : List ByteArray),
    faultsT d t path pl lo lk = faultsT d' t path pl lo lk := by
  intro t
  induction t using Tree.ind with
  | h t ih =>
    intro path pl lo lk
    rw [faultsT_eq, faultsT_eq]
    unfold ownF
    rw [faultN_congr h1 h2 h3]
    exact congrArg _ (concatTo_congr fun i hi => ih i hi _ _ _ _)
theorem tasksF_nil {shared : List ByteArray} : ∀ {l : List Tsk} {so : List ByteArray} {i : Nat}, tasksF shared so i l = [] → ∀ j (h : j < l.length), memB (so ++ (l.take j).map (·.name)) l[j].name = false ∧ taskF shared l[j] = []
  | t :: l, so, i, h, j, hj => by
    rw [tasksF, List.append_eq_nil_iff, List.map_eq_nil_iff, List.append_eq_nil_iff] at h
    obtain ⟨⟨h1, h2⟩, h3⟩ := h
    cases j with
    | zero =>
      refine ⟨?_, h2⟩
      cases hb : memB so t.name with
      | false => simpa using hb
      | true => rw [hb] at h1; cases h1
    | succ j =>
      have := tasksF_nil h3 j (by simpa using hj)
      simpa using this
/-- one task replaced in a program without faults -/
theorem tasksF_set {shared : List ByteArray} {t' : Tsk} : ∀ {l : List Tsk} {so : List ByteArray} {i j : Nat}, tasksF shared so i l = [] → (h : j < l.length) → t'.name = l[j].name → tasksF shared so i (l.set j t') = (taskF shared t').map (TFlt.mk ((i + j : Nat) : Int))
  | t :: l, so, i, 0, h, hj, hn => by
    rw [tasksF, List.append_eq_nil_iff, List.map_eq_nil_iff, List.append_eq_nil_iff] at h
    obtain ⟨⟨h1, _⟩, h3⟩ := h
    have hn' : t'.name = t.name := hn
    rw [List.set_cons_zero, tasksF, hn', h1, h3]
    simp
  | t :: l, so, i, j + 1, h, hj, hn => by
    rw [tasksF, List.append_eq_nil_iff, List.map_eq_nil_iff, List.append_eq_nil_iff] at h
    obtain ⟨⟨h1, h2⟩, h3⟩ := h
    rw [List.set_cons_succ, tasksF, h1, h2, tasksF_set h3 (by simpa using hj) (by simpa using hn), show i + 1 + j = i + (j + 1) by omega]
    rfl
theorem okP_parts {p : Prg} (h : okP p = true) : prgOk p = true ∧ declF (fun _ => false) [] (p.shared.map (·.name)) = [] ∧ tasksF (p.shared.map (·.name)) [] 0 p.tasks = [] := by
  unfold okP at h
  rw [Bool.and_eq_true, List.isEmpty_iff] at h
  obtain ⟨h1, h2⟩ := h
  unfold checkE at h2
  rw [if_pos h1] at h2
  unfold checkF at h2
  rw [List.append_eq_nil_iff, List.map_eq_nil_iff] at h2
  exact ⟨h1, h2⟩
/-- the faults of a program without faults, one task replaced by a valid one of the same name -/
theorem checkE_swap {p : Prg} {i : Nat} {t : Tsk} (h : okP p = true) (hi : i < p.tasks.length) (hn : t.name = (p.tasks.getD i Tsk.none).name) (ht : tskOk t = true) : checkE (swapP p i t) = (taskF (p.shared.map (·.name)) t).map (TFlt.mk (i : Int)) := by
  obtain ⟨h1, h2, h3⟩ := okP_parts h
  have hv : prgOk (swapP p i t) = true := by
    unfold prgOk at h1 ⊢
    simp only [Bool.and_eq_true, decide_eq_true_eq, List.all_eq_true] at h1 ⊢
    refine ⟨h1.1, by show (p.tasks.set i t).length ≤ 8; rw [List.length_set]; exact h1.2.1, h1.2.2.1, fun x hx => ?_⟩
    rcases List.mem_or_eq_of_mem_set hx with hx | rfl
    · exact h1.2.2.2 x hx
    · exact ht
  unfold checkE
  rw [if_pos hv]
  unfold checkF
  show (declF _ _ (p.shared.map (·.name))).map _ ++ tasksF (p.shared.map (·.name)) _ _ (p.tasks.set i t) = _
  rw [h2, tasksF_set h3 hi (by rw [hn]; simp [hi])]
  simp
end Go.Proofs.YtnegdmhmhdojbaaDoor
