/-
  Plain law of CheckUndeclared: without the declaration of a scalar variable exactly its mentions are faults. No walk here.
-/
import Derived.Test.YtnegdmhmhdojbaaDoorChkMark
namespace Go.Proofs.YtnegdmhmhdojbaaDoor
set_option linter.unusedVariables false
set_option linter.unusedSimpArgs false
open Go.RowKit

/-- each task's variables lie within their slice's room -/
def VarsCap (w : World) (ta : Option Addr) (l : List Tsk) : Prop :=
  ∀ i, i < l.length → ∀ (b off : Nat) (p : TskPlace), ta = some ⟨b, off, none⟩ → (∀ o, o < 8 → w.cell? ⟨b, off + i * 8 + o, none⟩ = ((l.getD i Tsk.none).cells p)[o]?) → (l.getD i Tsk.none).vars.length ≤ p.vc
theorem caps_at {w w' : World} {ta : Option Addr} {l : List Tsk} {tb tf i : Nat} {q : TskPlace} (h : TsksAt w ta l) (hc : VarsCap w ta l) (hB : Below w.heap.size w w') (hi : i < l.length) (hta : ta = some ⟨tb, tf, none⟩)
    (hq : ∀ o, o < 8 → w'.cell? ⟨tb, tf + i * 8 + o, none⟩ = ((l.getD i Tsk.none).cells q)[o]?) : (l.getD i Tsk.none).vars.length ≤ q.vc := by
  obtain ⟨b, off, p0, h0, hp0, _⟩ := h.2 i hi
  have h1 := hc i hi b off p0 h0 hp0
  rw [hta] at h0
  cases h0
  have e1 := hp0 2 (by omega)
  have e1 : w.cell? ⟨tb, tf + i * 8 + 2, none⟩ = some (.slice p0.va (l.getD i Tsk.none).vars.length p0.vc) := e1
  have e2 := (cell_below hB e1).symm.trans (hq 2 (by omega))
  have e2 : some (Value.slice p0.va (l.getD i Tsk.none).vars.length p0.vc) = some (.slice q.va (l.getD i Tsk.none).vars.length q.vc) := e2
  simp only [Option.some.injEq, Value.slice.injEq] at e2
  omega
theorem tskOk_depth {t : Tsk} (h : tskOk t = true) : t.body.depth ≤ 16 := by
  unfold tskOk at h
  simp only [Bool.and_eq_true, decide_eq_true_eq] at h
  exact h.2.2.2.2.2.2.2.1.1
/-- a task without its variable j -/
def dropV (t : Tsk) (j : Nat) : Tsk := ⟨t.name, t.period, t.vars.take j ++ t.vars.drop (j + 1), t.arrays, t.body⟩
/-- a mention of a variable -/
def isVarF (name : ByteArray) (n : Tree) : Bool := decide (n.kind = 2) && decide (n.name = name)
theorem dropV_sub (t : Tsk) (j : Nat) : (dropV t j).vars.Sublist t.vars := by
  show (t.vars.take j ++ t.vars.drop (j + 1)).Sublist t.vars
  rw [show t.vars.take j ++ t.vars.drop (j + 1) = t.vars.eraseIdx j from (List.eraseIdx_eq_take_drop_succ ..).symm]
  exact List.eraseIdx_sublist ..
theorem dropV_ok {t : Tsk} {j : Nat} (h : tskOk t = true) : tskOk (dropV t j) = true := by
  unfold tskOk at h ⊢
  simp only [Bool.and_eq_true, decide_eq_true_eq, List.all_eq_true] at h ⊢
  obtain ⟨a1, a2, a3, a4, a5, a6, a7, a8⟩ := h
  have hs := dropV_sub t j
  exact ⟨a1, a2, a3, by have := hs.length_le; omega, a5, a6, fun x hx => a7 x (hs.subset hx), a8⟩
theorem undecl_node {d0 d : Nms} {name : ByteArray} (h1 : memB d0.shared name = false) (h2 : memB d0.arrays name = false) (h3 : memB d.scalars name = false) (h4 : memB d0.scalars name = true) (h5 : ∀ s, s ≠ name → memB d.scalars s = memB d0.scalars s) (h6 : d.shared = d0.shared) (h7 : d.arrays = d0.arrays)
    (t : Tree) (pl : Bool) (lo lk : List ByteArray) (hlo : memB lo name = false) (h : faultN d0 t.kind t.name pl lo lk = 0) :
    faultN d t.kind t.name pl lo lk = (if isVarF name t = true then 6 else 0) ∧ memB (loopsIn t lo) name = false := by
  by_cases e : t.name = name
  · subst e
    unfold faultN at h ⊢
    unfold isVarF loopsIn
    rw [h6, h7]
    by_cases k2 : t.kind = 2
    · simp [k2, h1, h2, h3, hlo]
    · by_cases k3 : t.kind = 3
      · simp [k3, h1, h2, h4] at h
      · by_cases k42 : t.kind = 42
        · simp [k42, h4] at h
        · simp only [k2, k3, k42, if_false, decide_false, Bool.false_and, Bool.false_eq_true] at h ⊢
          exact ⟨h, hlo⟩
  · have e5 := h5 _ e
    refine ⟨?_, ?_⟩
    · unfold faultN at h ⊢
      rw [h6, h7, e5, h]
      unfold isVarF
      simp [e]
    · unfold loopsIn
      by_cases k42 : t.kind = 42
      · rw [if_pos k42, memB_append, hlo, Bool.false_or]
        cases hm : memB [t.name] name with
        | false => rfl
        | true => exact absurd (List.mem_singleton.1 (memB_iff.1 hm)).symm e
      · rw [if_neg k42]; exact hlo
theorem taskF_drop {shared : List ByteArray} {t : Tsk} {j : Nat} (h : taskF shared t = []) (hj : j < t.vars.length) : taskF shared (dropV t j) = marks (isVarF (t.vars.getD j ⟨#[]⟩)) 6 (t.body.items []) := by
  obtain ⟨name, hname⟩ : ∃ name, t.vars.getD j ⟨#[]⟩ = name := ⟨_, rfl⟩
  rw [hname]
  have hnj : t.vars[j] = name := by rw [← hname]; simp [hj]
  obtain ⟨h1, h2⟩ : declF (memB shared) [] (t.vars ++ t.arrays.map (·.name)) = [] ∧ faultsT ⟨shared, t.vars, t.arrays.map (·.name)⟩ t.body [] false [] [] = [] := by
    unfold taskF at h
    exact List.append_eq_nil_iff.1 h
  have hd := declF_nil.1 h1
  obtain ⟨hp1, hp2, hp3⟩ := List.pairwise_append.1 hd.2
  have hmem : name ∈ t.vars := by rw [← hnj]; exact List.getElem_mem hj
  have hsplit : t.vars = t.vars.take j ++ name :: t.vars.drop (j + 1) := by rw [← hnj, List.getElem_cons_drop, List.take_append_drop]
  have hnot : memB (t.vars.take j ++ t.vars.drop (j + 1)) name = false := by
    cases hb : memB (t.vars.take j ++ t.vars.drop (j + 1)) name with
    | false => rfl
    | true =>
      have hm := memB_iff.1 hb
      rw [hsplit] at hp1
      obtain ⟨q1, q2, q3⟩ := List.pairwise_append.1 hp1
      rcases List.mem_append.1 hm with hm | hm
      · exact absurd rfl (q3 name hm name (List.mem_cons_self ..))
      · exact absurd rfl ((List.pairwise_cons.1 q2).1 name hm)
  have hother : ∀ s, s ≠ name → memB (t.vars.take j ++ t.vars.drop (j + 1)) s = memB t.vars s := fun s hs => by
    have hc : ∀ (a b : List ByteArray), memB (a ++ name :: b) s = memB (a ++ b) s := fun a b => by
      rw [memB_append, memB_append, ← List.singleton_append, memB_append]
      have : memB [name] s = false := by
        cases hm : memB [name] s with
        | false => rfl
        | true => exact absurd (List.mem_singleton.1 (memB_iff.1 hm)) hs
      rw [this, Bool.false_or]
    conv => rhs; rw [hsplit]
    exact (hc _ _).symm
  unfold taskF
  show declF (memB shared) [] ((t.vars.take j ++ t.vars.drop (j + 1)) ++ t.arrays.map (·.name)) ++ faultsT ⟨shared, t.vars.take j ++ t.vars.drop (j + 1), t.arrays.map (·.name)⟩ t.body [] false [] [] = _
  rw [show declF (memB shared) [] ((t.vars.take j ++ t.vars.drop (j + 1)) ++ t.arrays.map (·.name)) = [] from declF_sub h1 ((dropV_sub t j).append_right _), List.nil_append]
  refine faultsT_marks (d0 := ⟨shared, t.vars, t.arrays.map (·.name)⟩) (by decide) (fun lo0 lk0 lo lk => lo0 = lo ∧ lk0 = lk ∧ memB lo name = false) ?_ t.body [] [] false [] [] [] [] ⟨rfl, rfl, rfl⟩ h2
  rintro x pl lo0 lk0 lo lk ⟨rfl, rfl, hl⟩ hz
  have hk := hd.1 name (List.mem_append_left _ hmem)
  obtain ⟨r1, r2⟩ := undecl_node (d0 := ⟨shared, t.vars, t.arrays.map (·.name)⟩) (d := ⟨shared, t.vars.take j ++ t.vars.drop (j + 1), t.arrays.map (·.name)⟩) (name := name) hk.1 (by
    cases hb : memB (t.arrays.map (·.name)) name with
    | false => rfl
    | true => exact absurd rfl (hp3 name hmem name (memB_iff.1 hb))) hnot (memB_iff.2 hmem) hother rfl rfl x pl lo0 lk0 hl hz
  exact ⟨r1, rfl, rfl, r2⟩
theorem undecl_ok {p : Prg} {i j : Nat} {t : Tsk} (ht : p.tasks.getD i Tsk.none = t) (h : okP p = true) (hi : i < p.tasks.length) (hj : j < t.vars.length) : onlyP (swapP p i (dropV t j)) (i : Int) 6 (wantP (isVarF (t.vars.getD j ⟨#[]⟩)) (t.body.items [])) = true := by
  refine onlyP_marks ?_
  have h3 := (tasksF_nil (okP_parts h).2.2 i hi).2
  have hti : p.tasks[i] = t := by rw [← ht]; simp [hi]
  rw [checkE_swap (t := dropV t j) h hi (by rw [ht]; rfl) (dropV_ok (by rw [← ht]; exact (prgOk_le (okP_parts h).1).2.2 i hi)), taskF_drop (by rw [← hti]; exact h3) hj]
end Go.Proofs.YtnegdmhmhdojbaaDoor
