/-
  Plain law of CheckUnlocked: without Lock statements exactly the accesses to shared objects are faults. No walk here.
-/
import Derived.Test.YtnegdmhmhdojbaaDoorChkUndeclP
import Derived.Test.YtnegdmhmhdojbaaDoorChkEdit
namespace Go.Proofs.YtnegdmhmhdojbaaDoor
set_option linter.unusedVariables false
set_option linter.unusedSimpArgs false
open Go.RowKit

def numT : Tree := Tree.leaf 1 1 ⟨#[]⟩
def emptyB : Tree := Tree.leaf 47 0 ⟨#[]⟩
/-- a Lock statement becomes an If statement -/
def unlockN (x : Tree) : Tree := if x.kind = 46 then Tree.make 41 0 ⟨#[]⟩ 3 (fun i => if i = 0 then numT else if i = 1 then x.kid 0 else emptyB) else x
def lockQ (x : Tree) : Prop := x.kind = 46 → 0 < x.len
/-- an access to an object that is not the task's own -/
def isShrF (arrs : List ByteArray) (n : Tree) : Bool := decide (n.kind = 3) && !memB arrs n.name
theorem lock_ok : ∀ (t : Tree) (c : Int), t.vld c = true → EdOk unlockN lockQ t := by
  intro t
  induction t using Tree.ind with
  | h t ih =>
    intro c h
    rw [Tree.vld_eq, Bool.and_eq_true] at h
    obtain ⟨_, h⟩ := h
    refine EdOk.mk (fun hk => ?_) (fun i hi => ?_)
    · have hk : t.kind = 46 := hk
      show 0 < t.len
      rw [hk] at h
      simp only [show ¬ ((46 : Int) = 47) by decide, if_false, Bool.and_eq_true, decide_eq_true_eq] at h
      have h1 := h.1.1.2
      rw [h1]
      decide
    · by_cases hk : t.kind = 47
      · rw [if_pos hk] at h
        simp only [Bool.and_eq_true] at h
        exact ih i hi _ (Tree.allTo_iff.1 h.2 i hi)
      · rw [if_neg hk] at h
        simp only [Bool.and_eq_true] at h
        exact ih i hi _ (Tree.allTo_iff.1 h.2 i hi)
theorem faultsT_leaf (d : Nms) {k n : Int} {s : ByteArray} (h : ¬ (k = 2 ∨ k = 3 ∨ k = 42 ∨ k = 46)) (path : List Int) (pl : Bool) (lo lk : List ByteArray) : faultsT d (Tree.leaf k n s) path pl lo lk = [] := by
  rw [faultsT_eq]
  unfold ownF faultN
  show (if (if k = 2 then _ else if k = 3 then _ else if k = 42 then _ else if k = 46 then _ else (0 : Int)) = 0 then [] else _) ++ [] = _
  rw [if_neg (fun e => h (.inl e)), if_neg (fun e => h (.inr (.inl e))), if_neg (fun e => h (.inr (.inr (.inl e)))), if_neg (fun e => h (.inr (.inr (.inr e)))), if_pos rfl]
  rfl
theorem marks_leaf (f : Tree → Bool) (e : Int) {k n : Int} {s : ByteArray} (h : f (Tree.leaf k n s) = false) (path : List Int) : marks f e ((Tree.leaf k n s).items path) = [] := by
  rw [marks_eq, h]
  rfl
theorem unlock_marks (d : Nms) : ∀ (t : Tree) (path0 path : List Int) (pl : Bool) (lo lk : List ByteArray), EdOk unlockN lockQ t → faultsT d t path0 pl lo lk = [] → faultsT d (editT unlockN t) path pl lo [] = marks (isShrF d.arrays) 12 ((editT unlockN t).items path) := by
  intro t
  induction t using Tree.ind with
  | h t ih =>
    intro path0 path pl lo lk hq h
    rw [faultsT_eq, List.append_eq_nil_iff] at h
    obtain ⟨h1, h2⟩ := h
    have h1 : faultN d t.kind t.name pl lo lk = 0 := by
      unfold ownF at h1
      by_cases hz : faultN d t.kind t.name pl lo lk = 0
      · exact hz
      · rw [if_neg hz] at h1; cases h1
    rw [editT_eq]
    by_cases hk : t.kind = 46
    · have hl : 0 < t.len := hq.own hk
      have e : unlockN (mapK unlockN t) = Tree.make 41 0 ⟨#[]⟩ 3 (fun i => if i = 0 then numT else if i = 1 then editT unlockN (t.kid 0) else emptyB) := by
        unfold unlockN
        rw [if_pos (show (mapK _ t).kind = 46 from hk)]
        have := mapK_kid (g := unlockN) hl
        unfold unlockN at this
        rw [this]
      rw [e, faultsT_eq, marks_eq]
      have hi := ih 0 hl _ (path ++ [(1 : Int)]) false lo (locksIn t lk) (hq.kid hl) (by
        have := concatTo_nil h2 0 hl
        unfold placeIn loopsIn at this
        rw [hk] at this
        simpa using this)
      congr 1
      show concatTo _ 3 = concatTo _ 3
      refine concatTo_congr fun i hi3 => ?_
      rw [Tree.make_kid hi3]
      match i, hi3 with
      | 0, _ =>
        show faultsT d numT _ _ _ _ = marks _ _ (numT.items _)
        rw [show faultsT d numT _ _ _ _ = [] from faultsT_leaf d (by decide) _ _ _ _, show marks _ _ (numT.items _) = [] from marks_leaf _ _ rfl _]
      | 1, _ => exact hi
      | 2, _ =>
        show faultsT d emptyB _ _ _ _ = marks _ _ (emptyB.items _)
        rw [show faultsT d emptyB _ _ _ _ = [] from faultsT_leaf d (by decide) _ _ _ _, show marks _ _ (emptyB.items _) = [] from marks_leaf _ _ rfl _]
    · have e : unlockN (mapK unlockN t) = mapK unlockN t := if_neg hk
      rw [e, faultsT_eq, marks_eq]
      have hlk : locksIn (mapK unlockN t) [] = [] := if_neg hk
      have hlk0 : locksIn t lk = lk := if_neg hk
      rw [hlk]
      congr 1
      · have hf : faultN d t.kind t.name pl lo [] = (if isShrF d.arrays t = true then 12 else 0) := by
          unfold faultN at h1 ⊢
          unfold isShrF
          by_cases k3 : t.kind = 3
          · simp only [k3, show ¬ ((3 : Int) = 2) by decide, if_false, if_true, decide_true, Bool.true_and] at h1 ⊢
            cases ha : memB d.arrays t.name with
            | true => simp
            | false =>
              cases hs : memB d.shared t.name with
              | true => simp [memB]
              | false =>
                exfalso
                simp only [ha, hs, Bool.false_eq_true, if_false] at h1
                split at h1 <;> cases h1
          · simp only [k3, hk, if_false, decide_false, Bool.false_and, Bool.false_eq_true] at h1 ⊢
            exact h1
        unfold ownF
        show (if faultN d t.kind t.name pl lo [] = 0 then [] else [Flt.mk path (faultN d t.kind t.name pl lo []) t.name]) = (if isShrF d.arrays t = true then [Flt.mk path 12 t.name] else [])
        rw [hf]
        by_cases hb : isShrF d.arrays t = true
        · rw [if_pos hb, if_pos hb, if_neg (by decide)]
        · rw [if_neg hb, if_neg hb, if_pos rfl]
      · show concatTo _ t.len = concatTo _ t.len
        refine concatTo_congr fun i hi => ?_
        rw [mapK_kid hi]
        exact ih i hi _ _ _ _ lk (hq.kid hi) (by have := concatTo_nil h2 i hi; rw [hlk0] at this; exact this)
theorem tskOk_vld {t : Tsk} (h : tskOk t = true) : t.body.vld 98 = true := by
  unfold tskOk at h
  simp only [Bool.and_eq_true] at h
  exact h.2.2.2.2.2.2.2.2.2
/-- a task with another body -/
def bodyT (t : Tsk) (b : Tree) : Tsk := ⟨t.name, t.period, t.vars, t.arrays, b⟩
theorem swap_valid {p : Prg} {i : Nat} {t : Tsk} (h : prgOk (swapP p i t) = true) (hi : i < p.tasks.length) : tskOk t = true := by
  have := (prgOk_le h).2.2 i (by show i < (p.tasks.set i t).length; rw [List.length_set]; exact hi)
  have e : (swapP p i t).tasks.getD i Tsk.none = t := by
    show (p.tasks.set i t).getD i Tsk.none = t
    simp [hi]
  rwa [e] at this
theorem unlock_ok {p : Prg} {i : Nat} {t : Tsk} (ht : p.tasks.getD i Tsk.none = t) (h : okP p = true) (hi : i < p.tasks.length) (hv : prgOk (swapP p i (bodyT t (editT unlockN t.body))) = true) :
    onlyP (swapP p i (bodyT t (editT unlockN t.body))) (i : Int) 12 (wantP (isShrF (t.arrays.map (·.name))) ((editT unlockN t.body).items [])) = true := by
  refine onlyP_marks ?_
  have h3 := (tasksF_nil (okP_parts h).2.2 i hi).2
  have hti : p.tasks[i] = t := by rw [← ht]; simp [hi]
  rw [hti] at h3
  have htk : tskOk t = true := by rw [← ht]; exact (prgOk_le (okP_parts h).1).2.2 i hi
  rw [checkE_swap (t := bodyT t (editT unlockN t.body)) h hi (by rw [ht]; rfl) (swap_valid hv hi)]
  congr 1
  unfold taskF at h3 ⊢
  obtain ⟨h1, h2⟩ := List.append_eq_nil_iff.1 h3
  show declF (memB (p.shared.map (·.name))) [] (t.vars ++ t.arrays.map (·.name)) ++ faultsT ⟨p.shared.map (·.name), t.vars, t.arrays.map (·.name)⟩ (editT unlockN t.body) [] false [] [] = _
  rw [h1, List.nil_append]
  refine unlock_marks ⟨p.shared.map (·.name), t.vars, t.arrays.map (·.name)⟩ t.body [] [] false [] [] (lock_ok t.body 98 ?_) h2
  unfold tskOk at htk
  simp only [Bool.and_eq_true] at htk
  exact htk.2.2.2.2.2.2.2.2.2
end Go.Proofs.YtnegdmhmhdojbaaDoor
