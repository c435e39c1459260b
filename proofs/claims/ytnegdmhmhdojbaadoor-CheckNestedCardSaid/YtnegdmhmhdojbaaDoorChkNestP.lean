/-
  Plain law of CheckNested: the whole body in a Lock statement. No walk here.
-/
import Derived.Test.YtnegdmhmhdojbaaDoorChkUnlockP
namespace Go.Proofs.YtnegdmhmhdojbaaDoor
set_option linter.unusedVariables false
set_option linter.unusedSimpArgs false
open Go.RowKit

/-- the body in a Lock statement, in a block -/
def lockT (s : ByteArray) (b : Tree) : Tree := Tree.make 46 0 s 1 (fun _ => b)
def nestT (s : ByteArray) (b : Tree) : Tree := Tree.make 47 0 ⟨#[]⟩ 1 (fun _ => lockT s b)
def isLockF (n : Tree) : Bool := decide (n.kind = 46)
theorem wantP_append (f : Tree → Bool) (l m : List (List Int × Tree)) : wantP f (l ++ m) = wantP f l ++ wantP f m := by
  unfold wantP; rw [List.filter_append, List.map_append]
theorem one_kid {t : Tree} {b : Tree} (hl : t.len = 1) (hk : t.kid 0 = b) (p : List Int) : t.items p = (p, t) :: b.items (p ++ [(0 : Int)]) := by
  rw [t.items_eq p, hl]
  show _ :: ([] ++ (t.kid 0).items (p ++ [((0 : Nat) : Int)])) = _
  rw [hk, List.nil_append]
  rfl
theorem nest_want (s : ByteArray) (b : Tree) : wantP isLockF ((nestT s b).items []) = [(0 : Int)] :: wantP isLockF (b.items [0, 0]) := by
  rw [one_kid (t := nestT s b) (b := lockT s b) rfl (Tree.make_kid (by decide)), one_kid (t := lockT s b) (b := b) rfl (Tree.make_kid (by decide))]
  show wantP isLockF ([_] ++ ([_] ++ _)) = _
  rw [wantP_append, wantP_append]
  rfl
theorem nest_faults (d : Nms) (s : ByteArray) (b : Tree) (hs : memB d.shared s = true) (h : faultsT d b [] false [] [] = []) : faultsT d (nestT s b) [] false [] [] = marks isLockF 12 (b.items [0, 0]) := by
  rw [faultsT_eq]
  have h0 : ownF d (nestT s b) [] false [] [] = [] := by
    unfold ownF faultN
    rfl
  have hz : faultN d 46 s false [] [] = 0 := by
    unfold faultN
    simp [hs]
  have h1 : ownF d (lockT s b) [0] false [] [] = [] := by
    unfold ownF
    show (if faultN d 46 s false [] [] = 0 then [] else [Flt.mk [0] (faultN d 46 s false [] []) s]) = []
    rw [hz, if_pos rfl]
  have e1 : (nestT s b).kid 0 = lockT s b := Tree.make_kid (by decide)
  have e2 : (lockT s b).kid 0 = b := Tree.make_kid (by decide)
  rw [h0, List.nil_append]
  show [] ++ faultsT d ((nestT s b).kid 0) [((0 : Nat) : Int)] (placeIn (nestT s b) 0) (loopsIn (nestT s b) []) (locksIn (nestT s b) []) = _
  rw [e1, List.nil_append, faultsT_eq]
  show ownF d (lockT s b) [0] false [] [] ++ ([] ++ faultsT d ((lockT s b).kid 0) [0, 0] (placeIn (lockT s b) 0) (loopsIn (lockT s b) []) (locksIn (lockT s b) [])) = _
  rw [h1, e2, List.nil_append, List.nil_append]
  refine faultsT_marks (d0 := d) (by decide) (fun lo0 lk0 lo lk => lo0 = lo ∧ lk = s :: lk0) ?_ b [] [0, 0] false [] [] [] [s] ⟨rfl, rfl⟩ h
  rintro x pl lo0 lk0 lo lk ⟨rfl, rfl⟩ hz
  refine ⟨?_, rfl, ?_⟩
  · unfold faultN at hz ⊢
    unfold isLockF
    by_cases k3 : x.kind = 3
    · simp only [k3, show ¬ ((3 : Int) = 2) by decide, show ¬ ((3 : Int) = 46) by decide, if_false, if_true, decide_false, Bool.false_eq_true] at hz ⊢
      have hm : memB lk0 x.name = true → memB (s :: lk0) x.name = true := fun h => memB_iff.2 (List.mem_cons_of_mem _ (memB_iff.1 h))
      split
      · rfl
      · rename_i h1
        rw [if_neg h1] at hz
        split
        · rename_i h2
          rw [if_pos h2] at hz
          split
          · rfl
          · rename_i h3
            split at hz
            · rename_i h4
              exact absurd (hm h4) h3
            · cases hz
        · rename_i h2
          rw [if_neg h2] at hz
          exact hz
    · by_cases k46 : x.kind = 46
      · simp only [k46, show ¬ ((46 : Int) = 2) by decide, show ¬ ((46 : Int) = 3) by decide, show ¬ ((46 : Int) = 42) by decide, if_false, if_true, decide_true] at hz ⊢
        split at hz
        · rename_i h1
          rw [if_pos h1, if_neg (by simp)]
        · cases hz
      · simp only [k3, k46, if_false, decide_false, Bool.false_eq_true] at hz ⊢
        exact hz
  · unfold locksIn
    by_cases k46 : x.kind = 46
    · rw [if_pos k46, if_pos k46]; rfl
    · rw [if_neg k46, if_neg k46]
theorem nest_check {p : Prg} {i : Nat} {t : Tsk} {s : ByteArray} (ht : p.tasks.getD i Tsk.none = t) (h : okP p = true) (hi : i < p.tasks.length) (hs : s ∈ p.shared.map (·.name)) (hv : prgOk (swapP p i (bodyT t (nestT s t.body))) = true) :
    checkE (swapP p i (bodyT t (nestT s t.body))) = (marks isLockF 12 (t.body.items [0, 0])).map (TFlt.mk (i : Int)) := by
  have h3 := (tasksF_nil (okP_parts h).2.2 i hi).2
  have hti : p.tasks[i] = t := by rw [← ht]; simp [hi]
  rw [hti] at h3
  rw [checkE_swap (t := bodyT t (nestT s t.body)) h hi (by rw [ht]; rfl) (swap_valid hv hi)]
  congr 1
  unfold taskF at h3 ⊢
  obtain ⟨h1, h2⟩ := List.append_eq_nil_iff.1 h3
  show declF (memB (p.shared.map (·.name))) [] (t.vars ++ t.arrays.map (·.name)) ++ faultsT ⟨p.shared.map (·.name), t.vars, t.arrays.map (·.name)⟩ (nestT s t.body) [] false [] [] = _
  rw [h1, List.nil_append]
  have e0 := memB_iff.2 hs
  have e1 := nest_faults ⟨p.shared.map (·.name), t.vars, t.arrays.map (·.name)⟩ s t.body e0
  have e2 := e1 h2
  exact e2
theorem nest_only {p : Prg} {i : Nat} {t : Tsk} {s : ByteArray} (ht : p.tasks.getD i Tsk.none = t) (h : okP p = true) (hi : i < p.tasks.length) (hs : s ∈ p.shared.map (·.name)) (hv : prgOk (swapP p i (bodyT t (nestT s t.body))) = true) :
    onlyP (swapP p i (bodyT t (nestT s t.body))) (i : Int) 12 ((wantP isLockF ((nestT s t.body).items [])).drop 1) = true := by
  rw [nest_want, List.drop_one, List.tail_cons]
  have h1 := nest_check ht h hi hs hv
  exact onlyP_marks h1
theorem nest_okP {p : Prg} {i : Nat} {t : Tsk} {s : ByteArray} (ht : p.tasks.getD i Tsk.none = t) (h : okP p = true) (hi : i < p.tasks.length) (hs : s ∈ p.shared.map (·.name)) (hv : prgOk (swapP p i (bodyT t (nestT s t.body))) = true) :
    okP (swapP p i (bodyT t (nestT s t.body))) = decide ((wantP isLockF ((nestT s t.body).items [])).length = 1) := by
  unfold okP
  rw [hv, nest_check ht h hi hs hv, nest_want, Bool.true_and]
  unfold marks wantP
  rw [List.length_cons, List.length_map]
  cases hl : List.filter (fun x => isLockF x.2) (t.body.items [0, 0]) with
  | nil => rfl
  | cons a l => simp
end Go.Proofs.YtnegdmhmhdojbaaDoor
