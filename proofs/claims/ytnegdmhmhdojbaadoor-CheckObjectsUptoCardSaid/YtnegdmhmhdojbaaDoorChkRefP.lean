/-
  The reference's faults are the faults (plain).
-/
import Derived.Test.YtnegdmhmhdojbaaDoorRef15f
namespace Go.Proofs.YtnegdmhmhdojbaaDoor
set_option linter.unusedVariables false
set_option linter.unusedSimpArgs false

theorem bodyF_nil (p : Prg) (t : Tsk) : bodyF p t [] = [] := rfl
theorem bodyF_concat (p : Prg) (t : Tsk) (f : Nat → List (List Int × Tree)) : ∀ n, bodyF p t (concatTo f n) = concatTo (fun i => bodyF p t (f i)) n
  | 0 => rfl
  | n + 1 => by rw [concatTo_succ, concatTo_succ, bodyF_append, bodyF_concat p t f n]
theorem body_sub (p : Prg) (t : Tsk) : ∀ (u : Tree) (q : List Int), t.body.at q = some u → faultsT (nmsOf p t) u q (placeP t.body q) (aroundP 42 t.body q) (aroundP 46 t.body q) = bodyF p t (u.items q) := by
  intro u
  induction u using Tree.ind with
  | h u ih =>
    intro q hq
    have e : bodyF p t (u.items q) = (if oneP p t q u = 0 then [] else [Flt.mk q (oneP p t q u) u.name]) ++ bodyF p t (concatTo (fun i => (u.kid i).items (q ++ [(i : Int)])) u.len) := by
      rw [u.items_eq q]; rfl
    rw [e, faultsT_eq, bodyF_concat]
    refine congr (congrArg HAppend.hAppend rfl) (concatTo_congr fun i hi => ?_)
    have ha : t.body.at (q ++ [(i : Int)]) = some (u.kid i) := by
      rw [Tree.at_snoc, hq]
      show (if 0 ≤ (i : Int) ∧ (i : Int) < (u.len : Int) then some (u.kid (i : Int).toNat) else none) = _
      rw [if_pos ⟨by omega, by omega⟩]
      rfl
    rw [← ih i hi _ ha]
    have h1 : placeP t.body (q ++ [(i : Int)]) = placeIn u i := by
      unfold placeP placeIn
      rw [List.dropLast_concat, hq]
      simp
    have h2 : aroundP 42 t.body (q ++ [(i : Int)]) = loopsIn u (aroundP 42 t.body q) := by
      rw [aroundP_snoc hq]; unfold loopsIn; split <;> simp
    have h3 : aroundP 46 t.body (q ++ [(i : Int)]) = locksIn u (aroundP 46 t.body q) := by
      rw [aroundP_snoc hq]; unfold locksIn; split <;> simp
    rw [h1, h2, h3]
theorem refTaskF_eq (p : Prg) (i : Nat) (t : Tsk) : refTaskF p i t = tw0 p i t ++ taskF (p.shared.map (·.name)) t := by
  unfold refTaskF taskF
  rw [← body_sub p t t.body [] rfl, List.append_assoc]
  rfl
theorem refTasksF_eq (p : Prg) : ∀ n, n ≤ p.tasks.length → refTasksF p n = tasksF (p.shared.map (·.name)) [] 0 (p.tasks.take n)
  | 0, _ => by rw [List.take_zero]; rfl
  | n + 1, h => by
    rw [refTasksF, refTasksF_eq p n (by omega), take_more (d := Tsk.none) (by omega), tasksF_snoc, refTaskF_eq, List.nil_append, List.length_take, Nat.min_eq_left (by omega), Nat.zero_add]
    rfl
theorem refF_eq (p : Prg) : refF p = checkF p := by
  unfold refF checkF
  rw [refTasksF_eq p _ (Nat.le_refl _), List.take_length]
end Go.Proofs.YtnegdmhmhdojbaaDoor
