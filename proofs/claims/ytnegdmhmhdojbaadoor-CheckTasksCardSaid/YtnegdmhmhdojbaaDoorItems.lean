/-
  The nodes of a tree with their paths, in pre-order. No program is named here.
-/
import Derived.Test.YtnegdmhmhdojbaaDoorTree
namespace Go.Proofs.YtnegdmhmhdojbaaDoor
set_option linter.unusedVariables false
set_option linter.unusedSimpArgs false

/-- lists, one behind the other -/
def concatTo {β : Type} (f : Nat → List β) : Nat → List β
  | 0 => []
  | n + 1 => concatTo f n ++ f n
/-- the nodes of a tree with their paths, in pre-order -/
def Tree.items : Tree → List Int → List (List Int × Tree)
  | .node k n s l kid => fun p => (p, .node k n s l kid) :: concatTo (fun i => if h : i < l then Tree.items (kid ⟨i, h⟩) (p ++ [(i : Int)]) else []) l
theorem concatTo_congr {β : Type} {f g : Nat → List β} {n : Nat} (h : ∀ i, i < n → f i = g i) : concatTo f n = concatTo g n := by
  induction n with
  | zero => rfl
  | succ n ih => unfold concatTo; rw [ih (fun i hi => h i (by omega)), h n (by omega)]
theorem Tree.items_eq (t : Tree) (p : List Int) : t.items p = (p, t) :: concatTo (fun i => (t.kid i).items (p ++ [(i : Int)])) t.len := by
  cases t with
  | node k n s l kid =>
    show _ :: concatTo _ l = _ :: concatTo _ l
    congr 1
    exact concatTo_congr fun i hi => by rw [dif_pos hi, Tree.kid_node hi]
theorem concatTo_succ {β : Type} (f : Nat → List β) (n : Nat) : concatTo f (n + 1) = concatTo f n ++ f n := rfl
theorem concatTo_le {β : Type} (f : Nat → List β) {n m : Nat} (h : n ≤ m) : ∃ r, concatTo f m = concatTo f n ++ r := by
  induction m with
  | zero => obtain rfl : n = 0 := by omega
            exact ⟨[], by simp⟩
  | succ m ih =>
    by_cases e : n = m + 1
    · subst e; exact ⟨[], by simp⟩
    · obtain ⟨r, hr⟩ := ih (by omega)
      exact ⟨r ++ f m, by rw [concatTo_succ, hr, List.append_assoc]⟩

theorem items_pre (t : Tree) (p : List Int) {j : Nat} (hj : j < t.len) {q : List (List Int × Tree)} (hq : q <+: (t.kid j).items (p ++ [(j : Int)])) :
    ((p, t) :: concatTo (fun i => (t.kid i).items (p ++ [(i : Int)])) j) ++ q <+: t.items p := by
  obtain ⟨r, hr⟩ := hq
  obtain ⟨r2, hr2⟩ := concatTo_le (fun i => (t.kid i).items (p ++ [(i : Int)])) (show j + 1 ≤ t.len by omega)
  refine ⟨r ++ r2, ?_⟩
  rw [t.items_eq p, hr2, concatTo_succ, ← hr]
  simp [List.append_assoc]

theorem items_step (t : Tree) (p : List Int) (pre : List (List Int × Tree)) {xs : List (List Int × Tree)} {j : Nat} (hj : j < t.len) (h : pre ++ t.items p <+: xs) :
    (pre ++ (p, t) :: concatTo (fun i => (t.kid i).items (p ++ [(i : Int)])) j) ++ (t.kid j).items (p ++ [(j : Int)]) <+: xs := by
  refine List.IsPrefix.trans ?_ h
  rw [List.append_assoc]
  exact (List.prefix_append_right_inj pre).2 (items_pre t p hj List.prefix_rfl)
end Go.Proofs.YtnegdmhmhdojbaaDoor
