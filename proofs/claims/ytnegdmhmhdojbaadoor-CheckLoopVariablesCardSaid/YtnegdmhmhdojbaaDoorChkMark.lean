/-
  Plain facts: the faults of a tree are the marks of its wanted nodes; the declarations that have no fault. No walk here.
-/
import Derived.Test.YtnegdmhmhdojbaaDoorChkPlains
import Derived.Test.YtnegdmhmhdojbaaDoorChkWhere
namespace Go.Proofs.YtnegdmhmhdojbaaDoor
set_option linter.unusedVariables false
set_option linter.unusedSimpArgs false
open Go.RowKit

theorem concatTo_nil {β : Type} {f : Nat → List β} {n : Nat} (h : concatTo f n = []) : ∀ i, i < n → f i = [] := by
  induction n with
  | zero => intro i hi; omega
  | succ n ih =>
    rw [concatTo_succ, List.append_eq_nil_iff] at h
    intro i hi
    by_cases e : i = n
    · rw [e]; exact h.2
    · exact ih h.1 i (by omega)
/-- the wanted nodes as faults -/
def marks (f : Tree → Bool) (e : Int) (l : List (List Int × Tree)) : List Flt := (l.filter (fun x => f x.2)).map (fun x => Flt.mk x.1 e x.2.name)
theorem marks_append (f : Tree → Bool) (e : Int) (l m : List (List Int × Tree)) : marks f e (l ++ m) = marks f e l ++ marks f e m := by
  unfold marks; rw [List.filter_append, List.map_append]
theorem marks_concat (f : Tree → Bool) (e : Int) (g : Nat → List (List Int × Tree)) (n : Nat) : marks f e (concatTo g n) = concatTo (fun i => marks f e (g i)) n := by
  induction n with
  | zero => rfl
  | succ n ih => rw [concatTo_succ, concatTo_succ, marks_append, ih]
theorem marks_eq (f : Tree → Bool) (e : Int) (t : Tree) (p : List Int) : marks f e (t.items p) = (if f t = true then [Flt.mk p e t.name] else []) ++ concatTo (fun i => marks f e ((t.kid i).items (p ++ [(i : Int)]))) t.len := by
  rw [t.items_eq p, ← List.singleton_append, marks_append, marks_concat]
  congr 1
  unfold marks
  by_cases h : f t = true
  · simp [h]
  · simp [h]
theorem marks_tep (f : Tree → Bool) (e k : Int) (l : List (List Int × Tree)) : ((marks f e l).map (TFlt.mk k)).map tep = (wantP f l).map (fun q => (k, e, q)) := by
  unfold marks wantP tep
  simp [List.map_map, Function.comp_def]
theorem onlyP_marks {p : Prg} {k e : Int} {f : Tree → Bool} {l : List (List Int × Tree)} (h : checkE p = (marks f e l).map (TFlt.mk k)) : onlyP p k e (wantP f l) = true := by
  unfold onlyP
  rw [h, marks_tep]
  exact decide_eq_true rfl
/-- a tree without faults, looked at with other names around it -/
theorem faultsT_marks {d0 d : Nms} {f : Tree → Bool} {e : Int} (he : e ≠ 0) (R : List ByteArray → List ByteArray → List ByteArray → List ByteArray → Prop)
    (hn : ∀ (t : Tree) (pl : Bool) (lo0 lk0 lo lk : List ByteArray), R lo0 lk0 lo lk → faultN d0 t.kind t.name pl lo0 lk0 = 0 → faultN d t.kind t.name pl lo lk = (if f t = true then e else 0) ∧ R (loopsIn t lo0) (locksIn t lk0) (loopsIn t lo) (locksIn t lk)) :
    ∀ (t : Tree) (path0 path : List Int) (pl : Bool) (lo0 lk0 lo lk : List ByteArray), R lo0 lk0 lo lk → faultsT d0 t path0 pl lo0 lk0 = [] → faultsT d t path pl lo lk = marks f e (t.items path) := by
  intro t
  induction t using Tree.ind with
  | h t ih =>
    intro path0 path pl lo0 lk0 lo lk hR h
    rw [faultsT_eq, List.append_eq_nil_iff] at h
    obtain ⟨h1, h2⟩ := h
    have h1 : faultN d0 t.kind t.name pl lo0 lk0 = 0 := by
      unfold ownF at h1
      by_cases hz : faultN d0 t.kind t.name pl lo0 lk0 = 0
      · exact hz
      · rw [if_neg hz] at h1; cases h1
    obtain ⟨h3, h4⟩ := hn t pl lo0 lk0 lo lk hR h1
    rw [faultsT_eq, marks_eq]
    congr 1
    · unfold ownF
      rw [h3]
      by_cases hf : f t = true
      · rw [if_pos hf, if_pos hf, if_neg he]
      · rw [if_neg hf, if_neg hf, if_pos rfl]
    · exact concatTo_congr fun i hi => ih i hi _ _ _ _ _ _ _ h4 (concatTo_nil h2 i hi)
/-- declarations without a fault -/
theorem declF_nil {known : ByteArray → Bool} : ∀ {l so : List ByteArray}, declF known so l = [] ↔ (∀ x ∈ l, known x = false ∧ memB so x = false) ∧ l.Pairwise (· ≠ ·)
  | [], so => by simp [declF]
  | x :: l, so => by
    rw [declF, List.append_eq_nil_iff, declF_nil]
    constructor
    · rintro ⟨h1, h2, h3⟩
      have h1 : (known x || memB so x) = false := by
        cases h : (known x || memB so x) with
        | false => rfl
        | true => rw [h] at h1; cases h1
      rw [Bool.or_eq_false_iff] at h1
      refine ⟨fun y hy => ?_, List.pairwise_cons.2 ⟨fun y hy e => ?_, h3⟩⟩
      · rcases List.mem_cons.1 hy with rfl | hy
        · exact h1
        · have := (h2 y hy).2
          rw [memB_append, Bool.or_eq_false_iff] at this
          exact ⟨(h2 y hy).1, this.1⟩
      · subst e
        have := (h2 x hy).2
        rw [memB_append, memB_iff.2 (List.mem_singleton.2 rfl), Bool.or_true] at this
        cases this
    · rintro ⟨h1, h2⟩
      obtain ⟨h2, h3⟩ := List.pairwise_cons.1 h2
      refine ⟨?_, fun y hy => ⟨(h1 y (List.mem_cons_of_mem _ hy)).1, ?_⟩, h3⟩
      · have := h1 x (List.mem_cons_self ..)
        rw [this.1, this.2]; rfl
      · rw [memB_append, (h1 y (List.mem_cons_of_mem _ hy)).2, Bool.false_or]
        cases h : memB [x] y with
        | false => rfl
        | true => exact absurd (List.mem_singleton.1 (memB_iff.1 h)).symm (h2 y hy)
theorem declF_sub {known : ByteArray → Bool} {l l' so : List ByteArray} (h : declF known so l = []) (hs : l'.Sublist l) : declF known so l' = [] := by
  rw [declF_nil] at h ⊢
  exact ⟨fun x hx => h.1 x (hs.subset hx), h.2.sublist hs⟩
end Go.Proofs.YtnegdmhmhdojbaaDoor
