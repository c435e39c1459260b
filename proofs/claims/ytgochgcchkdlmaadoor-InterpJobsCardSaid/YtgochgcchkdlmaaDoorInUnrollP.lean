/-
  Loops unrolled (package interp), plainly: a loop does what its block does, repeated for each value of its variable. No program is named here.
-/
import Derived.Test.YtgochgcchkdlmaaDoorInBases
import Derived.Test.YtgochgcchkdlmaaDoorChkFaults
namespace Go.Proofs.YtgochgcchkdlmaaDoor
set_option linter.unusedVariables false
set_option linter.unusedSimpArgs false
open Go.RowKit

theorem concat16_nil {β : Type} {f : Nat → List β} {n : Nat} (h : concatTo f n = []) : ∀ i, i < n → f i = [] := by
  induction n with
  | zero => intro i hi; omega
  | succ n ih =>
    rw [concatTo_succ, List.append_eq_nil_iff] at h
    intro i hi
    by_cases e : i = n
    · rw [e]; exact h.2
    · exact ih h.1 i (by omega)
/-- two states that differ in their steps, and in the variables as P says -/
def Sim (P : VF → VF → Prop) (s s' : St) : Prop := s'.A = s.A ∧ s'.out = s.out ∧ s'.rd = s.rd ∧ P s.V s'.V
def RelV (P : VF → VF → Prop) (r r' : SR) : Prop := r.2 = 13 ∨ r'.2 = 13 ∨ (r'.2 = r.2 ∧ r'.1.A = r.1.A ∧ r'.1.out = r.1.out ∧ r'.1.rd = r.1.rd ∧ (r.2 = 0 → P r.1.V r'.1.V))
section
variable {P Q : VF → VF → Prop} {bad : ByteArray → Prop} {F F' : Int} {inp : List Int}
theorem RelV.of {s s' : St} (h : Sim P s s') (e : Int) : RelV P (s, e) (s', e) := .inr (.inr ⟨rfl, h.1, h.2.1, h.2.2.1, fun _ => h.2.2.2⟩)
theorem RelV.mono {r r' : SR} (h : RelV P r r') (hPQ : ∀ V V', P V V' → Q V V') : RelV Q r r' := by
  rcases h with h | h | ⟨h1, h2, h3, h4, h5⟩
  · exact .inl h
  · exact .inr (.inl h)
  · exact .inr (.inr ⟨h1, h2, h3, h4, fun h => hPQ _ _ (h5 h)⟩)
theorem RelV.then {r r' : SR} {f f' : St → SR} (h : RelV P r r') (hf : r.2 = 0 → Sim P r.1 r'.1 → RelV Q (f r.1) (f' r'.1)) : RelV Q (r.then f) (r'.then f') := by
  rcases h with h | h | ⟨h1, h2, h3, h4, h5⟩
  · exact .inl (by rw [SR.then_er (by rw [h]; decide)]; exact h)
  · exact .inr (.inl (by rw [SR.then_er (by rw [h]; decide)]; exact h))
  · by_cases h0 : r.2 = 0
    · rw [SR.then_ok h0, SR.then_ok (h1.trans h0)]; exact hf h0 ⟨h2, h3, h4, h5 h0⟩
    · rw [SR.then_er h0, SR.then_er (by rw [h1]; exact h0)]; exact .inr (.inr ⟨h1, h2, h3, h4, fun h => absurd h h0⟩)
theorem Sim.next {s s' : St} (h : Sim P s s') : Sim P s.next s'.next := ⟨h.1, h.2.1, by show s'.rd + 1 = s.rd + 1; rw [h.2.2.1], h.2.2.2⟩
theorem Sim.put {s s' : St} {x : ByteArray} {v : Option Int} (h : Sim P s s') (hput : P s.V s'.V → Q (upd s.V x v) (upd s'.V x v)) : Sim Q (s.putV x v) (s'.putV x v) := ⟨h.1, h.2.1, h.2.2.1, hput h.2.2.2⟩
end
/-! ### lists of statements -/
/-! ### a variable replaced by a number -/
/-! ### what the checker says of names -/
theorem faults_parts {d : Nms} {t : Tree} {path : List Int} {place : Bool} {loops locks : List ByteArray} (h : faultsT d t path place loops locks = []) : faultN d t.kind t.name place loops locks = 0 ∧ ∀ i, i < t.len → faultsT d (t.kid i) (path ++ [(i : Int)]) (placeIn t i) (loopsIn t loops) (locksIn t locks) = [] := by
  rw [faultsT_eq, List.append_eq_nil_iff] at h
  refine ⟨?_, fun i hi => concat16_nil h.2 i hi⟩
  have h1 := h.1
  unfold ownF at h1
  split at h1
  · assumption
  · cases h1
theorem vld_parts {t : Tree} {c : Int} (h : t.vld c = true) : Fm.belongs t.kind c = true ∧ (t.kind = 47 → ∀ i, i < t.len → (t.kid i).vld 115 = true) ∧ (t.kind ≠ 47 → t.len = (Fm.kids t.kind).length ∧ Fm.lo t.kind ≤ t.num ∧ t.num ≤ Fm.hi t.kind ∧ ∀ i, i < t.len → (t.kid i).vld (((Fm.kids t.kind).getD i 0).toNat) = true) := by
  rw [Tree.vld_eq, Bool.and_eq_true] at h
  refine ⟨h.1, fun hk => ?_, fun hk => ?_⟩
  · have h2 := h.2
    rw [if_pos hk] at h2
    simp only [Bool.and_eq_true] at h2
    exact Tree.allTo_iff.1 h2.2
  · have h2 := h.2
    rw [if_neg hk] at h2
    simp only [Bool.and_eq_true, decide_eq_true_eq] at h2
    exact ⟨h2.1.1.2, h2.1.1.1.1, h2.1.1.1.2, Tree.allTo_iff.1 h2.2⟩
/-! ### names that are not declared have no value -/
def Dom (sc loops : List ByteArray) (V : VF) : Prop := ∀ x, x ∉ sc → x ∉ loops → V x = none
def InvV (P : VF → Prop) (r : SR) : Prop := r.2 = 0 → P r.1.V
theorem InvV.then {P Q : VF → Prop} {r : SR} {f : St → SR} (h : InvV P r) (hf : ∀ s, P s.V → InvV Q (f s)) : InvV Q (r.then f) := by
  by_cases h0 : r.2 = 0
  · rw [SR.then_ok h0]; exact hf _ (h h0)
  · rw [SR.then_er h0]; exact fun h => absurd h h0
section
variable {P : VF → Prop} {F : Int} {inp : List Int}
end
theorem Dom.put {sc loops : List ByteArray} {V : VF} {x : ByteArray} {v : Option Int} (h : Dom sc loops V) (hx : x ∈ sc) : Dom sc loops (upd V x v) := fun y h1 h2 => by
  rw [upd_other _ _ (fun e => h1 (by rw [e]; exact hx))]; exact h y h1 h2
/-! ### the first loop of a list of statements, unrolled -/
end Go.Proofs.YtgochgcchkdlmaaDoor
