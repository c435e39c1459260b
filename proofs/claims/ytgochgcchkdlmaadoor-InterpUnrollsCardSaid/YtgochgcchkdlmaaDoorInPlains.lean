/-
  InPlains: several texts in one (InFuelP, InInputP, InSplitP).
-/
import Derived.Test.YtgochgcchkdlmaaDoorInBases
/-
  Fuel (package interp), plainly: a run with less fuel is the beginning of one with more. No program is named here.
-/
namespace Go.Proofs.YtgochgcchkdlmaaDoor
set_option linter.unusedVariables false
set_option linter.unusedSimpArgs false
open Go.RowKit

/-- what a run does to the counters: it adds steps, outputs, inputs; 13 only at the end of the fuel -/
def Grows (F : Int) (s : St) (r : SR) : Prop := s.st ≤ r.1.st ∧ (∃ l, r.1.out = s.out ++ l) ∧ s.rd ≤ r.1.rd ∧ (r.2 = 13 → F ≤ (r.1.st : Int)) ∧ ((s.st : Int) ≤ F → (r.1.st : Int) ≤ F)
theorem Grows.refl {F : Int} {s : St} {V : VF} {A : AF} {k : Int} (hk : k ≠ 13) : Grows F s (⟨V, A, s.out, s.rd, s.st⟩, k) := ⟨Nat.le_refl _, ⟨[], by simp⟩, Nat.le_refl _, fun h => absurd h hk, id⟩
theorem Grows.then {F : Int} {s : St} {r : SR} {f : St → SR} (h : Grows F s r) (hf : Grows F r.1 (f r.1)) : Grows F s (r.then f) := by
  by_cases h0 : r.2 = 0
  · rw [SR.then_ok h0]
    obtain ⟨h1, ⟨l, h2⟩, h3, h4, h5⟩ := h
    obtain ⟨g1, ⟨m, g2⟩, g3, g4, g5⟩ := hf
    exact ⟨Nat.le_trans h1 g1, ⟨l ++ m, by rw [g2, h2, List.append_assoc]⟩, Nat.le_trans h3 g3, g4, fun h => g5 (h5 h)⟩
  · rw [SR.then_er h0]; exact h
theorem stp_grows (F : Int) (s : St) : Grows F s (stp F s) := by
  unfold stp
  by_cases h : F ≤ (s.st : Int)
  · rw [if_pos h]; exact ⟨Nat.le_refl _, ⟨[], by simp⟩, Nat.le_refl _, fun _ => h, id⟩
  · rw [if_neg h]; exact ⟨Nat.le_succ _, ⟨[], by simp⟩, Nat.le_refl _, fun h => absurd (show (0 : Int) = 13 from h) (by decide), fun _ => by show ((s.st + 1 : Nat) : Int) ≤ F; omega⟩
/-- two runs from the same state: alike, or the shorter one has ended with 13 -/
def Rel (F : Int) (r r' : SR) : Prop := (r.2 ≠ 13 ∧ r = r') ∨ (r.2 = 13 ∧ (r.1.st : Int) = F ∧ (∃ l, r'.1.out = r.1.out ++ l) ∧ r.1.rd ≤ r'.1.rd ∧ F < (r'.1.st : Int))
theorem Rel.refl {F : Int} {r : SR} (h : r.2 ≠ 13) : Rel F r r := .inl ⟨h, rfl⟩
theorem Rel.then {F F' : Int} {r r' : SR} {f f' : St → SR} (h : Rel F r r') (hf : r.2 = 0 → Rel F (f r.1) (f' r.1)) (hg : Grows F' r'.1 (f' r'.1)) : Rel F (r.then f) (r'.then f') := by
  rcases h with ⟨h1, rfl⟩ | ⟨h1, h2, ⟨l, h3⟩, h4, h5⟩
  · by_cases h0 : r.2 = 0
    · rw [SR.then_ok h0, SR.then_ok h0]; exact hf h0
    · rw [SR.then_er h0, SR.then_er h0]; exact .inl ⟨h1, rfl⟩
  · rw [SR.then_er (by rw [h1]; decide)]
    by_cases h0 : r'.2 = 0
    · rw [SR.then_ok h0]
      obtain ⟨g1, ⟨m, g2⟩, g3, _⟩ := hg
      exact .inr ⟨h1, h2, ⟨l ++ m, by rw [g2, h3, List.append_assoc]⟩, Nat.le_trans h4 g3, by omega⟩
    · rw [SR.then_er h0]; exact .inr ⟨h1, h2, ⟨l, h3⟩, h4, h5⟩
theorem stp_rel {F F' : Int} {s : St} (hF : F < F') (hs : (s.st : Int) ≤ F) : Rel F (stp F s) (stp F' s) := by
  unfold stp
  by_cases h : F ≤ (s.st : Int)
  · rw [if_pos h, if_neg (by omega)]
    exact .inr ⟨rfl, by show (s.st : Int) = F; omega, ⟨[], by simp⟩, Nat.le_refl _, by show F < ((s.st + 1 : Nat) : Int); omega⟩
  · rw [if_neg h, if_neg (by omega)]
    exact .inl ⟨by show (0 : Int) ≠ 13; decide, rfl⟩
/-- an expression never ends with 13 -/
theorem Wd.err_13 (k y : Int) : Wd.err k y ≠ 13 := by
  unfold Wd.err
  split
  · decide
  · split <;> decide
theorem ev_13 (V : VF) (A : AF) : ∀ (t : Tree) (k : Int), t.ev V A = .er k → k ≠ 13 := by
  intro t
  induction t using Tree.ind with
  | h t ih =>
    intro k hk
    rw [Tree.ev_eq] at hk
    have h0 : ∀ k, (if 0 < t.len then (t.kid 0).ev V A else .ok 0) = .er k → k ≠ 13 := fun k h => by
      by_cases hl : 0 < t.len
      · rw [if_pos hl] at h; exact ih 0 hl k h
      · rw [if_neg hl] at h; cases h
    have h1 : ∀ k, (if 1 < t.len then (t.kid 1).ev V A else .ok 0) = .er k → k ≠ 13 := fun k h => by
      by_cases hl : 1 < t.len
      · rw [if_pos hl] at h; exact ih 1 hl k h
      · rw [if_neg hl] at h; cases h
    generalize (if 0 < t.len then (t.kid 0).ev V A else EV.ok 0) = e0 at hk h0
    generalize (if 1 < t.len then (t.kid 1).ev V A else EV.ok 0) = e1 at hk h1
    unfold evB at hk
    split at hk
    · cases hk
    split at hk
    · unfold optV at hk; split at hk
      · cases hk
      · cases hk; decide
    split at hk
    · split at hk
      · cases hk; decide
      · cases e0 with
        | er j => cases hk; exact h0 _ rfl
        | ok v =>
          have hk : elemV _ v = .er k := hk
          unfold elemV at hk
          split at hk
          · cases hk
          · cases hk; decide
    split at hk
    · cases e0 with
      | er j => cases hk; exact h0 _ rfl
      | ok v => cases hk
    · cases e0 with
      | er j => cases hk; exact h0 _ rfl
      | ok x =>
        cases e1 with
        | er j => cases hk; exact h1 _ rfl
        | ok y =>
          have hk : (if Wd.err t.kind y = 0 then EV.ok _ else EV.er (Wd.err t.kind y)) = .er k := hk
          split at hk
          · cases hk
          · cases hk; exact Wd.err_13 _ _
theorem runE_grows {F : Int} {v : EV} {s : St} {f : Int → SR} (hv : ∀ k, v = .er k → k ≠ 13) (hf : ∀ x, Grows F s (f x)) : Grows F s (runE v s f) := by
  cases v with
  | ok x => exact hf x
  | er k => exact Grows.refl (V := s.V) (A := s.A) (hv k rfl)
theorem runE_rel {F : Int} {v : EV} {s : St} {f f' : Int → SR} (hv : ∀ k, v = .er k → k ≠ 13) (hf : ∀ x, Rel F (f x) (f' x)) : Rel F (runE v s f) (runE v s f') := by
  cases v with
  | ok x => exact hf x
  | er k => exact Rel.refl (hv k rfl)
theorem seqTo_grows {F : Int} {f : Nat → St → SR} (hf : ∀ i s, Grows F s (f i s)) : ∀ (n : Nat) (s : St), Grows F s (seqTo f n s)
  | 0, s => Grows.refl (V := s.V) (A := s.A) (by decide)
  | n + 1, s => (seqTo_grows hf n s).then (hf n _)
theorem seqTo_rel {F F' : Int} {f f' : Nat → St → SR} (hg : ∀ i s, Grows F s (f i s)) (hg' : ∀ i s, Grows F' s (f' i s)) (hf : ∀ i s, (s.st : Int) ≤ F → Rel F (f i s) (f' i s)) : ∀ (n : Nat) (s : St), (s.st : Int) ≤ F → Rel F (seqTo f n s) (seqTo f' n s)
  | 0, s, _ => Rel.refl (show (0 : Int) ≠ 13 by decide)
  | n + 1, s, hs => (seqTo_rel hg hg' hf n s hs).then (fun _ => hf n _ ((seqTo_grows hg n s).2.2.2.2 hs)) (hg' n _)
theorem whl_grows {F : Int} {c : St → EV} {b : St → SR} (hc : ∀ s k, c s = .er k → k ≠ 13) (hb : ∀ s, Grows F s (b s)) : ∀ (n : Nat) (s : St), Grows F s (whl F c b n s)
  | 0, s => (stp_grows F s).then (runE_grows (hc _) (fun x => by
      by_cases h : x = 0
      · rw [if_pos h]; exact Grows.refl (V := (stp F s).1.V) (A := (stp F s).1.A) (by decide)
      · rw [if_neg h]; exact Grows.refl (V := (stp F s).1.V) (A := (stp F s).1.A) (by decide)))
  | n + 1, s => (stp_grows F s).then (runE_grows (hc _) (fun x => by
      by_cases h : x = 0
      · rw [if_pos h]; exact Grows.refl (V := (stp F s).1.V) (A := (stp F s).1.A) (by decide)
      · rw [if_neg h]; exact (hb _).then (whl_grows hc hb n _)))
theorem whl_rel {F F' : Int} (hF : F < F') {c : St → EV} {b b' : St → SR} (hc : ∀ s k, c s = .er k → k ≠ 13) (hb : ∀ s, Grows F s (b s)) (hb' : ∀ s, Grows F' s (b' s)) (hr : ∀ s, (s.st : Int) ≤ F → Rel F (b s) (b' s)) : ∀ (n : Nat) (s : St), (s.st : Int) ≤ F → Rel F (whl F c b n s) (whl F' c b' n s)
  | 0, s, hs => (stp_rel hF hs).then (F' := F') (fun _ => runE_rel (hc _) (fun x => by
      by_cases h : x = 0
      · rw [if_pos h]; exact Rel.refl (show (0 : Int) ≠ 13 by decide)
      · rw [if_neg h]; exact Rel.refl (show (11 : Int) ≠ 13 by decide))) (runE_grows (hc _) (fun x => by
      by_cases h : x = 0
      · rw [if_pos h]; exact Grows.refl (V := (stp F' s).1.V) (A := (stp F' s).1.A) (by decide)
      · rw [if_neg h]; exact Grows.refl (V := (stp F' s).1.V) (A := (stp F' s).1.A) (by decide)))
  | n + 1, s, hs => (stp_rel hF hs).then (F' := F') (fun _ => runE_rel (hc _) (fun x => by
      by_cases h : x = 0
      · rw [if_pos h, if_pos h]; exact Rel.refl (show (0 : Int) ≠ 13 by decide)
      · rw [if_neg h, if_neg h]
        have h1 := (stp_grows F s).2.2.2.2 hs
        exact (hr _ h1).then (F' := F') (fun _ => whl_rel hF hc hb hb' hr n _ ((hb _).2.2.2.2 h1)) (whl_grows hc hb' n _))) (runE_grows (hc _) (fun x => by
      by_cases h : x = 0
      · rw [if_pos h]; exact Grows.refl (V := (stp F' s).1.V) (A := (stp F' s).1.A) (by decide)
      · rw [if_neg h]; exact (hb' _).then (whl_grows hc hb' n _)))
/-- a store adds nothing -/
def Keeps (s : St) (r : SR) : Prop := r.2 ≠ 13 ∧ r.1.out = s.out ∧ s.rd ≤ r.1.rd ∧ r.1.st = s.st
theorem Keeps.grows {F : Int} {s : St} {r : SR} (h : Keeps s r) : Grows F s r := ⟨Nat.le_of_eq h.2.2.2.symm, ⟨[], by rw [h.2.1, List.append_nil]⟩, h.2.2.1, fun e => absurd e h.1, fun e => by rw [h.2.2.2]; exact e⟩
theorem putA_keeps (s : St) (nm : ByteArray) (i v : Int) : Keeps s (s.putA nm i v) := by
  unfold St.putA
  split
  · exact ⟨show (11 : Int) ≠ 13 by decide, rfl, Nat.le_refl _, rfl⟩
  · split
    · exact ⟨show (0 : Int) ≠ 13 by decide, rfl, Nat.le_refl _, rfl⟩
    · exact ⟨show (11 : Int) ≠ 13 by decide, rfl, Nat.le_refl _, rfl⟩
theorem getA_keeps (inp : List Int) (s : St) (nm : ByteArray) (i : Int) : Keeps s (s.getA inp nm i) := by
  unfold St.getA
  split
  · exact ⟨show (11 : Int) ≠ 13 by decide, rfl, Nat.le_refl _, rfl⟩
  · split
    · obtain ⟨h1, h2, h3, h4⟩ := putA_keeps s.next nm i (nxt inp s)
      exact ⟨h1, h2, Nat.le_trans (Nat.le_succ _) h3, h4⟩
    · exact ⟨show (11 : Int) ≠ 13 by decide, rfl, Nat.le_refl _, rfl⟩
theorem exB_grows {F : Int} {inp : List Int} {k n : Int} {nm : ByteArray} {p : Tree} {e : Nat → St → EV} {b : Nat → St → SR} (he : ∀ i s k, e i s = .er k → k ≠ 13) (hb : ∀ i s, Grows F s (b i s)) (s : St) : Grows F s (exB F inp k n nm p e b s) := by
  unfold exB
  split
  · split
    · exact runE_grows (he 1 s) (fun v => Keeps.grows ⟨show (0 : Int) ≠ 13 by decide, rfl, Nat.le_refl _, rfl⟩)
    · exact runE_grows (ev_13 _ _ _) (fun i => runE_grows (he 1 s) (fun v => (putA_keeps s p.name i v).grows))
  split
  · refine runE_grows (he 0 s) (fun x => ?_)
    by_cases h : x = 0
    · rw [if_pos h]; exact hb 2 s
    · rw [if_neg h]; exact hb 1 s
  split
  · refine (seqTo_grows (fun i s1 => ?_) _ s).then ?_
    · exact (show Grows F s1 (stp F (s1.putV nm (some (i : Int)))) from stp_grows F (s1.putV nm (some (i : Int)))).then (hb 0 _)
    · exact Keeps.grows ⟨show (0 : Int) ≠ 13 by decide, rfl, Nat.le_refl _, rfl⟩
  split
  · exact whl_grows (fun s1 k h => he 0 s1 k h) (hb 1) _ s
  split
  · split
    · exact Keeps.grows ⟨show (0 : Int) ≠ 13 by decide, rfl, Nat.le_succ _, rfl⟩
    · exact runE_grows (ev_13 _ _ _) (fun i => (getA_keeps inp s p.name i).grows)
  split
  · exact runE_grows (he 0 s) (fun v => ⟨Nat.le_refl _, ⟨[(n, v)], rfl⟩, Nat.le_refl _, fun h => absurd (show (0 : Int) = 13 from h) (by decide), id⟩)
  · exact hb 0 s
theorem exB_rel {F F' : Int} (hF : F < F') {inp : List Int} {k n : Int} {nm : ByteArray} {p : Tree} {e : Nat → St → EV} {b b' : Nat → St → SR} (he : ∀ i s k, e i s = .er k → k ≠ 13) (hb : ∀ i s, Grows F s (b i s)) (hb' : ∀ i s, Grows F' s (b' i s)) (hr : ∀ i s, (s.st : Int) ≤ F → Rel F (b i s) (b' i s)) (s : St) (hs : (s.st : Int) ≤ F) : Rel F (exB F inp k n nm p e b s) (exB F' inp k n nm p e b' s) := by
  unfold exB
  split
  · split
    · exact runE_rel (he 1 s) (fun v => Rel.refl (show (0 : Int) ≠ 13 by decide))
    · exact runE_rel (ev_13 _ _ _) (fun i => runE_rel (he 1 s) (fun v => Rel.refl (putA_keeps s p.name i v).1))
  split
  · refine runE_rel (he 0 s) (fun x => ?_)
    by_cases h : x = 0
    · rw [if_pos h, if_pos h]; exact hr 2 s hs
    · rw [if_neg h, if_neg h]; exact hr 1 s hs
  split
  · have g : ∀ (F : Int) (b : Nat → St → SR), (∀ i s, Grows F s (b i s)) → ∀ i s1, Grows F s1 (forR F nm (b 0) i s1) := fun F b hb i s1 => (show Grows F s1 (stp F (s1.putV nm (some (i : Int)))) from stp_grows F (s1.putV nm (some (i : Int)))).then (hb 0 _)
    refine (seqTo_rel (g F b hb) (g F' b' hb') (fun i s1 h1 => ?_) _ s hs).then (F' := F') (fun _ => Rel.refl (show (0 : Int) ≠ 13 by decide)) (Keeps.grows ⟨show (0 : Int) ≠ 13 by decide, rfl, Nat.le_refl _, rfl⟩)
    exact (stp_rel hF (s := s1.putV nm (some (i : Int))) h1).then (F' := F') (fun _ => hr 0 _ ((stp_grows F (s1.putV nm (some (i : Int)))).2.2.2.2 h1)) (hb' 0 _)
  split
  · exact whl_rel hF (fun s1 k h => he 0 s1 k h) (hb 1) (hb' 1) (hr 1) _ s hs
  split
  · split
    · exact Rel.refl (show (0 : Int) ≠ 13 by decide)
    · exact runE_rel (ev_13 _ _ _) (fun i => Rel.refl (getA_keeps inp s p.name i).1)
  split
  · exact runE_rel (he 0 s) (fun v => Rel.refl (show (0 : Int) ≠ 13 by decide))
  · exact hr 0 s hs
theorem kidE_13 (t : Tree) (i : Nat) (s : St) (k : Int) (h : kidE t i s = .er k) : k ≠ 13 := by
  unfold kidE at h
  split at h
  · exact ev_13 _ _ _ _ h
  · cases h
theorem ex_grows (F : Int) (inp : List Int) : ∀ (t : Tree) (s : St), Grows F s (t.ex F inp s) := by
  intro t
  induction t using Tree.ind with
  | h t ih =>
    intro s
    have hk : ∀ i s, Grows F s (kidX F inp t i s) := fun i s => by
      unfold kidX
      split
      · exact ih i (by assumption) s
      · exact Grows.refl (V := s.V) (A := s.A) (by decide)
    rw [Tree.ex_eq]
    split
    · exact seqTo_grows hk _ s
    · exact (stp_grows F s).then (exB_grows (kidE_13 t) hk _)
theorem ex_rel {F F' : Int} (hF : F < F') (inp : List Int) : ∀ (t : Tree) (s : St), (s.st : Int) ≤ F → Rel F (t.ex F inp s) (t.ex F' inp s) := by
  intro t
  induction t using Tree.ind with
  | h t ih =>
    intro s hs
    have hk : ∀ (F : Int) i s, Grows F s (kidX F inp t i s) := fun F i s => by
      unfold kidX
      split
      · exact ex_grows F inp _ s
      · exact Grows.refl (V := s.V) (A := s.A) (by decide)
    have hr : ∀ i s, (s.st : Int) ≤ F → Rel F (kidX F inp t i s) (kidX F' inp t i s) := fun i s h => by
      unfold kidX
      split
      · exact ih i (by assumption) s h
      · exact Rel.refl (show (0 : Int) ≠ 13 by decide)
    rw [Tree.ex_eq, Tree.ex_eq]
    split
    · exact seqTo_rel (hk F) (hk F') hr _ s hs
    · exact (stp_rel hF hs).then (F' := F') (fun _ => exB_rel hF (kidE_13 t) (hk F) (hk F') hr _ ((stp_grows F s).2.2.2.2 hs)) (exB_grows (kidE_13 t) (hk F') _)
end Go.Proofs.YtgochgcchkdlmaaDoor

/-
  Input (package interp), plainly: a run depends on no value beyond those that it counts. No program is named here.
-/
namespace Go.Proofs.YtgochgcchkdlmaaDoor
set_option linter.unusedVariables false
set_option linter.unusedSimpArgs false
open Go.RowKit

/-- two lists that are alike from a place up to another -/
def Alike (inp inp' : List Int) (a b : Nat) : Prop := ∀ k, a ≤ k → k < b → inp'.getD k 0 = inp.getD k 0
/-- what a run reads counts; alike there, the runs are alike -/
def RdS (inp inp' : List Int) (s : St) (r r' : SR) : Prop := s.rd ≤ r.1.rd ∧ (Alike inp inp' s.rd r.1.rd → r' = r)
section
variable {inp inp' : List Int}
theorem RdS.same {s : St} {r : SR} (h : s.rd ≤ r.1.rd) : RdS inp inp' s r r := ⟨h, fun _ => rfl⟩
theorem RdS.then {s : St} {r r' : SR} {f f' : St → SR} (h : RdS inp inp' s r r') (hf : RdS inp inp' r.1 (f r.1) (f' r.1)) : RdS inp inp' s (r.then f) (r'.then f') := by
  obtain ⟨h1, h2⟩ := h
  by_cases h0 : r.2 = 0
  · rw [SR.then_ok h0]
    refine ⟨Nat.le_trans h1 hf.1, fun ha => ?_⟩
    rw [h2 (fun k hk1 hk2 => ha k hk1 (Nat.lt_of_lt_of_le hk2 hf.1)), SR.then_ok h0]
    exact hf.2 (fun k hk1 hk2 => ha k (Nat.le_trans h1 hk1) hk2)
  · rw [SR.then_er h0]
    refine ⟨h1, fun ha => ?_⟩
    rw [h2 ha, SR.then_er h0]
theorem stp_rd (F : Int) (s : St) : s.rd ≤ (stp F s).1.rd := by
  unfold stp
  split
  · exact Nat.le_refl _
  · exact Nat.le_refl _
theorem runE_rdS {v : EV} {s : St} {f f' : Int → SR} (h : ∀ x, RdS inp inp' s (f x) (f' x)) : RdS inp inp' s (runE v s f) (runE v s f') := by
  unfold runE
  split
  · exact h _
  · exact RdS.same (Nat.le_refl _)
theorem seqTo_rdS {f f' : Nat → St → SR} (h : ∀ i s, RdS inp inp' s (f i s) (f' i s)) : ∀ (n : Nat) (s : St), RdS inp inp' s (seqTo f n s) (seqTo f' n s)
  | 0, s => RdS.same (Nat.le_refl _)
  | n + 1, s => (seqTo_rdS h n s).then (h n _)
theorem whl_rdS {F : Int} {c : St → EV} {b b' : St → SR} (h : ∀ s, RdS inp inp' s (b s) (b' s)) : ∀ (n : Nat) (s : St), RdS inp inp' s (whl F c b n s) (whl F c b' n s)
  | 0, s => (RdS.same (stp_rd F s)).then (runE_rdS (fun x => by
      by_cases h : x = 0
      · rw [if_pos h]; exact RdS.same (Nat.le_refl _)
      · rw [if_neg h]; exact RdS.same (Nat.le_refl _)))
  | n + 1, s => (RdS.same (stp_rd F s)).then (runE_rdS (fun x => by
      by_cases h0 : x = 0
      · rw [if_pos h0, if_pos h0]; exact RdS.same (Nat.le_refl _)
      · rw [if_neg h0, if_neg h0]; exact (h _).then (whl_rdS h n _)))
theorem putA_rd (s : St) (nm : ByteArray) (i v : Int) : (s.putA nm i v).1.rd = s.rd := by
  unfold St.putA
  split
  · rfl
  · split <;> rfl
theorem nxt_alike {s : St} {b : Nat} (h : Alike inp inp' s.rd b) (hb : s.rd < b) : nxt inp' s = nxt inp s := h s.rd (Nat.le_refl _) hb
theorem getA_rdS (s : St) (nm : ByteArray) (i : Int) : RdS inp inp' s (s.getA inp nm i) (s.getA inp' nm i) := by
  unfold St.getA
  split
  · exact RdS.same (Nat.le_refl _)
  · split
    · have h1 : (s.next.putA nm i (nxt inp s)).1.rd = s.rd + 1 := putA_rd _ _ _ _
      exact ⟨by rw [h1]; exact Nat.le_succ _, fun ha => by rw [nxt_alike ha (by rw [h1]; exact Nat.lt_succ_self _)]⟩
    · exact RdS.same (Nat.le_refl _)
theorem exB_rdS {F k n : Int} {nm : ByteArray} {p : Tree} {e : Nat → St → EV} {b b' : Nat → St → SR} (h : ∀ i s, RdS inp inp' s (b i s) (b' i s)) (s : St) : RdS inp inp' s (exB F inp k n nm p e b s) (exB F inp' k n nm p e b' s) := by
  unfold exB
  split
  · split
    · exact runE_rdS (fun v => RdS.same (Nat.le_refl _))
    · exact runE_rdS (fun i => runE_rdS (fun v => RdS.same (Nat.le_of_eq (putA_rd s p.name i v).symm)))
  split
  · refine runE_rdS (fun x => ?_)
    by_cases h0 : x = 0
    · rw [if_pos h0, if_pos h0]; exact h 2 s
    · rw [if_neg h0, if_neg h0]; exact h 1 s
  split
  · refine RdS.then (seqTo_rdS (fun i s1 => ?_) _ s) ?_
    · exact RdS.then (s := s1) (RdS.same (stp_rd F (s1.putV nm (some (i : Int))))) (h 0 _)
    · exact RdS.same (Nat.le_refl _)
  split
  · exact whl_rdS (h 1) _ s
  split
  · split
    · exact ⟨Nat.le_succ _, fun ha => by rw [nxt_alike ha (Nat.lt_succ_self _)]⟩
    · exact runE_rdS (fun i => getA_rdS s p.name i)
  split
  · exact runE_rdS (fun v => RdS.same (Nat.le_refl _))
  · exact h 0 s
end
/-- a run with other inputs, alike where the run reads, is the same -/
theorem ex_rdS (F : Int) (inp inp' : List Int) : ∀ (t : Tree) (s : St), RdS inp inp' s (t.ex F inp s) (t.ex F inp' s) := by
  intro t
  induction t using Tree.ind with
  | h t ih =>
    intro s
    have hk : ∀ i s, RdS inp inp' s (kidX F inp t i s) (kidX F inp' t i s) := fun i s => by
      unfold kidX
      split
      · exact ih i (by assumption) s
      · exact RdS.same (Nat.le_refl _)
    rw [Tree.ex_eq, Tree.ex_eq]
    split
    · exact seqTo_rdS hk _ s
    · exact (RdS.same (stp_rd F s)).then (exB_rdS hk _)
end Go.Proofs.YtgochgcchkdlmaaDoor

/-
  Steps (package interp), plainly: a run that begins one step later, with one more fuel, is the same run, one step later. No program is named here.
-/
namespace Go.Proofs.YtgochgcchkdlmaaDoor
set_option linter.unusedVariables false
set_option linter.unusedSimpArgs false
open Go.RowKit

/-- one step later -/
def up (s : St) : St := { s with st := s.st + 1 }
def ups (r : SR) : SR := (up r.1, r.2)
theorem ups_then {r : SR} {f f' : St → SR} (h : ∀ s, f' (up s) = ups (f s)) : (ups r).then f' = ups (r.then f) := by
  by_cases h0 : r.2 = 0
  · rw [SR.then_ok h0, SR.then_ok (show (ups r).2 = 0 from h0)]; exact h _
  · rw [SR.then_er h0, SR.then_er (show (ups r).2 ≠ 0 from h0)]
theorem stp_up (F : Int) (s : St) : stp (F + 1) (up s) = ups (stp F s) := by
  unfold stp
  by_cases h : F ≤ (s.st : Int)
  · rw [if_pos h, if_pos (by show F + 1 ≤ ((s.st + 1 : Nat) : Int); omega)]; rfl
  · rw [if_neg h, if_neg (by show ¬ F + 1 ≤ ((s.st + 1 : Nat) : Int); omega)]; rfl
theorem runE_up {v : EV} {s : St} {f f' : Int → SR} (h : ∀ x, f' x = ups (f x)) : runE v (up s) f' = ups (runE v s f) := by
  unfold runE
  split
  · exact h _
  · rfl
theorem seqTo_up {f f' : Nat → St → SR} (h : ∀ i s, f' i (up s) = ups (f i s)) : ∀ (n : Nat) (s : St), seqTo f' n (up s) = ups (seqTo f n s)
  | 0, s => rfl
  | n + 1, s => by
    show (seqTo f' n (up s)).then (f' n) = ups ((seqTo f n s).then (f n))
    rw [seqTo_up h n s]
    exact ups_then (h n)
theorem whl_up {F : Int} {c c' : St → EV} {b b' : St → SR} (hc : ∀ s, c' (up s) = c s) (h : ∀ s, b' (up s) = ups (b s)) : ∀ (n : Nat) (s : St), whl (F + 1) c' b' n (up s) = ups (whl F c b n s)
  | 0, s => by
    show (stp (F + 1) (up s)).then _ = ups ((stp F s).then _)
    rw [stp_up]
    refine ups_then (fun s1 => ?_)
    rw [hc]
    refine runE_up (fun x => ?_)
    by_cases h0 : x = 0
    · rw [if_pos h0, if_pos h0]; rfl
    · rw [if_neg h0, if_neg h0]; rfl
  | n + 1, s => by
    show (stp (F + 1) (up s)).then _ = ups ((stp F s).then _)
    rw [stp_up]
    refine ups_then (fun s1 => ?_)
    rw [hc]
    refine runE_up (fun x => ?_)
    by_cases h0 : x = 0
    · rw [if_pos h0, if_pos h0]; rfl
    · rw [if_neg h0, if_neg h0, h]; exact ups_then (fun s2 => whl_up hc h n s2)
theorem putA_up (s : St) (nm : ByteArray) (i v : Int) : (up s).putA nm i v = ups (s.putA nm i v) := by
  unfold St.putA
  show (match s.A nm with | none => _ | some a => _) = _
  cases s.A nm with
  | none => rfl
  | some a =>
    show (if _ then _ else _) = ups (if _ then _ else _)
    split <;> rfl
theorem getA_up (inp : List Int) (s : St) (nm : ByteArray) (i : Int) : (up s).getA inp nm i = ups (s.getA inp nm i) := by
  unfold St.getA
  show (match s.A nm with | none => _ | some a => _) = _
  cases s.A nm with
  | none => rfl
  | some a =>
    show (if _ then _ else _) = ups (if _ then _ else _)
    split
    · exact putA_up s.next nm i (nxt inp s)
    · rfl
theorem exB_up {F : Int} {inp : List Int} {k n : Int} {nm : ByteArray} {p : Tree} {e : Nat → St → EV} {b b' : Nat → St → SR} (he : ∀ i s, e i (up s) = e i s) (hb : ∀ i s, b' i (up s) = ups (b i s)) (s : St) : exB (F + 1) inp k n nm p e b' (up s) = ups (exB F inp k n nm p e b s) := by
  unfold exB
  split
  · split
    · rw [he]; exact runE_up (fun v => rfl)
    · refine runE_up (v := (p.kid 0).ev s.V s.A) (fun i => ?_)
      rw [he]
      exact runE_up (fun v => putA_up s p.name i v)
  split
  · rw [he]
    refine runE_up (fun x => ?_)
    by_cases h0 : x = 0
    · rw [if_pos h0, if_pos h0]; exact hb 2 s
    · rw [if_neg h0, if_neg h0]; exact hb 1 s
  split
  · rw [seqTo_up (f := forR F nm (b 0)) (fun i s1 => ?_)]
    · exact ups_then (fun s1 => rfl)
    · show (stp (F + 1) (up (s1.putV nm (some (i : Int))))).then (b' 0) = ups ((stp F (s1.putV nm (some (i : Int)))).then (b 0))
      rw [stp_up]
      exact ups_then (hb 0)
  split
  · exact whl_up (he 0) (hb 1) _ s
  split
  · split
    · rfl
    · exact runE_up (v := (p.kid 0).ev s.V s.A) (fun i => getA_up inp s p.name i)
  split
  · rw [he]; exact runE_up (fun v => rfl)
  · exact hb 0 s
theorem ex_up (F : Int) (inp : List Int) : ∀ (t : Tree) (s : St), t.ex (F + 1) inp (up s) = ups (t.ex F inp s) := by
  intro t
  induction t using Tree.ind with
  | h t ih =>
    intro s
    have hk : ∀ i s, kidX (F + 1) inp t i (up s) = ups (kidX F inp t i s) := fun i s => by
      unfold kidX
      split
      · exact ih i (by assumption) s
      · rfl
    rw [Tree.ex_eq, Tree.ex_eq]
    split
    · exact seqTo_up hk _ s
    · rw [stp_up]; exact ups_then (exB_up (fun i s => rfl) hk)
theorem seqTo_add (f : Nat → St → SR) (a : Nat) (s : St) : ∀ b, seqTo f (a + b) s = (seqTo f a s).then (seqTo (fun i => f (a + i)) b)
  | 0 => by
    show seqTo f a s = (seqTo f a s).then (fun s => (s, 0))
    by_cases h : (seqTo f a s).2 = 0
    · rw [SR.then_ok h]; exact Prod.ext rfl h
    · rw [SR.then_er h]
  | b + 1 => by
    show (seqTo f (a + b) s).then (f (a + b)) = (seqTo f a s).then (fun s => (seqTo (fun i => f (a + i)) b s).then (f (a + b)))
    rw [seqTo_add f a s b]
    by_cases h : (seqTo f a s).2 = 0
    · rw [SR.then_ok h, SR.then_ok h]
    · rw [SR.then_er h, SR.then_er h, SR.then_er h]
theorem seqTo_congr {f g : Nat → St → SR} {n : Nat} (h : ∀ i, i < n → f i = g i) : ∀ s, seqTo f n s = seqTo g n s := by
  induction n with
  | zero => intro s; rfl
  | succ n ih =>
    intro s
    show (seqTo f n s).then (f n) = (seqTo g n s).then (g n)
    rw [ih (fun i hi => h i (by omega)), h n (by omega)]
/-! ### a constant condition at the beginning of a body -/
/-- the first part of a block, or the rest -/
def blk (t : Tree) (a n : Nat) : Tree := .make 47 0 ⟨#[]⟩ n (fun i => t.kid (a + i))
def numT (n : Int) : Tree := .leaf 1 n ⟨#[]⟩
def ifT (c a b : Tree) : Tree := .make 41 0 ⟨#[]⟩ 3 (fun i => if i = 0 then c else if i = 1 then a else b)
def splitT (t : Tree) (k : Nat) (truth : Bool) : Tree :=
  .make 47 0 ⟨#[]⟩ (1 + (t.len - k)) (fun i => if i = 0 then (if truth then ifT (numT 7) (blk t 0 k) (blk t k (t.len - k)) else ifT (numT 0) (blk t k (t.len - k)) (blk t 0 k)) else t.kid (k + (i - 1)))
theorem blk_ex (t : Tree) (k : Nat) (hk : k ≤ t.len) (F : Int) (inp : List Int) (s : St) : (blk t 0 k).ex F inp s = seqTo (kidX F inp t) k s := by
  rw [Tree.ex_eq, if_pos (show (blk t 0 k).kind = 47 from rfl)]
  refine seqTo_congr (fun i hi => ?_) s
  funext s
  unfold kidX
  have hi' : i < (blk t 0 k).len := hi
  have hi2 : i < k := hi
  rw [if_pos hi', if_pos (by omega), show (blk t 0 k).kid i = t.kid (0 + i) from Tree.make_kid hi, Nat.zero_add]
theorem split_ex (t : Tree) (k : Nat) (truth : Bool) (hk : k ≤ t.len) (h47 : t.kind = 47) (F : Int) (hF : 0 ≤ F) (inp : List Int) (s : St) (hs : s.st = 0) : (splitT t k truth).ex (F + 1) inp s = ups (t.ex F inp s) := by
  rw [Tree.ex_eq, if_pos (show (splitT t k truth).kind = 47 from rfl)]
  show seqTo _ (1 + (t.len - k)) s = _
  rw [seqTo_add]
  have e1 : seqTo (kidX (F + 1) inp (splitT t k truth)) 1 s = ups (seqTo (kidX F inp t) k s) := by
    show SR.then (s, 0) (kidX (F + 1) inp (splitT t k truth) 0) = _
    rw [SR.then_ok rfl]
    have h0 : 0 < (splitT t k truth).len := by show 0 < 1 + _; omega
    rw [show kidX (F + 1) inp (splitT t k truth) 0 s = ((splitT t k truth).kid 0).ex (F + 1) inp s from if_pos h0]
    obtain ⟨c, a, b, hc, hx⟩ : ∃ c a b, (splitT t k truth).kid 0 = ifT c a b ∧ (∀ s, runE ((c).ev s.V s.A) s (fun x => if x = 0 then b.ex (F + 1) inp s else a.ex (F + 1) inp s) = (blk t 0 k).ex (F + 1) inp s) := by
      cases truth with
      | true =>
        refine ⟨numT 7, blk t 0 k, blk t k (t.len - k), ?_, fun s => ?_⟩
        · exact Tree.make_kid (show 0 < 1 + (t.len - k) by omega)
        · have e : (numT 7).ev s.V s.A = .ok 7 := by rw [Tree.ev_eq]; unfold evB; rw [if_pos (show (numT 7).kind = 1 from rfl)]; exact congrArg EV.ok (show wrap32 7 = 7 by decide +kernel)
          rw [e]
          show (if (7 : Int) = 0 then (blk t k (t.len - k)).ex (F + 1) inp s else (blk t 0 k).ex (F + 1) inp s) = _
          rw [if_neg (by decide)]
      | false =>
        refine ⟨numT 0, blk t k (t.len - k), blk t 0 k, ?_, fun s => ?_⟩
        · exact Tree.make_kid (show 0 < 1 + (t.len - k) by omega)
        · have e : (numT 0).ev s.V s.A = .ok 0 := by rw [Tree.ev_eq]; unfold evB; rw [if_pos (show (numT 0).kind = 1 from rfl)]; exact congrArg EV.ok (show wrap32 0 = 0 by decide +kernel)
          rw [e]
          show (if (0 : Int) = 0 then (blk t 0 k).ex (F + 1) inp s else (blk t k (t.len - k)).ex (F + 1) inp s) = _
          rw [if_pos rfl]
    rw [hc, Tree.ex_eq, if_neg (by show (41 : Int) ≠ 47; decide)]
    have e2 : stp (F + 1) s = (up s, 0) := by unfold stp up; rw [if_neg (by omega)]
    rw [e2, SR.then_ok rfl]
    show exB (F + 1) inp 41 0 _ _ _ _ (up s) = _
    unfold exB
    rw [if_neg (by decide), if_pos rfl]
    have h3 := hx (up s)
    rw [blk_ex t k hk] at h3
    rw [← seqTo_up (f := kidX F inp t) (f' := kidX (F + 1) inp t) (fun i s => by
      unfold kidX
      split
      · exact ex_up F inp _ s
      · rfl) k s, ← h3]
    rfl
  rw [e1, Tree.ex_eq F inp t s, if_pos h47]
  have e3 : seqTo (kidX F inp t) t.len s = (seqTo (kidX F inp t) k s).then (seqTo (fun i => kidX F inp t (k + i)) (t.len - k)) := by
    have h := seqTo_add (kidX F inp t) k s (t.len - k)
    rwa [show k + (t.len - k) = t.len by omega] at h
  rw [e3]
  refine ups_then (fun s1 => ?_)
  have e4 : seqTo (fun i => kidX (F + 1) inp (splitT t k truth) (1 + i)) (t.len - k) (up s1) = seqTo (fun i => kidX (F + 1) inp t (k + i)) (t.len - k) (up s1) := by
    refine seqTo_congr (fun i hi => ?_) _
    funext s2
    unfold kidX
    have h1 : 1 + i < (splitT t k truth).len := by show 1 + i < 1 + (t.len - k); omega
    rw [if_pos h1, if_pos (by omega)]
    have h2 : (splitT t k truth).kid (1 + i) = t.kid (k + i) := by
      refine (Tree.make_kid (show 1 + i < 1 + (t.len - k) by omega)).trans ?_
      rw [if_neg (by omega), show 1 + i - 1 = i by omega]
    rw [h2]
  rw [e4]
  exact seqTo_up (fun i s => by
    show kidX (F + 1) inp t (k + i) (up s) = ups (kidX F inp t (k + i) s)
    unfold kidX
    split
    · exact ex_up F inp _ s
    · rfl) _ s1
end Go.Proofs.YtgochgcchkdlmaaDoor
