/-
  Loops unrolled (package interp), plainly: a loop does what its block does, repeated for each value of its variable. No program is named here.
-/
import Derived.Test.YtgochgcchkdlmaaDoorInBases
import Derived.Test.YtgochgcchkdlmaaDoorChkFaults
namespace Go.Proofs.YtgochgcchkdlmaaDoor
set_option linter.unusedVariables false
set_option linter.unusedSimpArgs false
open Go.RowKit

theorem concat16_nil {β : Type} {f : Nat → List β} {n : Nat} (h : concatTo f n = []) : ∀ i, i < n → f i = [] := by
  induction n with
  | zero => intro i hi; omega
  | succ n ih =>
    rw [concatTo_succ, List.append_eq_nil_iff] at h
    intro i hi
    by_cases e : i = n
    · rw [e]; exact h.2
    · exact ih h.1 i (by omega)
theorem Tree.kid_out {t : Tree} {i : Nat} (h : ¬ i < t.len) : t.kid i = .leaf 0 0 ByteArray.empty := by
  cases t with
  | node k n s l kid => exact dif_neg h
/-- a child that is executed -/
def useB (k : Int) (i : Nat) : Prop := k = 47 ∨ (k = 41 ∧ (i = 1 ∨ i = 2)) ∨ (k = 42 ∧ i = 0) ∨ (k = 43 ∧ i = 1) ∨ (k = 46 ∧ i = 0)
/-- a statement or block in which no bad name gets a value -/
def Calm (bad : ByteArray → Prop) : Tree → Prop
  | .node k _ s l kid => (40 ≤ k ∧ k ≤ 47) ∧ (k = 42 → ¬ bad s) ∧ (k = 40 ∨ k = 44 → ∀ h : 0 < l, (kid ⟨0, h⟩).kind = 2 → ¬ bad (kid ⟨0, h⟩).name) ∧ ∀ i : Fin l, useB k i.1 → Calm bad (kid i)
theorem Calm_eq {bad : ByteArray → Prop} (t : Tree) : Calm bad t ↔ (40 ≤ t.kind ∧ t.kind ≤ 47) ∧ (t.kind = 42 → ¬ bad t.name) ∧ (t.kind = 40 ∨ t.kind = 44 → (t.kid 0).kind = 2 → ¬ bad (t.kid 0).name) ∧ ∀ i, i < t.len → useB t.kind i → Calm bad (t.kid i) := by
  cases t with
  | node k n s l kid =>
    rw [Calm]
    refine and_congr Iff.rfl (and_congr Iff.rfl (and_congr (imp_congr Iff.rfl ⟨fun h hk => ?_, fun h h0 hk => ?_⟩) ⟨fun h i hi hu => ?_, fun h i hu => ?_⟩))
    · by_cases h0 : 0 < l
      · rw [Tree.kid_node h0] at hk ⊢; exact h h0 hk
      · rw [Tree.kid_out h0] at hk; exact absurd (show (0 : Int) = 2 from hk) (by decide)
    · rw [Tree.kid_node h0] at h; exact h hk
    · have hi' : i < l := hi
      rw [Tree.kid_node hi']; exact h ⟨i, hi'⟩ hu
    · have h1 := h i.1 i.2 hu
      rwa [Tree.kid_node i.2] at h1
/-- two states that differ in their steps, and in the variables as P says -/
def Sim (P : VF → VF → Prop) (s s' : St) : Prop := s'.A = s.A ∧ s'.out = s.out ∧ s'.rd = s.rd ∧ P s.V s'.V
def RelV (P : VF → VF → Prop) (r r' : SR) : Prop := r.2 = 13 ∨ r'.2 = 13 ∨ (r'.2 = r.2 ∧ r'.1.A = r.1.A ∧ r'.1.out = r.1.out ∧ r'.1.rd = r.1.rd ∧ (r.2 = 0 → P r.1.V r'.1.V))
section
variable {P Q : VF → VF → Prop} {bad : ByteArray → Prop} {F F' : Int} {inp : List Int}
theorem RelV.of {s s' : St} (h : Sim P s s') (e : Int) : RelV P (s, e) (s', e) := .inr (.inr ⟨rfl, h.1, h.2.1, h.2.2.1, fun _ => h.2.2.2⟩)
theorem RelV.mono {r r' : SR} (h : RelV P r r') (hPQ : ∀ V V', P V V' → Q V V') : RelV Q r r' := by
  rcases h with h | h | ⟨h1, h2, h3, h4, h5⟩
  · exact .inl h
  · exact .inr (.inl h)
  · exact .inr (.inr ⟨h1, h2, h3, h4, fun h => hPQ _ _ (h5 h)⟩)
theorem RelV.then {r r' : SR} {f f' : St → SR} (h : RelV P r r') (hf : r.2 = 0 → Sim P r.1 r'.1 → RelV Q (f r.1) (f' r'.1)) : RelV Q (r.then f) (r'.then f') := by
  rcases h with h | h | ⟨h1, h2, h3, h4, h5⟩
  · exact .inl (by rw [SR.then_er (by rw [h]; decide)]; exact h)
  · exact .inr (.inl (by rw [SR.then_er (by rw [h]; decide)]; exact h))
  · by_cases h0 : r.2 = 0
    · rw [SR.then_ok h0, SR.then_ok (h1.trans h0)]; exact hf h0 ⟨h2, h3, h4, h5 h0⟩
    · rw [SR.then_er h0, SR.then_er (by rw [h1]; exact h0)]; exact .inr (.inr ⟨h1, h2, h3, h4, fun h => absurd h h0⟩)
theorem stp_relV {s s' : St} (h : Sim P s s') : RelV P (stp F s) (stp F' s') := by
  unfold stp
  split
  · exact .inl rfl
  · split
    · exact .inr (.inl rfl)
    · exact .inr (.inr ⟨rfl, h.1, h.2.1, h.2.2.1, fun _ => h.2.2.2⟩)
theorem runE_relV {v v' : EV} {s s' : St} {f f' : Int → SR} (hv : v' = v) (h : Sim P s s') (hf : ∀ x, RelV P (f x) (f' x)) : RelV P (runE v s f) (runE v' s' f') := by
  subst hv
  unfold runE
  split
  · exact hf _
  · exact RelV.of h _
theorem seqTo_relV {f f' : Nat → St → SR} (hf : ∀ i s s', Sim P s s' → RelV P (f i s) (f' i s')) : ∀ (n : Nat) (s s' : St), Sim P s s' → RelV P (seqTo f n s) (seqTo f' n s')
  | 0, s, s', h => RelV.of h 0
  | n + 1, s, s', h => (seqTo_relV hf n s s' h).then (fun _ h1 => hf n _ _ h1)
theorem seqTo_relN {f f' : Nat → St → SR} {N : Nat} (hf : ∀ i, i < N → ∀ s s', Sim P s s' → RelV P (f i s) (f' i s')) : ∀ (n : Nat), n ≤ N → ∀ (s s' : St), Sim P s s' → RelV P (seqTo f n s) (seqTo f' n s')
  | 0, _, s, s', h => RelV.of h 0
  | n + 1, hn, s, s', h => (seqTo_relN hf n (by omega) s s' h).then (fun _ h1 => hf n (by omega) _ _ h1)
theorem whl_relV {c c' : St → EV} {b b' : St → SR} (hc : ∀ s s', Sim P s s' → c' s' = c s) (hb : ∀ s s', Sim P s s' → RelV P (b s) (b' s')) : ∀ (n : Nat) (s s' : St), Sim P s s' → RelV P (whl F c b n s) (whl F' c' b' n s')
  | 0, s, s', h => (stp_relV h).then (fun _ h1 => runE_relV (hc _ _ h1) h1 (fun x => by
      by_cases h0 : x = 0
      · rw [if_pos h0, if_pos h0]; exact RelV.of h1 0
      · rw [if_neg h0, if_neg h0]; exact RelV.of h1 11))
  | n + 1, s, s', h => (stp_relV h).then (fun _ h1 => runE_relV (hc _ _ h1) h1 (fun x => by
      by_cases h0 : x = 0
      · rw [if_pos h0, if_pos h0]; exact RelV.of h1 0
      · rw [if_neg h0, if_neg h0]; exact (hb _ _ h1).then (fun _ h2 => whl_relV hc hb n _ _ h2)))
theorem putA_relV {s s' : St} (h : Sim P s s') (nm : ByteArray) (i v : Int) : RelV P (s.putA nm i v) (s'.putA nm i v) := by
  unfold St.putA
  rw [h.1]
  split
  · exact RelV.of h 11
  · split
    · exact .inr (.inr ⟨rfl, rfl, h.2.1, h.2.2.1, fun _ => h.2.2.2⟩)
    · exact RelV.of h 11
theorem Sim.next {s s' : St} (h : Sim P s s') : Sim P s.next s'.next := ⟨h.1, h.2.1, by show s'.rd + 1 = s.rd + 1; rw [h.2.2.1], h.2.2.2⟩
theorem getA_relV {s s' : St} (h : Sim P s s') (nm : ByteArray) (i : Int) : RelV P (s.getA inp nm i) (s'.getA inp nm i) := by
  unfold St.getA
  rw [h.1]
  split
  · exact RelV.of h 11
  · split
    · rw [show nxt inp s' = nxt inp s by unfold nxt; rw [h.2.2.1]]; exact putA_relV h.next nm i _
    · exact RelV.of h 11
theorem Sim.put {s s' : St} {x : ByteArray} {v : Option Int} (h : Sim P s s') (hput : P s.V s'.V → Q (upd s.V x v) (upd s'.V x v)) : Sim Q (s.putV x v) (s'.putV x v) := ⟨h.1, h.2.1, h.2.2.1, hput h.2.2.2⟩
theorem exB_relV {k n : Int} {nm : ByteArray} {p p' : Tree} {e e' : Nat → St → EV} {b b' : Nat → St → SR} (hput : ∀ x v V V', ¬ bad x → P V V' → P (upd V x v) (upd V' x v)) (hk : 40 ≤ k ∧ k ≤ 46) (h42 : k = 42 → ¬ bad nm) (hp : k = 40 ∨ k = 44 → p.kind = 2 → ¬ bad p.name)
    (hp' : k = 40 ∨ k = 44 → p'.kind = p.kind ∧ p'.name = p.name ∧ ∀ s s', Sim P s s' → (p'.kid 0).ev s'.V s'.A = (p.kid 0).ev s.V s.A) (he : ∀ i s s', Sim P s s' → e' i s' = e i s) (hb : ∀ i, useB k i → ∀ s s', Sim P s s' → RelV P (b i s) (b' i s')) {s s' : St} (h : Sim P s s') :
    RelV P (exB F inp k n nm p e b s) (exB F' inp k n nm p' e' b' s') := by
  unfold exB
  by_cases k40 : k = 40
  · obtain ⟨q1, q2, q3⟩ := hp' (.inl k40)
    rw [if_pos k40, if_pos k40, q1, q2]
    by_cases h2 : p.kind = 2
    · rw [if_pos h2, if_pos h2]
      exact runE_relV (he 1 s s' h) h (fun v => RelV.of (h.put (hput _ _ _ _ (hp (.inl k40) h2))) 0)
    · rw [if_neg h2, if_neg h2]
      exact runE_relV (q3 s s' h) h (fun i => runE_relV (he 1 s s' h) h (fun v => putA_relV h p.name i v))
  rw [if_neg k40, if_neg k40]
  by_cases k41 : k = 41
  · rw [if_pos k41, if_pos k41]
    refine runE_relV (he 0 s s' h) h (fun x => ?_)
    by_cases h0 : x = 0
    · rw [if_pos h0, if_pos h0]; exact hb 2 (.inr (.inl ⟨k41, .inr rfl⟩)) s s' h
    · rw [if_neg h0, if_neg h0]; exact hb 1 (.inr (.inl ⟨k41, .inl rfl⟩)) s s' h
  rw [if_neg k41, if_neg k41]
  by_cases k42 : k = 42
  · rw [if_pos k42, if_pos k42]
    refine (seqTo_relV (fun i s s' h => ?_) _ s s' h).then (fun _ h1 => RelV.of (h1.put (hput _ _ _ _ (h42 k42))) 0)
    exact (stp_relV (h.put (hput _ _ _ _ (h42 k42)))).then (fun _ h1 => hb 0 (.inr (.inr (.inl ⟨k42, rfl⟩))) _ _ h1)
  rw [if_neg k42, if_neg k42]
  by_cases k43 : k = 43
  · rw [if_pos k43, if_pos k43]
    exact whl_relV (he 0) (hb 1 (.inr (.inr (.inr (.inl ⟨k43, rfl⟩))))) _ s s' h
  rw [if_neg k43, if_neg k43]
  by_cases k44 : k = 44
  · obtain ⟨q1, q2, q3⟩ := hp' (.inr k44)
    rw [if_pos k44, if_pos k44, q1, q2]
    by_cases h2 : p.kind = 2
    · rw [if_pos h2, if_pos h2, show nxt inp s' = nxt inp s by unfold nxt; rw [h.2.2.1]]
      exact RelV.of (h.next.put (hput _ _ _ _ (hp (.inr k44) h2))) 0
    · rw [if_neg h2, if_neg h2]
      exact runE_relV (q3 s s' h) h (fun i => getA_relV h p.name i)
  rw [if_neg k44, if_neg k44]
  by_cases k45 : k = 45
  · rw [if_pos k45, if_pos k45]
    exact runE_relV (he 0 s s' h) h (fun v => .inr (.inr ⟨rfl, h.1, by show s'.out ++ _ = s.out ++ _; rw [h.2.1], h.2.2.1, fun _ => h.2.2.2⟩))
  rw [if_neg k45, if_neg k45]
  exact hb 0 (.inr (.inr (.inr (.inr ⟨by omega, rfl⟩)))) s s' h
/-- a change of trees that P bears -/
structure MapT (bad : ByteArray → Prop) (P : VF → VF → Prop) (g : Tree → Tree) : Prop where
  same : ∀ t : Tree, (t.kind = 2 → ¬ bad t.name) → (g t).kind = t.kind ∧ (g t).num = t.num ∧ (g t).name = t.name ∧ (g t).len = t.len ∧ ∀ i, i < t.len → (g t).kid i = g (t.kid i)
  ev : ∀ (t : Tree) (V V' : VF) (A : AF), P V V' → (g t).ev V' A = t.ev V A
  put : ∀ x v V V', ¬ bad x → P V V' → P (upd V x v) (upd V' x v)
theorem leaf_ev (V V' : VF) (A A' : AF) : (Tree.leaf 0 0 ByteArray.empty).ev V' A' = (Tree.leaf 0 0 ByteArray.empty).ev V A := by
  rw [Tree.ev_eq, Tree.ev_eq]; rfl
theorem MapT.kid_ev {g : Tree → Tree} (M : MapT bad P g) {t : Tree} (h : t.kind = 2 → ¬ bad t.name) {s s' : St} (hs : Sim P s s') (i : Nat) : ((g t).kid i).ev s'.V s'.A = (t.kid i).ev s.V s.A := by
  obtain ⟨_, _, _, h4, h5⟩ := M.same t h
  rw [hs.1]
  by_cases hi : i < t.len
  · rw [h5 i hi]; exact M.ev _ _ _ _ hs.2.2.2
  · rw [Tree.kid_out hi, Tree.kid_out (by rw [h4]; exact hi)]; exact leaf_ev _ _ _ _
theorem ex_relV {g : Tree → Tree} (M : MapT bad P g) : ∀ t : Tree, Calm bad t → ∀ s s', Sim P s s' → RelV P (t.ex F inp s) ((g t).ex F' inp s') := by
  intro t
  induction t using Tree.ind with
  | h t ih =>
    intro hc s s' hs
    obtain ⟨c1, c2, c3, c4⟩ := (Calm_eq t).1 hc
    obtain ⟨m1, m2, m3, m4, m5⟩ := M.same t (fun h => by omega)
    have hb : ∀ i, useB t.kind i → ∀ s s', Sim P s s' → RelV P (kidX F inp t i s) (kidX F' inp (g t) i s') := fun i hu s s' h => by
      unfold kidX
      rw [m4]
      by_cases hi : i < t.len
      · rw [if_pos hi, if_pos hi, m5 i hi]; exact ih i hi (c4 i hi hu) s s' h
      · rw [if_neg hi, if_neg hi]; exact RelV.of h 0
    rw [Tree.ex_eq, Tree.ex_eq, m1, m2, m3, m4]
    by_cases h47 : t.kind = 47
    · rw [if_pos h47, if_pos h47]
      exact seqTo_relV (fun i => hb i (.inl h47)) _ s s' hs
    · rw [if_neg h47, if_neg h47]
      refine (stp_relV hs).then (fun _ h1 => exB_relV M.put (by omega) c2 c3 (fun hk => ?_) (fun i s s' h => ?_) hb h1)
      · by_cases hl : 0 < t.len
        · rw [m5 0 hl]
          obtain ⟨n1, n2, n3, n4, n5⟩ := M.same (t.kid 0) (c3 hk)
          exact ⟨n1, n3, fun s s' h => M.kid_ev (c3 hk) h 0⟩
        · rw [Tree.kid_out (t := g t) (by rw [m4]; exact hl), Tree.kid_out hl]
          refine ⟨rfl, rfl, fun s s' h => ?_⟩
          rw [Tree.kid_out (by decide)]
          exact leaf_ev _ _ _ _
      · unfold kidE
        rw [m4]
        by_cases hi : i < t.len
        · rw [if_pos hi, if_pos hi]; exact M.kid_ev (fun h => by omega) h i
        · rw [if_neg hi, if_neg hi]
end
/-! ### lists of statements -/
theorem then_id (r : SR) : r.then (fun s => (s, 0)) = r := by
  by_cases h : r.2 = 0
  · rw [SR.then_ok h]; exact Prod.ext rfl h.symm
  · rw [SR.then_er h]
theorem then_then (r : SR) (f g : St → SR) : (r.then f).then g = r.then (fun s => (f s).then g) := by
  by_cases h : r.2 = 0
  · rw [SR.then_ok h, SR.then_ok h]
  · rw [SR.then_er h, SR.then_er h, SR.then_er h]
def exL (F : Int) (inp : List Int) : List Tree → St → SR
  | [], s => (s, 0)
  | t :: l, s => (t.ex F inp s).then (exL F inp l)
theorem exL_append (F : Int) (inp : List Int) : ∀ (l m : List Tree) (s : St), exL F inp (l ++ m) s = (exL F inp l s).then (exL F inp m)
  | [], m, s => (SR.then_ok (r := (s, 0)) rfl).symm
  | t :: l, m, s => by
    show (t.ex F inp s).then (exL F inp (l ++ m)) = ((t.ex F inp s).then (exL F inp l)).then (exL F inp m)
    rw [then_then]
    congr 1
    funext s
    exact exL_append F inp l m s
theorem exL_one (F : Int) (inp : List Int) (t : Tree) (s : St) : exL F inp [t] s = t.ex F inp s := then_id _
def kidsL (t : Tree) : List Tree := (List.range t.len).map t.kid
theorem kidsL_len (t : Tree) : (kidsL t).length = t.len := by simp [kidsL]
theorem blk_exL {t : Tree} (h : t.kind = 47) (F : Int) (inp : List Int) (s : St) : t.ex F inp s = exL F inp (kidsL t) s := by
  have key : ∀ n, n ≤ t.len → seqTo (kidX F inp t) n s = exL F inp ((List.range n).map t.kid) s := by
    intro n
    induction n with
    | zero => intro _; rfl
    | succ n ih =>
      intro hn
      show (seqTo (kidX F inp t) n s).then (kidX F inp t n) = _
      rw [ih (by omega), List.range_succ, List.map_append, exL_append]
      congr 1
      funext s1
      rw [List.map_cons, List.map_nil, exL_one]
      unfold kidX
      rw [if_pos (by omega)]
  rw [Tree.ex_eq, if_pos h]
  exact key t.len (Nat.le_refl _)
/-- a block of statements -/
def ofL (l : List Tree) : Tree := .make 47 0 ⟨#[]⟩ l.length (fun i => l.getD i (.leaf 0 0 ByteArray.empty))
theorem kidsL_ofL (l : List Tree) : kidsL (ofL l) = l := by
  unfold kidsL
  refine List.ext_getElem (by simp [ofL]; rfl) (fun i h1 h2 => ?_)
  rw [List.getElem_map, List.getElem_range]
  have h3 : (ofL l).kid i = l.getD i (.leaf 0 0 ByteArray.empty) := Tree.make_kid h2
  rw [h3, List.getD_eq_getElem?_getD, List.getElem?_eq_getElem h2]
  rfl
/-! ### a variable replaced by a number -/
def Tree.repl (nm : ByteArray) (i : Int) : Tree → Tree
  | .node k n s l kid => if k = 2 ∧ s = nm then .leaf 1 i ⟨#[]⟩ else .node k n s l (fun j => Tree.repl nm i (kid j))
theorem repl_hit {nm : ByteArray} {i : Int} {t : Tree} (h : t.kind = 2 ∧ t.name = nm) : t.repl nm i = .leaf 1 i ⟨#[]⟩ := by
  cases t with
  | node k n s l kid => rw [Tree.repl]; exact if_pos h
theorem repl_else {nm : ByteArray} {i : Int} {t : Tree} (h : ¬ (t.kind = 2 ∧ t.name = nm)) : (t.repl nm i).kind = t.kind ∧ (t.repl nm i).num = t.num ∧ (t.repl nm i).name = t.name ∧ (t.repl nm i).len = t.len ∧ ∀ j, j < t.len → (t.repl nm i).kid j = (t.kid j).repl nm i := by
  cases t with
  | node k n s l kid =>
    have e : (Tree.node k n s l kid).repl nm i = .node k n s l (fun j => Tree.repl nm i (kid j)) := by rw [Tree.repl]; exact if_neg h
    rw [e]
    refine ⟨rfl, rfl, rfl, rfl, fun j hj => ?_⟩
    have hj' : j < l := hj
    rw [Tree.kid_node hj', Tree.kid_node hj']
theorem num_ev (V : VF) (A : AF) (i : Int) : (Tree.leaf 1 i ⟨#[]⟩).ev V A = .ok (wrap32 i) := by
  rw [Tree.ev_eq]; unfold evB; exact if_pos (show (Tree.leaf 1 i ⟨#[]⟩).kind = 1 from rfl)
theorem var_ev (V : VF) (A : AF) {t : Tree} (h : t.kind = 2) : t.ev V A = optV (V t.name) := by
  rw [Tree.ev_eq]; unfold evB; rw [if_neg (by rw [h]; decide), if_pos h]
theorem evB_congr {V V' : VF} (A : AF) {k n : Int} {s : ByteArray} {e0 e1 : EV} (h : k = 2 → V' s = V s) : evB V' A k n s e0 e1 = evB V A k n s e0 e1 := by
  unfold evB
  by_cases k1 : k = 1
  · rw [if_pos k1, if_pos k1]
  rw [if_neg k1, if_neg k1]
  by_cases k2 : k = 2
  · rw [if_pos k2, if_pos k2, h k2]
  rw [if_neg k2, if_neg k2]
/-- the loop's variable has a value here, and none there -/
def LoopV (nm : ByteArray) (i : Int) (V V' : VF) : Prop := V nm = some i ∧ V' nm = none ∧ ∀ x, x ≠ nm → V' x = V x
theorem repl_map {nm : ByteArray} {i : Int} (hi : wrap32 i = i) : MapT (· = nm) (LoopV nm i) (Tree.repl nm i) where
  same t h := repl_else (fun hh => h hh.1 hh.2)
  ev := by
    intro t
    induction t using Tree.ind with
    | h t ih =>
      intro V V' A hP
      by_cases hh : t.kind = 2 ∧ t.name = nm
      · rw [repl_hit hh, num_ev, var_ev V A hh.1, hh.2, hP.1, hi]
        rfl
      · obtain ⟨h1, h2, h3, h4, h5⟩ := repl_else (i := i) hh
        have ek : ∀ j, (if j < (t.repl nm i).len then ((t.repl nm i).kid j).ev V' A else .ok 0) = (if j < t.len then (t.kid j).ev V A else .ok 0) := fun j => by
          rw [h4]
          by_cases hj : j < t.len
          · rw [if_pos hj, if_pos hj, h5 j hj]; exact ih j hj V V' A hP
          · rw [if_neg hj, if_neg hj]
        rw [Tree.ev_eq V' A, Tree.ev_eq V A t, ek, ek, h1, h2, h3]
        exact evB_congr A (fun k2 => hP.2.2 t.name (fun e => hh ⟨k2, e⟩))
  put x v V V' hx hP := ⟨by rw [upd_other _ _ (fun e => hx e.symm)]; exact hP.1, by rw [upd_other _ _ (fun e => hx e.symm)]; exact hP.2.1, fun y hy => by
    by_cases e : y = x
    · rw [e, upd_same, upd_same]
    · rw [upd_other _ _ e, upd_other _ _ e]; exact hP.2.2 y hy⟩
def EqV (V V' : VF) : Prop := V' = V
theorem id_map : MapT (fun _ => False) EqV id where
  same t _ := ⟨rfl, rfl, rfl, rfl, fun _ _ => rfl⟩
  ev t V V' A h := by rw [h]; rfl
  put x v V V' _ h := by show upd V' x v = upd V x v; rw [h]
/-! ### what the checker says of names -/
theorem fault_place {d : Nms} {nm : ByteArray} {loops locks : List ByteArray} (h : faultN d 2 nm true loops locks = 0) : nm ∉ loops ∧ nm ∈ d.scalars := by
  unfold faultN at h
  rw [if_pos rfl, Bool.true_and] at h
  cases hl : memB loops nm with
  | true => rw [hl] at h; simp at h
  | false =>
    refine ⟨fun hm => (by rw [memB_iff.2 hm] at hl; cases hl), ?_⟩
    rw [hl, if_neg (by decide), Bool.or_false] at h
    cases hs : memB d.scalars nm with
    | true => exact memB_iff.1 hs
    | false =>
      rw [hs, if_neg (by decide)] at h
      split at h <;> simp at h
theorem fault_for {d : Nms} {nm : ByteArray} {place : Bool} {loops locks : List ByteArray} (h : faultN d 42 nm place loops locks = 0) : nm ∉ loops ∧ nm ∉ d.scalars := by
  unfold faultN at h
  rw [if_neg (by decide), if_neg (by decide), if_pos rfl] at h
  split at h
  · simp at h
  · rename_i hn
    rw [Bool.or_eq_true, Bool.or_eq_true, not_or, not_or] at hn
    exact ⟨fun hm => hn.1.2 (memB_iff.2 hm), fun hm => hn.1.1 (memB_iff.2 hm)⟩
theorem faults_parts {d : Nms} {t : Tree} {path : List Int} {place : Bool} {loops locks : List ByteArray} (h : faultsT d t path place loops locks = []) : faultN d t.kind t.name place loops locks = 0 ∧ ∀ i, i < t.len → faultsT d (t.kid i) (path ++ [(i : Int)]) (placeIn t i) (loopsIn t loops) (locksIn t locks) = [] := by
  rw [faultsT_eq, List.append_eq_nil_iff] at h
  refine ⟨?_, fun i hi => concat16_nil h.2 i hi⟩
  have h1 := h.1
  unfold ownF at h1
  split at h1
  · assumption
  · cases h1
theorem faults_place {d : Nms} {t : Tree} {path : List Int} {place : Bool} {loops locks : List ByteArray} (h : faultsT d t path place loops locks = []) (hk : t.kind = 40 ∨ t.kind = 44) (h2 : (t.kid 0).kind = 2) : (t.kid 0).name ∉ loops ∧ (t.kid 0).name ∈ d.scalars := by
  by_cases h0 : 0 < t.len
  · have h3 := (faults_parts ((faults_parts h).2 0 h0)).1
    have e1 : placeIn t 0 = true := by
      unfold placeIn
      rcases hk with hk | hk <;> rw [hk] <;> rfl
    have e2 : loopsIn t loops = loops := by unfold loopsIn; rw [if_neg (by omega)]
    rw [e1, e2, h2] at h3
    exact fault_place h3
  · rw [Tree.kid_out h0] at h2; exact absurd (show (0 : Int) = 2 from h2) (by decide)
theorem loops_sub {t : Tree} {loops : List ByteArray} {x : ByteArray} (h : x ∈ loops) : x ∈ loopsIn t loops := by
  unfold loopsIn
  split
  · exact List.mem_append_left _ h
  · exact h
theorem vld_parts {t : Tree} {c : Int} (h : t.vld c = true) : Fm.belongs t.kind c = true ∧ (t.kind = 47 → ∀ i, i < t.len → (t.kid i).vld 115 = true) ∧ (t.kind ≠ 47 → t.len = (Fm.kids t.kind).length ∧ Fm.lo t.kind ≤ t.num ∧ t.num ≤ Fm.hi t.kind ∧ ∀ i, i < t.len → (t.kid i).vld (((Fm.kids t.kind).getD i 0).toNat) = true) := by
  rw [Tree.vld_eq, Bool.and_eq_true] at h
  refine ⟨h.1, fun hk => ?_, fun hk => ?_⟩
  · have h2 := h.2
    rw [if_pos hk] at h2
    simp only [Bool.and_eq_true] at h2
    exact Tree.allTo_iff.1 h2.2
  · have h2 := h.2
    rw [if_neg hk] at h2
    simp only [Bool.and_eq_true, decide_eq_true_eq] at h2
    exact ⟨h2.1.1.2, h2.1.1.1.1, h2.1.1.1.2, Tree.allTo_iff.1 h2.2⟩
theorem belongs_stmt {k : Int} (h : Fm.belongs k 115 = true ∨ Fm.belongs k 98 = true) : 40 ≤ k ∧ k ≤ 47 := by
  unfold Fm.belongs at h
  rcases h with h | h
  · rw [if_neg (by decide), if_neg (by decide), if_pos rfl] at h; have := of_decide_eq_true h; omega
  · rw [if_neg (by decide), if_neg (by decide), if_neg (by decide)] at h; have := of_decide_eq_true h; omega
theorem use_cat {k : Int} {i : Nat} (h : useB k i) (h47 : k ≠ 47) : ((Fm.kids k).getD i 0).toNat = 98 := by
  rcases h with h | ⟨rfl, rfl | rfl⟩ | ⟨rfl, rfl⟩ | ⟨rfl, rfl⟩ | ⟨rfl, rfl⟩
  · exact absurd h h47
  all_goals decide
theorem calm_of {d : Nms} {bad : ByteArray → Prop} : ∀ (t : Tree) (path : List Int) (place : Bool) (loops locks : List ByteArray), t.vld 115 = true ∨ t.vld 98 = true → faultsT d t path place loops locks = [] → (∀ x, bad x → x ∈ loops) → Calm bad t := by
  intro t
  induction t using Tree.ind with
  | h t ih =>
    intro path place loops locks hv hf hbad
    have hb : 40 ≤ t.kind ∧ t.kind ≤ 47 := belongs_stmt (hv.imp (fun h => (vld_parts h).1) (fun h => (vld_parts h).1))
    obtain ⟨f1, f2⟩ := faults_parts hf
    refine (Calm_eq t).2 ⟨hb, fun hk hx => ?_, fun hk h2 hx => (faults_place hf hk h2).1 (hbad _ hx), fun i hi hu => ?_⟩
    · rw [hk] at f1; exact (fault_for f1).1 (hbad _ hx)
    · refine ih i hi _ _ _ _ ?_ (f2 i hi) (fun x hx => loops_sub (hbad x hx))
      have hv2 : ∃ c, t.vld c = true := hv.elim (fun h => ⟨_, h⟩) (fun h => ⟨_, h⟩)
      obtain ⟨c, hc⟩ := hv2
      by_cases h47 : t.kind = 47
      · exact .inl ((vld_parts hc).2.1 h47 i hi)
      · have h5 := ((vld_parts hc).2.2 h47).2.2.2 i hi
        rw [use_cat hu h47] at h5
        exact .inr h5
/-! ### names that are not declared have no value -/
def Dom (sc loops : List ByteArray) (V : VF) : Prop := ∀ x, x ∉ sc → x ∉ loops → V x = none
def InvV (P : VF → Prop) (r : SR) : Prop := r.2 = 0 → P r.1.V
theorem InvV.then {P Q : VF → Prop} {r : SR} {f : St → SR} (h : InvV P r) (hf : ∀ s, P s.V → InvV Q (f s)) : InvV Q (r.then f) := by
  by_cases h0 : r.2 = 0
  · rw [SR.then_ok h0]; exact hf _ (h h0)
  · rw [SR.then_er h0]; exact fun h => absurd h h0
section
variable {P : VF → Prop} {F : Int} {inp : List Int}
theorem stp_inv {s : St} (h : P s.V) : InvV P (stp F s) := by
  unfold stp
  split
  · exact fun _ => h
  · exact fun _ => h
theorem runE_inv {v : EV} {s : St} {f : Int → SR} (h : P s.V) (hf : ∀ x, InvV P (f x)) : InvV P (runE v s f) := by
  unfold runE
  split
  · exact hf _
  · exact fun _ => h
theorem seqTo_inv {f : Nat → St → SR} (hf : ∀ i s, P s.V → InvV P (f i s)) : ∀ (n : Nat) (s : St), P s.V → InvV P (seqTo f n s)
  | 0, s, h => fun _ => h
  | n + 1, s, h => (seqTo_inv hf n s h).then (hf n)
theorem whl_inv {c : St → EV} {b : St → SR} (hb : ∀ s, P s.V → InvV P (b s)) : ∀ (n : Nat) (s : St), P s.V → InvV P (whl F c b n s)
  | 0, s, h => (stp_inv h).then (fun s1 h1 => runE_inv h1 (fun x => by
      by_cases h0 : x = 0
      · rw [if_pos h0]; exact fun _ => h1
      · rw [if_neg h0]; exact fun _ => h1))
  | n + 1, s, h => (stp_inv h).then (fun s1 h1 => runE_inv h1 (fun x => by
      by_cases h0 : x = 0
      · rw [if_pos h0]; exact fun _ => h1
      · rw [if_neg h0]; exact (hb _ h1).then (fun s2 h2 => whl_inv hb n s2 h2)))
theorem putA_V (s : St) (nm : ByteArray) (i v : Int) : (s.putA nm i v).1.V = s.V := by
  unfold St.putA
  split
  · rfl
  · split <;> rfl
theorem getA_V (s : St) (nm : ByteArray) (i : Int) : (s.getA inp nm i).1.V = s.V := by
  unfold St.getA
  split
  · rfl
  · split
    · exact putA_V _ _ _ _
    · rfl
end
theorem Dom.put {sc loops : List ByteArray} {V : VF} {x : ByteArray} {v : Option Int} (h : Dom sc loops V) (hx : x ∈ sc) : Dom sc loops (upd V x v) := fun y h1 h2 => by
  rw [upd_other _ _ (fun e => h1 (by rw [e]; exact hx))]; exact h y h1 h2
theorem ex_dom {d : Nms} {F : Int} {inp : List Int} : ∀ (t : Tree) (path : List Int) (place : Bool) (loops locks : List ByteArray), faultsT d t path place loops locks = [] → ∀ s, Dom d.scalars loops s.V → InvV (Dom d.scalars loops) (t.ex F inp s) := by
  intro t
  induction t using Tree.ind with
  | h t ih =>
    intro path place loops locks hf s hs
    obtain ⟨f1, f2⟩ := faults_parts hf
    have hk : t.kind ≠ 42 → ∀ i s, Dom d.scalars loops s.V → InvV (Dom d.scalars loops) (kidX F inp t i s) := fun h42 i s h => by
      unfold kidX
      split
      · have h1 := ih i (by assumption) _ _ _ _ (f2 i (by assumption)) s
        rw [show loopsIn t loops = loops by unfold loopsIn; rw [if_neg h42]] at h1
        exact h1 h
      · exact fun _ => h
    rw [Tree.ex_eq]
    by_cases h47 : t.kind = 47
    · rw [if_pos h47]; exact seqTo_inv (hk (by omega)) _ s hs
    rw [if_neg h47]
    refine (stp_inv hs).then (fun s h => ?_)
    unfold exB
    by_cases k40 : t.kind = 40
    · rw [if_pos k40]
      by_cases h2 : (t.kid 0).kind = 2
      · rw [if_pos h2]
        exact runE_inv h (fun v _ => h.put (faults_place hf (.inl k40) h2).2)
      · rw [if_neg h2]
        exact runE_inv h (fun i => runE_inv h (fun v _ => by rw [putA_V]; exact h))
    rw [if_neg k40]
    by_cases k41 : t.kind = 41
    · rw [if_pos k41]
      refine runE_inv h (fun x => ?_)
      by_cases h0 : x = 0
      · rw [if_pos h0]; exact hk (by omega) 2 s h
      · rw [if_neg h0]; exact hk (by omega) 1 s h
    rw [if_neg k41]
    by_cases k42 : t.kind = 42
    · rw [if_pos k42]
      have hL : loopsIn t loops = loops ++ [t.name] := if_pos k42
      have hin : ∀ s : St, Dom d.scalars (loops ++ [t.name]) s.V → InvV (Dom d.scalars (loops ++ [t.name])) (kidX F inp t 0 s) := fun s h => by
        unfold kidX
        split
        · have h1 := ih 0 (by assumption) _ _ _ _ (f2 0 (by assumption)) s
          rw [hL] at h1
          exact h1 h
        · exact fun _ => h
      have hup : ∀ (V : VF) (v : Option Int), Dom d.scalars (loops ++ [t.name]) V → Dom d.scalars (loops ++ [t.name]) (upd V t.name v) := fun V v hV x h1 h2 => by
        rw [upd_other _ _ (fun e => h2 (by rw [e]; simp))]; exact hV x h1 h2
      refine InvV.then (P := Dom d.scalars (loops ++ [t.name])) (seqTo_inv (fun i s h => ?_) _ s (fun x h1 h2 => h x h1 (fun hm => h2 (List.mem_append_left _ hm)))) (fun s h _ x h1 h2 => ?_)
      · exact (stp_inv (P := Dom d.scalars (loops ++ [t.name])) (s := s.putV t.name (some (i : Int))) (hup s.V _ h)).then hin
      · show upd s.V t.name none x = none
        by_cases e : x = t.name
        · rw [e, upd_same]
        · rw [upd_other _ _ e]; exact h x h1 (fun hm => by rcases List.mem_append.1 hm with hm | hm; exact h2 hm; exact e (by simpa using hm))
    rw [if_neg k42]
    by_cases k43 : t.kind = 43
    · rw [if_pos k43]; exact whl_inv (hk (by omega) 1) _ s h
    rw [if_neg k43]
    by_cases k44 : t.kind = 44
    · rw [if_pos k44]
      by_cases h2 : (t.kid 0).kind = 2
      · rw [if_pos h2]
        exact fun _ => h.put (faults_place hf (.inr k44) h2).2
      · rw [if_neg h2]
        exact runE_inv h (fun i _ => by rw [getA_V]; exact h)
    rw [if_neg k44]
    by_cases k45 : t.kind = 45
    · rw [if_pos k45]; exact runE_inv h (fun v _ => h)
    rw [if_neg k45]
    exact hk (by omega) 0 s h
/-! ### the first loop of a list of statements, unrolled -/
/-- the blocks of a loop, one after the other -/
def rounds (n : Tree) (N : Nat) : List Tree := (List.range N).flatMap (fun i : Nat => kidsL ((n.kid 0).repl n.name (i : Int)))
def unr : List Tree → List Tree
  | [] => []
  | n :: l => if n.kind ≠ 42 ∨ 6 < n.num then n :: unr l else rounds n n.num.toNat ++ l
/-- the loop's variable has no value there -/
def OffV (nm : ByteArray) (V V' : VF) : Prop := V' nm = none ∧ ∀ x, x ≠ nm → V' x = V x
theorem loop_relV {d : Nms} {F F' : Int} {inp : List Int} {n : Tree} {path : List Int} {place : Bool} {loops locks : List ByteArray} (hv : n.vld 115 = true) (hf : faultsT d n path place loops locks = []) (h42 : n.kind = 42) (h6 : n.num ≤ 6) {s s' : St} (hs : Sim EqV s s') (hd : s.V n.name = none) :
    RelV EqV (n.ex F inp s) (exL F' inp (rounds n n.num.toNat) s') := by
  obtain ⟨_, _, v3⟩ := vld_parts hv
  obtain ⟨v4, v5, v6, v7⟩ := v3 (by omega)
  obtain ⟨f1, f2⟩ := faults_parts hf
  have hl : n.len = 1 := by rw [v4, h42]; decide
  have hv0 : (n.kid 0).vld 98 = true := by have h := v7 0 (by omega); rw [h42] at h; exact h
  have hk0 : (n.kid 0).kind = 47 := by
    have h := (vld_parts hv0).1
    unfold Fm.belongs at h
    rw [if_neg (by decide), if_neg (by decide), if_neg (by decide)] at h
    exact of_decide_eq_true h
  have hcalm : Calm (· = n.name) (n.kid 0) := calm_of (n.kid 0) _ _ _ _ (.inr hv0) (f2 0 (by omega)) (fun x hx => by unfold loopsIn; rw [if_pos h42, hx]; simp)
  have hX : ∀ s, kidX F inp n 0 s = (n.kid 0).ex F inp s := fun s => by unfold kidX; rw [if_pos (by omega)]
  have key : ∀ N : Nat, N ≤ 6 → ∀ s s', Sim (OffV n.name) s s' → RelV (OffV n.name) (seqTo (forR F n.name (kidX F inp n 0)) N s) (exL F' inp (rounds n N) s') := by
    intro N
    induction N with
    | zero => intro _ s s' h; exact RelV.of h 0
    | succ N ih =>
      intro hN s s' h
      unfold rounds
      rw [List.range_succ, List.flatMap_append, exL_append]
      show RelV _ ((seqTo (forR F n.name (kidX F inp n 0)) N s).then (forR F n.name (kidX F inp n 0) N)) _
      refine (ih (by omega) s s' h).then (fun _ h1 => ?_)
      rw [show [N].flatMap (fun i : Nat => kidsL ((n.kid 0).repl n.name (i : Int))) = kidsL ((n.kid 0).repl n.name (N : Int)) by simp]
      have hw : wrap32 (N : Int) = (N : Int) := by unfold wrap32; omega
      have M := repl_map (nm := n.name) hw
      obtain ⟨m1, _⟩ := M.same (n.kid 0) (fun h => by omega)
      rw [← blk_exL (m1.trans hk0)]
      generalize hr : (seqTo (forR F n.name (kidX F inp n 0)) N s).1 = s1 at h1 ⊢
      have hP : Sim (LoopV n.name (N : Int)) (s1.putV n.name (some (N : Int))) (exL F' inp (rounds n N) s').1 := ⟨h1.1, h1.2.1, h1.2.2.1, upd_same _ _ _, h1.2.2.2.1, fun x hx => by
        show _ = upd s1.V n.name _ x
        rw [upd_other _ _ hx]; exact h1.2.2.2.2 x hx⟩
      unfold forR
      have hP2 : RelV (LoopV n.name (N : Int)) ((stp F (s1.putV n.name (some (N : Int)))).then (kidX F inp n 0)) (((n.kid 0).repl n.name (N : Int)).ex F' inp (exL F' inp (rounds n N) s').1) := by
        unfold stp
        split
        · exact .inl (by rw [SR.then_er (show (13 : Int) ≠ 0 by decide)])
        · rw [SR.then_ok rfl, hX]
          exact ex_relV M (n.kid 0) hcalm _ _ ⟨hP.1, hP.2.1, hP.2.2.1, hP.2.2.2⟩
      exact hP2.mono (fun V V' hh => ⟨hh.2.1, hh.2.2⟩)
  rw [Tree.ex_eq, if_neg (by omega)]
  unfold stp
  split
  · exact .inl (by rw [SR.then_er (show (13 : Int) ≠ 0 by decide)])
  · rw [SR.then_ok rfl]
    unfold exB
    rw [if_neg (by omega), if_neg (by omega), if_pos h42]
    rw [← then_id (exL F' inp (rounds n n.num.toNat) s')]
    refine (key n.num.toNat (by omega) { s with st := s.st + 1 } s' ⟨hs.1, hs.2.1, hs.2.2.1, ?_, fun x _ => by rw [show s'.V = s.V from hs.2.2.2]⟩).then (fun _ h1 => ?_)
    · rw [show s'.V = s.V from hs.2.2.2]; exact hd
    · refine .inr (.inr ⟨rfl, h1.1, h1.2.1, h1.2.2.1, fun _ => ?_⟩)
      funext x
      show _ = upd _ n.name none x
      by_cases e : x = n.name
      · rw [e, upd_same]; exact h1.2.2.2.1
      · rw [upd_other _ _ e]; exact h1.2.2.2.2 x e
theorem unr_relV {d : Nms} {F F' : Int} {inp : List Int} : ∀ (l : List Tree), (∀ n ∈ l, n.vld 115 = true ∧ ∃ path place locks, faultsT d n path place [] locks = []) → ∀ s s', Sim EqV s s' → Dom d.scalars [] s.V → RelV EqV (exL F inp l s) (exL F' inp (unr l) s')
  | [], _, s, s', h, _ => RelV.of h 0
  | n :: l, hl, s, s', h, hd => by
    obtain ⟨hv, path, place, locks, hf⟩ := hl n (by simp)
    have same : ∀ (l : List Tree), (∀ n ∈ l, n.vld 115 = true ∧ ∃ path place locks, faultsT d n path place [] locks = []) → ∀ s s', Sim EqV s s' → RelV EqV (exL F inp l s) (exL F' inp l s') := by
      intro l
      induction l with
      | nil => intro _ s s' h; exact RelV.of h 0
      | cons n l ih =>
        intro hl s s' h
        obtain ⟨hv, path, place, locks, hf⟩ := hl n (by simp)
        exact (ex_relV id_map n (calm_of n _ _ _ _ (.inl hv) hf (fun x hx => hx.elim)) s s' h).then (fun _ h1 => ih (fun m hm => hl m (List.mem_cons_of_mem _ hm)) _ _ h1)
    unfold unr
    by_cases hc : n.kind ≠ 42 ∨ 6 < n.num
    · rw [if_pos hc]
      have hi := ex_dom (F := F) (inp := inp) n _ _ _ _ hf s hd
      exact (ex_relV id_map n (calm_of n _ _ _ _ (.inl hv) hf (fun x hx => hx.elim)) s s' h).then (fun h0 h1 => unr_relV l (fun m hm => hl m (List.mem_cons_of_mem _ hm)) _ _ h1 (hi h0))
    · rw [if_neg hc, exL_append]
      have h42 : n.kind = 42 := by omega
      have hn : s.V n.name = none := by
        have h1 := (faults_parts hf).1
        rw [h42] at h1
        exact hd _ (fault_for h1).2 (by simp)
      exact (loop_relV hv hf h42 (by omega) h hn).then (fun _ h1 => same l (fun m hm => hl m (List.mem_cons_of_mem _ hm)) _ _ h1)
end Go.Proofs.YtgochgcchkdlmaaDoor
