/-
  Kepts: several texts in one (Kept, RoundRegion, RoundBox).
-/
import Derived.Test.YtnegdmhmhdojbaaDoorRangeLaws
import Derived.Test.YtnegdmhmhdojbaaDoorPathRowsT
import Derived.Test.YtnegdmhmhdojbaaDoorAstAts
import Derived.OrdersIn
import Derived.OrdersHeld
import Derived.Deep.RegionHeld
import Derived.ControlIn
import Derived.TacticsIn
import Derived.RangeFuncCalls
import Derived.Test.YtnegdmhmhdojbaaDoorTreeBase
import Derived.Maps.AppendAt
/-
  A row of paths that a loop over Walk collects, in a variable of its own: what is known from round to round (AstWalk). No function of the program is walked here.
-/
namespace Go.Proofs.YtnegdmhmhdojbaaDoor
set_option linter.unusedVariables false
set_option linter.unusedSimpArgs false
open Go.RowKit

/-- a row of paths; T: where the paths may lie -/
structure KRow (T : Nat → Prop) (w : World) (v : Value) (ps : List (List Int)) (vs : List Value) : Prop where
  own : w.ownsRow 0 33 1 v ps.length vs
  each : ∀ (i : Nat) (p : List Int) (u : Value), ps[i]? = some p → vs[i]? = some u → PathIn (fun k => T k ∧ v.ownBlock ≠ some k) w u p
theorem KRow.len {T : Nat → Prop} {w : World} {v : Value} {ps : List (List Int)} {vs : List Value} (h : KRow T w v ps vs) : vs.length = ps.length := by
  have := h.own.1; omega
theorem krow_lt {T : Nat → Prop} {w : World} {v : Value} {ps : List (List Int)} {vs : List Value} (h : KRow T w v ps vs) {g : Nat} (hg : v.ownBlock = some g) : g < w.heap.size := by
  rcases ownsRow_form h.own with ⟨rfl, _⟩ | ⟨g', cap, rfl, h1, h2, _⟩
  · cases hg
  · have : g' = g := by simpa [Value.ownBlock] using hg
    subst this; exact h2
theorem own_same {base : Nat} {w w' : World} {v : Value} {n : Nat} {xs : List Value} (h : w.ownsRow base 33 1 v n xs) (hk : ∀ k, v.ownBlock = some k → w'.heap[k]? = w.heap[k]?) : w'.ownsRow base 33 1 v n xs := by
  obtain ⟨h1, h2⟩ := h
  refine ⟨h1, ?_⟩
  rcases h2 with h2 | ⟨g, cap, cur, rfl, hg, hc, r⟩
  · exact .inl h2
  · exact .inr ⟨g, cap, cur, rfl, hg, (hk g rfl).trans hc, r⟩
theorem KRow.move {T : Nat → Prop} {w w' : World} {v : Value} {ps : List (List Int)} {vs : List Value} (h : KRow T w v ps vs) (hsz : w.heap.size ≤ w'.heap.size) (h1 : ∀ k, (T k ∨ v.ownBlock = some k) → k < w.heap.size → w'.heap[k]? = w.heap[k]?) : KRow T w' v ps vs :=
  ⟨own_same h.own (fun k hk => h1 k (.inr hk) (krow_lt h hk)), fun i p u hp hu => (h.each i p u hp hu).move hsz (fun k hk hl => h1 k (.inl hk.1) hl) (fun _ hk _ => hk)⟩
theorem KRow.step {T : Nat → Prop} {w w2 : World} {v v' u : Value} {ps : List (List Int)} {vs : List Value} {p : List Int} (h : KRow T w v ps vs) (hp : PathIn (fun k => T k ∧ v.ownBlock ≠ some k) w u p)
    (hown : w2.ownsRow 0 33 1 v' (ps.length + 1) (vs ++ [u])) (hg : w.grownBy w2 v.ownBlock) (hpl : v'.ownBlock = v.ownBlock ∨ v'.ownBlock = some w.heap.size) : KRow T w2 v' (ps ++ [p]) (vs ++ [u]) := by
  have mv : ∀ {u p}, PathIn (fun k => T k ∧ v.ownBlock ≠ some k) w u p → PathIn (fun k => T k ∧ v'.ownBlock ≠ some k) w2 u p := by
    intro u p h
    refine h.move hg.size (fun k hk hl => hg.block k hl (fun e => hk.2 e.symm)) (fun k hk hl => ⟨hk.1, ?_⟩)
    rcases hpl with e | e <;> rw [e]
    · exact hk.2
    · intro e2; have : w.heap.size = k := by simpa using e2
      omega
  have hl := h.len
  refine ⟨by rw [List.length_append]; exact hown, fun i q x hq hx => ?_⟩
  by_cases hi : i < ps.length
  · rw [List.getElem?_append_left hi] at hq
    rw [List.getElem?_append_left (by omega)] at hx
    exact mv (h.each i q x hq hx)
  · rw [List.getElem?_append_right (by omega)] at hq hx
    rw [hl] at hx
    match hd : i - ps.length, hq, hx with
    | 0, hq, hx =>
      simp at hq hx
      subst hq hx
      exact mv hp
    | n + 1, hq, hx => simp at hq

/-- what holds ahead of each round -/
structure WkI (t : Tree) (a : Option Addr) (c N K L : Nat) (wv : Value) (B : Nat → Prop) (pre : List (List Int × Tree)) (W : World) : Prop where
  box : W.heap[N]? = some (boxObj t a c)
  rep : RepIn (fun k => k < K) W t a
  want : W.heap[K]? = some (.cells #[wv] 50 (0, 0))
  lst : LRow (fun k => k < K) W wv (pathsOf t)
  kept : ∃ kv vs, W.heap[K + 1]? = some (.cells #[kv] 50 (0, 0)) ∧ KRow (fun k => k ≠ K + 1 ∧ ¬ (L ≤ k ∧ k ≤ L + 1)) W kv (pre.map (·.1)) vs ∧ (∀ b, kv.ownBlock = some b → L + 2 ≤ b) ∧ (∀ k, B k ↔ k = K + 1 ∨ kv.ownBlock = some k)
  n : N < K
  l : K + 1 < L
theorem WkI.keep {t : Tree} {a : Option Addr} {c N K L : Nat} {wv : Value} {B : Nat → Prop} {pre : List (List Int × Tree)} {A C : World} (h : WkI t a c N K L wv B pre A) (hk : Keep (fun k => L ≤ k ∧ k ≤ L + 1) A C) : WkI t a c N K L wv B pre C := by
  have hn := h.n
  have hl := h.l
  have hb : ∀ k, k < L → k < A.heap.size → C.heap[k]? = A.heap[k]? := fun k h1 h2 => hk.block k (by omega) h2
  obtain ⟨kv, vs, k1, k2, k3, k4⟩ := h.kept
  refine ⟨(hb _ (by omega) (Array.getElem?_eq_some_iff.1 h.box).1).trans h.box, h.rep.move (fun k hk hl => hb k (by omega) hl) (fun _ h _ => h), (hb _ (by omega) (Array.getElem?_eq_some_iff.1 h.want).1).trans h.want,
    h.lst.move hk.size (fun k hk hl => hb k (by omega) hl) (fun _ h _ => h), ⟨kv, vs, (hb _ (by omega) (Array.getElem?_eq_some_iff.1 k1).1).trans k1, k2.move hk.size (fun k hq hl => hk.block k ?_ hl), k3, k4⟩, h.n, h.l⟩
  rcases hq with hq | hq
  · exact hq.2
  · have := k3 k hq; omega
/-- what a round leaves: W: its beginning; W7: ahead of its last statement -/
theorem wk_next {t : Tree} {a : Option Addr} {c N K L : Nat} {wv kv kv' v : Value} {vs : List Value} {B : Nat → Prop} {pre : List (List Int × Tree)} {x : List Int × Tree} {W W7 w9 : World} (h : WkI t a c N K L wv B pre W) (hL : L + 2 ≤ W.heap.size)
    (k1 : W.heap[K + 1]? = some (.cells #[kv] 50 (0, 0))) (k2 : KRow (fun k => k ≠ K + 1 ∧ ¬ (L ≤ k ∧ k ≤ L + 1)) W kv (pre.map (·.1)) vs) (k3 : ∀ b, kv.ownBlock = some b → L + 2 ≤ b) (k4 : ∀ k, B k ↔ k = K + 1 ∨ kv.ownBlock = some k)
    (hp : PathIn (fun k => ¬ (B k ∨ (L ≤ k ∧ k ≤ L + 1))) W v x.1) (hB : Below W.heap.size W W7)
    (ho : w9.ownsRow 0 33 1 kv' (pre.length + 1) (vs ++ [v])) (hg : (W7.alloc (.cells #[v] 33)).grownBy w9 kv.ownBlock) (hpl : kv'.ownBlock = kv.ownBlock ∨ kv'.ownBlock = some (W7.alloc (.cells #[v] 33)).heap.size) :
    Keep B W (w9.setCell ⟨K + 1, 0, none⟩ kv') ∧ Own (WkI t a c N K L wv) B W.heap.size (pre ++ [x]) (w9.setCell ⟨K + 1, 0, none⟩ kv') := by
  have hn := h.n
  have hl := h.l
  have hB8 : Below W.heap.size W (W7.alloc (.cells #[v] 33)) := hB.alloc hB.size _
  have hz8 := hB8.size
  have hK1 : K + 1 < W.heap.size := (Array.getElem?_eq_some_iff.1 k1).1
  have hz9 := hg.size
  have hown := fun b (hb : kv.ownBlock = some b) => krow_lt k2 hb
  -- blocks that were there, but for those of the body's own
  have hk : ∀ k, k < W.heap.size → k ≠ K + 1 → kv.ownBlock ≠ some k → (w9.setCell ⟨K + 1, 0, none⟩ kv').heap[k]? = W.heap[k]? := fun k h1 h2 h3 =>
    (Below.heap_setCell _ _ _ _ h2).trans ((hg.block k (by omega) (fun e => h3 e.symm)).trans (hB8.block k h1))
  have hold : ∀ k, k < W.heap.size → k < L → k ≠ K + 1 → (w9.setCell ⟨K + 1, 0, none⟩ kv').heap[k]? = W.heap[k]? := fun k h1 h2 h3 => hk k h1 h3 (fun e => by have := k3 k e; omega)
  have hsz : (w9.setCell ⟨K + 1, 0, none⟩ kv').heap.size = w9.heap.size := by simp
  have hcell : w9.heap[K + 1]? = some (.cells #[kv] 50 (0, 0)) := (hg.block _ (by omega) (fun e => by have := k3 _ e.symm; omega)).trans ((hB8.block _ hK1).trans k1)
  refine ⟨⟨hg.os.trans hB8.os, hg.tape.trans hB8.tape, hg.output.trans hB8.output, by rw [hsz]; omega, fun k hb h2 => hk k h2 (fun e => hb ((k4 k).2 (.inl e))) (fun e => hb ((k4 k).2 (.inr e)))⟩, ?_⟩
  have hplace : ∀ b, kv'.ownBlock = some b → L + 2 ≤ b ∧ b < w9.heap.size ∧ (kv.ownBlock = some b ∨ W.heap.size ≤ b) := by
    intro b hb
    have hlt : b < w9.heap.size := by
      rcases ownsRow_form ho with ⟨rfl, _⟩ | ⟨g', cap, rfl, _, h2, _⟩
      · cases hb
      · have : g' = b := by simpa [Value.ownBlock] using hb
        omega
    rcases hpl with e | e
    · exact ⟨k3 b (e.symm.trans hb), hlt, .inl (e.symm.trans hb)⟩
    · rw [e] at hb
      have : (W7.alloc (.cells #[v] 33)).heap.size = b := by simpa using hb
      exact ⟨by omega, hlt, .inr (by omega)⟩
  refine ⟨fun k => k = K + 1 ∨ kv'.ownBlock = some k, fun k hb => ?_, fun k hb => ?_, ?_⟩
  · rcases hb with e | e
    · exact .inl ((k4 k).2 (.inl e))
    · rcases (hplace k e).2.2 with q | q
      · exact .inl ((k4 k).2 (.inr q))
      · exact .inr q
  · rw [hsz]
    rcases hb with e | e
    · omega
    · exact (hplace k e).2.1
  · have hp8 : PathIn (fun k => (k ≠ K + 1 ∧ ¬ (L ≤ k ∧ k ≤ L + 1)) ∧ kv.ownBlock ≠ some k) (W7.alloc (.cells #[v] 33)) v x.1 :=
      (hp.below hB8).move (Nat.le_refl _) (fun _ _ _ => rfl) (fun k hk _ => ⟨⟨fun e => hk (.inl ((k4 k).2 (.inl e))), fun e => hk (.inr e)⟩, fun e => hk (.inl ((k4 k).2 (.inr e)))⟩)
    have k2' : KRow (fun k => k ≠ K + 1 ∧ ¬ (L ≤ k ∧ k ≤ L + 1)) (W7.alloc (.cells #[v] 33)) kv (pre.map (·.1)) vs := k2.move hz8 (fun k _ hl => hB8.block k hl)
    have k9 := k2'.step hp8 (by rw [List.length_map]; exact ho) hg hpl
    refine ⟨(hold N (by have := (Array.getElem?_eq_some_iff.1 h.box).1; omega) (by omega) (by omega)).trans h.box, h.rep.move (fun k hq hl => hold k hl (by omega) (by omega)) (fun _ h _ => h), (hold K (by omega) (by omega) (by omega)).trans h.want,
      h.lst.move (by rw [hsz]; omega) (fun k hq hl => hold k hl (by omega) (by omega)) (fun _ h _ => h), ⟨kv', vs ++ [v], one_setCell hcell, ?_, fun b hb => (hplace b hb).1, fun k => Iff.rfl⟩, h.n, h.l⟩
    rw [List.map_append]
    refine k9.move (by rw [hsz]; exact Nat.le_refl _) (fun k hq hl => Below.heap_setCell _ _ _ _ ?_)
    rcases hq with hq | hq
    · exact hq.1
    · have := (hplace k hq).1; show k ≠ K + 1; omega
end Go.Proofs.YtnegdmhmhdojbaaDoor

/-
  A region that draws its order, inside of a round of a loop over a function: by the laws for regions outside of one. No program is named here.
-/
namespace Go.Proofs.YtnegdmhmhdojbaaDoor
set_option linter.unusedVariables false
set_option linter.unusedSimpArgs false
open Go.RowKit

/-- no operation defers a call -/
def noDefer (ops : Array Oper) : Bool := ops.all fun o => match o.op with | .defer _ => false | _ => true
theorem noDefer_spec {ops : Array Oper} (h : noDefer ops = true) {i : Nat} {o : Oper} (hi : ops[i]? = some o) : ∀ c, o.op ≠ .defer c := by
  intro c hc
  have := Array.all_eq_true.1 h i (Array.getElem?_eq_some_iff.1 hi).1
  rw [(Array.getElem?_eq_some_iff.1 hi).2, hc] at this
  cases this

section
variable {P : Program} {ops : Array Oper} {Q : Exit → Act → World → Prop} {md : Region.Mode} {S : World → Prop} {l n : Nat}

theorem wpIn_of_wp {o : Oper} {a : Act} {w : World} {K : Act → World → Prop} (hd : ∀ c, o.op ≠ .defer c) (h : o.wp P a w K Q) : o.wpIn (Fence.wide.inRound l) n P a w K Q := by
  unfold Oper.wpIn
  refine ⟨fun _ _ => trivial, ?_⟩
  rw [Fence.inRound_round, Oper.semAt_some l _ _ hd]
  unfold Oper.wp at h
  generalize (execOp a.eval o).run P w = r at *
  cases r with
  | ok x w' =>
    cases x <;> simp only [Oper.upon, Oper.uponIn] at h ⊢ <;>
      first
        | exact h
        | exact ⟨fun q => (by cases q), CallsIn.inRound l (callsIn_wide.2 h)⟩
        | exact ⟨fun q => (by cases q), fun c cs _ => let ⟨v, w'', r, s⟩ := h c cs; ⟨v, w'', r, stepsIn_wide.2 s⟩⟩
  | halt x w' => cases x <;> simp only [Oper.upon, Oper.uponIn] at h ⊢ <;> exact h

theorem wpAnyIn_of_held (hd : noDefer ops = true) (hlo : ¬ LetsOut Q) : ∀ (fuel : Nat) (listed : Array Bool) (a : Act) (w : World), wpAnyH P md ops Q S fuel listed a w → wpAnyIn (Fence.wide.inRound l) n P md ops Q fuel listed a w := by
  intro fuel
  induction fuel with
  | zero => intro listed a w h; exact h
  | succ fuel ih =>
    intro listed a w h
    refine ⟨h.1, fun i hi => ?_⟩
    have h1 := h.2 i hi
    unfold wpOp at h1
    unfold wpOpIn
    cases ho : ops[i]? with
    | none => rw [ho] at h1; exact ih _ _ _ h1.2
    | some o =>
      rw [ho] at h1
      dsimp only at h1 ⊢
      split
      · rename_i hw
        rw [if_pos hw] at h1
        rcases h1 with h1 | h1
        · exact Oper.wpIn_mono (fun a w h => ih _ _ _ h.2) (wpIn_of_wp (noDefer_spec hd ho) h1)
        · exact absurd h1.2 hlo
      · rename_i hw
        rw [if_neg hw] at h1
        exact ⟨fun _ _ => trivial, ih _ _ _ h1.2⟩

/-- a region that draws, in a round: S is shown of the world behind the draw, once, and handed on -/
theorem round_held {id : Nat} {a : Act} {w : World} (hm : P.follows .mixedOrders = true) (hd : noDefer ops = true) (hlo : ¬ LetsOut Q) (hS : S w.drew)
    (h : S w.drew → wpAnyH P .any ops Q S ops.size (Array.replicate ops.size false) a w.drew) : (Code.region id ops true).wpIn (Fence.wide.inRound l) n P Q a w :=
  wpIn_region_any hm (wpAnyIn_of_held hd hlo _ _ _ _ (h hS))
end

/-- R at the plain end, nothing else -/
def OnlyN (R : Act → World → Prop) : Exit → Act → World → Prop
  | .normal, a, w => R a w
  | _, _, _ => False
theorem OnlyN.no {R : Act → World → Prop} : ¬ LetsOut (OnlyN R) := fun ⟨_, _, h⟩ => h
/-- a piece of code by what it leaves at its plain end -/
theorem cut_normal {F : Fence} {n : Nat} {P : Program} {cd : Code} {Q : Exit → Act → World → Prop} {a : Act} {W : World} (R : Array Value → Act → World → Prop)
    (h : cd.wpIn F n P (OnlyN (R a.tmps)) a W) (hq : ∀ a' w', R a.tmps a' w' → Q .normal a' w') : cd.wpIn F n P Q a W :=
  wpIn_mono h fun e a' w' h' => by cases e <;> first | exact hq a' w' h' | exact (h' : False).elim
end Go.Proofs.YtnegdmhmhdojbaaDoor

/-
  Boxes of four cells in a round: a store of all four, what stays. No program is named here.
-/
namespace Go.Proofs.YtnegdmhmhdojbaaDoor
set_option linter.unusedVariables false
set_option linter.unusedSimpArgs false
open Go.RowKit

/-- append to a row of the call's own, nothing or something, as one step of a region that draws its order: the new row lies where the old one lay, or in the next block -/
theorem step_append_at {P : Program} {ops : Array Oper} {o : Oper} {a : Act} {w : World} {K : Act → World → Prop} {Q : Exit → Act → World → Prop} {E : Prop}
    (hg : o.guard = none) (s x : Operand) (t : TypeId) (hop : o.op = Op.call { callee := Callee.builtin Builtin.append, args := #[s, x], argTypes := #[t, t] })
    (base : Nat) (e : TypeId) (i : TypeInfo) (z : Value) (size bytes : Nat) (h1 : P.underlying t = some (.slice e)) (h2 : P.info? e = some i) (h3 : i.zero = some z) (h4 : i.size = size) (h5 : i.bytes = bytes) (h6 : z.cells.size = size) (h7 : 0 < size)
    (v : Value) (n : Nat) (xs : List Value) (hs : a.eval s = v) (hown : w.ownsRow base e size v n xs)
    (ad : Addr) (m c : Nat) (news : List Value) (hx : a.eval x = .slice (some ad) m c) (hn : news.length = m * size) (hc : ∀ j u, news[j]? = some u → w.cell? (ad.add j) = some u) (h1c : ∀ u ∈ news, u.oneCell' = true)
    (b1 : n + m ≤ maxLen) (b2 : (n + m) * bytes ≤ 140737488355328) (hbase : base ≤ w.heap.size)
    (hK : ∀ v' w', w'.ownsRow base e size v' (n + m) (xs ++ news) → w.grownBy w' v.ownBlock → (v'.ownBlock = v.ownBlock ∨ v'.ownBlock = some w.heap.size) → K (a.put o.dst v') w') :
    if Region.wanted o (yielded ops a.tmps) = true then Oper.wp P o a w K Q else E := by
  have hw : Region.wanted o (yielded ops a.tmps) = true := by simp [Region.wanted, hg]
  rw [if_pos hw]
  obtain ⟨v', w', hrun, r1, r2, _, r4⟩ := run_append_own_at (P := P) w base t o.type e i z size bytes h1 h2 h3 h4 h5 h6 h7 v n xs hown ad m c news hn hc h1c b1 b2 hbase
  unfold Oper.wp
  simp [execOp, hop, resolve, invoke, builtin, hs, hx, hrun, Result.andThen]
  exact hK v' w' r1 r2 r4
end Go.Proofs.YtnegdmhmhdojbaaDoor
