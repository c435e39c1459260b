/-
  A law for 'for .. := range g { .. }' whose body knows what it was handed, in the memory as it lies then. No program is named here.
-/
import Derived.RangeFuncNested
import Derived.RangeFuncBound
import Derived.RangeFuncLeaves
import Derived.WalkKit
namespace Go.Proofs.YtkpdngfkdmllkaaDoor
set_option linter.unusedVariables false
set_option linter.unusedSimpArgs false
open Go.RowKit

/-- The world has grown; of what was there only blocks of a kind may have turned. -/
structure Keep (O : Nat → Prop) (W W' : World) : Prop where
  os : W'.os = W.os
  tape : W'.tape = W.tape
  output : W'.output = W.output
  size : W.heap.size ≤ W'.heap.size
  block : ∀ k, ¬ O k → k < W.heap.size → W'.heap[k]? = W.heap[k]?

theorem Keep.refl (O : Nat → Prop) (W : World) : Keep O W W := ⟨rfl, rfl, rfl, Nat.le_refl _, fun _ _ _ => rfl⟩
theorem Keep.trans {O : Nat → Prop} {A B C : World} (h : Keep O A B) (k : Keep O B C) : Keep O A C :=
  ⟨k.os.trans h.os, k.tape.trans h.tape, k.output.trans h.output, Nat.le_trans h.size k.size, fun i hi hl => (k.block i hi (Nat.lt_of_lt_of_le hl h.size)).trans (h.block i hi hl)⟩
theorem Keep.mono {O O' : Nat → Prop} {A B : World} (h : Keep O A B) (hO : ∀ k, O k → O' k) : Keep O' A B :=
  ⟨h.os, h.tape, h.output, h.size, fun k hk => h.block k (fun x => hk (hO k x))⟩
theorem Keep.ofBelow {O : Nat → Prop} {A B : World} (h : Below A.heap.size A B) : Keep O A B := ⟨h.os, h.tape, h.output, h.size, fun k _ hk => h.block k hk⟩
theorem Keep.below {O : Nat → Prop} {A B : World} (h : Keep O A B) {N : Nat} (hN : N ≤ A.heap.size) (hO : ∀ k, O k → N ≤ k) : Below N A B :=
  ⟨h.os, h.tape, h.output, h.size, fun k hk => h.block k (fun x => by have := hO k x; omega) (by omega)⟩
theorem Keep.putObj (O : Nat → Prop) (W : World) (r : Nat) (o : Obj) (hr : O r) : Keep O W (W.putObj r o) :=
  ⟨rfl, rfl, rfl, by simp, fun _ hk _ => World.putObj_heap_other (fun e => hk (e ▸ hr))⟩

theorem Keep.put {O : Nat → Prop} {w W : World} (h : Keep O w W) {r : Nat} (hr : w.heap.size ≤ r) (o : Obj) : Keep O w (W.putObj r o) :=
  ⟨h.os, h.tape, h.output, by have := h.size; simpa using this, fun k hk hl => (World.putObj_heap_other (by omega)).trans (h.block k hk hl)⟩

/-- how a round's body may end -/
def roundEnd {α : Type} (O : Nat → Prop) (I : List α → World → Prop) (Ix : Code → List α → World → Prop) (xs : List α) (W : World) : Exit → Act → World → Prop
  | .normal, _, W' => Keep O W W' ∧ I xs W'
  | .ret, _, W' => Keep O W W' ∧ Ix .ret xs W'
  | .exit id, _, W' => Keep O W W' ∧ Ix (.exit id) xs W'
  | .goto t, _, W' => Keep O W W' ∧ Ix (.goto t) xs W'
  | .panic _, _, _ => False
  | .outgrown, _, _ => False

/-- the body's own blocks: those it had, or new ones -/
def Own {α : Type} (J : (Nat → Prop) → List α → World → Prop) (B : Nat → Prop) (N : Nat) (pre : List α) (W' : World) : Prop :=
  ∃ B' : Nat → Prop, (∀ k, B' k → B k ∨ N ≤ k) ∧ (∀ k, B' k → k < W'.heap.size) ∧ J B' pre W'
theorem Own.trans {α : Type} {J : (Nat → Prop) → List α → World → Prop} {B B' : Nat → Prop} {N M : Nat} {pre : List α} {W : World} (h : Own J B' M pre W) (hs : ∀ k, B' k → B k ∨ N ≤ k) (hN : N ≤ M) : Own J B N pre W := by
  obtain ⟨C, h1, h2, h3⟩ := h
  refine ⟨C, fun k hk => ?_, h2, h3⟩
  rcases h1 k hk with h | h
  · exact hs k h
  · exact .inr (Nat.le_trans hN h)
theorem Keep.dyn {B B' : Nat → Prop} {W A C : World} (h : Keep B W A) (k : Keep B' A C) (hs : ∀ k, B' k → B k ∨ W.heap.size ≤ k) : Keep B W C := by
  refine ⟨k.os.trans h.os, k.tape.trans h.tape, k.output.trans h.output, Nat.le_trans h.size k.size, fun i hi hl => ?_⟩
  have hn : ¬ B' i := fun x => by
    rcases hs i x with y | y
    · exact hi y
    · omega
  exact (k.block i hn (Nat.lt_of_lt_of_le hl h.size)).trans (h.block i hi hl)

/-- how a round's body may end, its own blocks at hand -/
def roundEndD {α : Type} (B : Nat → Prop) (I : (Nat → Prop) → List α → World → Prop) (Ix : Code → List α → World → Prop) (xs : List α) (W : World) : Exit → Act → World → Prop
  | .normal, _, W' => Keep B W W' ∧ Own I B W.heap.size xs W'
  | .ret, _, W' => Keep B W W' ∧ Ix .ret xs W'
  | .exit id, _, W' => Keep B W W' ∧ Ix (.exit id) xs W'
  | .goto t, _, W' => Keep B W W' ∧ Ix (.goto t) xs W'
  | .panic _, _, _ => False
  | .outgrown, _, _ => False

/-- what a call of yield may do: on, or no more; B: the blocks that are the body's own -/
def YieldOk {α : Type} (J : (Nat → Prop) → List α → World → Prop) (Jx : List α → World → Prop) (B : Nat → Prop) (pre : List α) (x : α) (W : World) (e : Ending) (W' : World) : Prop :=
  ∃ b : Bool, e = .returned (.bool b) ∧ Keep B W W' ∧ (b = true → Own J B W.heap.size (pre ++ [x]) W') ∧ (b = false → Jx (pre ++ [x]) W')

/-- what an iterator promises of the things xs, from a world on: S: the blocks that it reads; B: what a round may turn; E: what is known of a thing that is handed over -/
def IterOk {α : Type} (P : Program) (gf : Nat) (lb : Array Value) (S : Nat → Prop) (E : (Nat → Prop) → α → Array Value → World → Prop) (xs : List α) (w : World) : Prop :=
  ∀ (n l : Nat) (J : (Nat → Prop) → List α → World → Prop) (Jx : List α → World → Prop) (B0 : Nat → Prop) (W : World), Below w.heap.size w W → (∀ k, B0 k → ¬ S k) → (∀ k, B0 k → k < W.heap.size) →
    (∀ B pre A C, J B pre A → Below A.heap.size A C → J B pre C) →
    (∀ m B pre x args A, J B pre A → (∀ k, B k → k < A.heap.size) → pre ++ [x] <+: xs → W.heap.size ≤ A.heap.size → E B x args A → YieldAt Fence.wide m P l args A (YieldOk J Jx B pre x A)) →
    J B0 [] W →
    CallsIn Fence.wide n P gf (#[.func (.yield l) #[] #[]] ++ lb) W fun e W' => (∃ v, e = .returned v) ∧ ((∃ B, J B xs W') ∨ ∃ q, q <+: xs ∧ Jx q W')

theorem range_lawD {α : Type} {P : Program} {n : Nat} {g : Operand} {ps : Array Tmp} {assign body : Code} {Q : Exit → Act → World → Prop} {a : Act} {w : World}
    {gf : Nat} {lb : Array Value} (hg : a.eval g = .func (.func gf) #[] lb) (eg : ∀ args w, (callFunc gf args).run P w = .ok (.enter gf args) w)
    {S : Nat → Prop} {E : (Nat → Prop) → α → Array Value → World → Prop} {xs : List α} (hseq : IterOk P gf lb S E xs w)
    (O : Nat → Prop) (hO1 : ∀ k, O k → k < w.heap.size) (hO2 : ∀ k, O k → ¬ S k) (hS : ∀ k, S k → k < w.heap.size)
    (hps : ∀ O x args W, E O x args W → args.size = ps.size)
    (I : (Nat → Prop) → List α → World → Prop) (Ix : Code → List α → World → Prop)
    (hI : ∀ B pre A C, I B pre A → Keep (fun k => w.heap.size ≤ k ∧ k ≤ w.heap.size + 1) A C → I B pre C)
    (hIx : ∀ c pre A B, Ix c pre A → Keep (fun k => w.heap.size ≤ k ∧ k ≤ w.heap.size + 1) A B → Ix c pre B)
    (h0 : I O [] w)
    (M : (Nat → Prop) → α → Act → World → Prop)
    (hM : ∀ B x a' A C, M B x a' A → Keep (fun k => w.heap.size ≤ k ∧ k ≤ w.heap.size + 1) A C → M B x a' C)
    (hassign : ∀ (m l : Nat) (pre : List α) (x : α) (args : Array Value) (W : World) (K : Act → World → Prop) (B : Nat → Prop), I B pre W → (∀ k, B k → k < W.heap.size) → w.heap.size + 2 ≤ W.heap.size → E (fun k => B k ∨ (w.heap.size ≤ k ∧ k ≤ w.heap.size + 1)) x args W →
      (∀ a' W', Below W.heap.size W W' → M B x a' W' → K a' W') →
      assign.wpIn (Fence.wide.inRound l) m P (Exit.then K (fun _ _ _ => False)) { tmps := (ps.zip args).foldl (fun t (p, v) => t.setIfInBounds p v) a.tmps, defers := [] } W)
    (hbody : ∀ (m l : Nat) (pre : List α) (x : α) (a' : Act) (W : World) (B : Nat → Prop), pre ++ [x] <+: xs → I B pre W → (∀ k, B k → O k ∨ w.heap.size + 2 ≤ k) → (∀ k, B k → k < W.heap.size) → w.heap.size + 2 ≤ W.heap.size → M B x a' W → body.wpIn (Fence.wide.inRound l) m P (roundEndD B I Ix (pre ++ [x]) W) a' W)
    (hdone : ∀ (W : World) (B : Nat → Prop), I B xs W → (∀ k, B k → O k ∨ w.heap.size + 2 ≤ k) → Keep O w W → W.heap[w.heap.size]? = some (.deferred (some [])) → Q .normal { a with defers := { target := .collected w.heap.size, args := #[] } :: a.defers } W)
    (hstop : ∀ (c : Code) (q : List α) (W : World), q <+: xs → Ix c q W → Keep O w W → W.heap[w.heap.size]? = some (.deferred (some [])) → c.wpIn Fence.wide n P Q { a with defers := { target := .collected w.heap.size, args := #[] } :: a.defers } W) :
    (Code.rangeFunc g ps assign body).wpIn Fence.wide n P Q a w := by
  obtain ⟨two, htwo⟩ : ∃ two : Nat → Prop, two = fun k => w.heap.size ≤ k ∧ k ≤ w.heap.size + 1 := ⟨_, rfl⟩
  have twoD : two w.heap.size := by rw [htwo]; exact ⟨Nat.le_refl _, by omega⟩
  have twoL : two (w.heap.size + 1) := by rw [htwo]; exact ⟨by omega, Nat.le_refl _⟩
  refine wpIn_rangeFunc ?_
  intro fn hfn
  show ∃ l mark w₁ d w₁' f args w₂, (Instr.enterLoop fn a.tmps ps assign body none).run P w = .ok (l, mark) w₁ ∧ _
  -- the record of the loop, in a state, with a pending jump
  obtain ⟨R, hR⟩ : ∃ R : LoopState → Option Code → Loop, R = fun st pe => { state := st, pending := pe, fn, tmps := a.tmps, params := ps, assign, body, defers := w.heap.size } := ⟨_, rfl⟩
  obtain ⟨W1, hW1⟩ : ∃ W1, W1 = (w.alloc (.deferred (some []))).alloc (.loop (R .ready none)) := ⟨_, rfl⟩
  have hD1 : W1.heap[w.heap.size]? = some (.deferred (some [])) := by
    rw [hW1, Below.heap_alloc _ _ _ (by simp)]; exact World.alloc_heap_new w _
  have hL1 : W1.heap[w.heap.size + 1]? = some (.loop (R .ready none)) := by
    have := World.alloc_heap_new (w.alloc (.deferred (some []))) (.loop (R .ready none))
    rw [hW1]; simpa using this
  have hB1 : Below w.heap.size w W1 := by rw [hW1]; exact ((Below.refl _ _).alloc (Nat.le_refl _) _).alloc (by simp) _
  have hS1 : W1.heap.size = w.heap.size + 2 := by rw [hW1]; simp
  -- the invariant that the iterator sees
  obtain ⟨J, hJ⟩ : ∃ J : (Nat → Prop) → List α → World → Prop, J = fun C pre W => (∃ B : Nat → Prop, C = (fun k => B k ∨ two k) ∧ I B pre W ∧ (∀ k, B k → O k ∨ w.heap.size + 2 ≤ k) ∧ (∀ k, B k → k < W.heap.size)) ∧ Keep O w W ∧ w.heap.size + 2 ≤ W.heap.size ∧ W.heap[w.heap.size]? = some (.deferred (some [])) ∧ W.heap[w.heap.size + 1]? = some (.loop (R .ready none)) := ⟨_, rfl⟩
  obtain ⟨Jx, hJx⟩ : ∃ Jx : List α → World → Prop, Jx = fun pre W => ∃ c, Ix c pre W ∧ Keep O w W ∧ W.heap[w.heap.size]? = some (.deferred (some [])) ∧ W.heap[w.heap.size + 1]? = some (.loop (R .done (some c))) := ⟨_, rfl⟩
  refine ⟨w.heap.size + 1, [{ target := .collected w.heap.size, args := #[] }], W1, { target := .fn (.func gf) lb, args := #[.func (.yield (w.heap.size + 1)) #[] #[]] }, W1, gf,
    #[.func (.yield (w.heap.size + 1)) #[] #[]] ++ lb, W1, ?_, ?_, fun _ _ => trivial, ?_, (fun h => by cases h), ?_⟩
  · rw [hW1, hR]; exact run_enterLoop_outer _ _ _ _ _
  · simp only [resolve, hg]; simp [go_sem]
  · simp [invoke, go_sem, eg]
  · refine (hseq (n - 1) (w.heap.size + 1) J Jx (fun k => O k ∨ two k) W1 hB1 ?_ ?_ ?_ ?_ ?_).mono ?_
    · rintro k (hk | hk) hs
      · exact hO2 k hk hs
      · have := hS k hs; rw [htwo] at hk; omega
    · rintro k (hk | hk)
      · have := hO1 k hk; omega
      · rw [htwo] at hk; omega
    · intro C0 pre A B h hb
      rw [hJ] at h ⊢
      obtain ⟨⟨Bo, hc, h1, hs1, hl1⟩, h2, h3, h4, h5⟩ := h
      refine ⟨⟨Bo, hc, hI Bo pre A B h1 (Keep.ofBelow hb), hs1, fun k hk => Nat.lt_of_lt_of_le (hl1 k hk) hb.size⟩, h2.trans (Keep.ofBelow hb), Nat.le_trans h3 hb.size, ?_, ?_⟩
      · rw [hb.block _ (by omega)]; exact h4
      · rw [hb.block _ (by omega)]; exact h5
    · -- one round
      intro m C0 pre x args A hj _ hpx hA hE
      rw [hJ] at hj
      obtain ⟨⟨Bo, rfl, h1, hs1, hlB⟩, h2, h3, h4, h5⟩ := hj
      have notO : ∀ k, two k → ¬ Bo k := fun k h o => by
        rw [htwo] at h
        rcases hs1 k o with q | q
        · have := hO1 k q; omega
        · omega
      have hy := run_yield (P := P) (args := args) h5 (by rw [hR]; exact hps _ _ _ _ hE)
      rw [hR] at hy
      refine ⟨fn, _, assign, body, hy, roundIn_of_wpIn hfn (hassign m _ pre x args A _ Bo h1 hlB h3 (by rw [htwo] at hE; exact hE) ?_)⟩
      intro a' A1 hb1 hm1
      have hl1 : A1.heap[w.heap.size + 1]? = some (.loop (R .ready none)) := by rw [hb1.block _ (by omega)]; exact h5
      have hd1 : A1.heap[w.heap.size]? = some (.deferred (some [])) := by rw [hb1.block _ (by omega)]; exact h4
      have hz1 : w.heap.size + 2 ≤ A1.heap.size := Nat.le_trans h3 hb1.size
      refine ⟨_, run_beginRound hl1 (by rw [hR]), ?_⟩
      obtain ⟨A2, hA2⟩ : ∃ A2, A2 = A1.putObj (w.heap.size + 1) (.loop { R .ready none with state := .busy }) := ⟨_, rfl⟩
      rw [← hA2]
      have k12 : Keep two A1 A2 := by rw [hA2]; exact Keep.putObj two _ _ _ twoL
      have hl2 : A2.heap[w.heap.size + 1]? = some (.loop { R .ready none with state := .busy }) := by rw [hA2]; exact World.putObj_heap_same (by omega)
      have hd2 : A2.heap[w.heap.size]? = some (.deferred (some [])) := by rw [hA2, World.putObj_heap_other (by omega)]; exact hd1
      have hz2 : w.heap.size + 2 ≤ A2.heap.size := Nat.le_trans hz1 k12.size
      have i2 : I Bo pre A2 := hI Bo pre _ _ (hI Bo pre _ _ h1 (Keep.ofBelow hb1)) (by rw [← htwo]; exact k12)
      have m2 : M Bo x a' A2 := hM Bo x a' _ _ hm1 (by rw [← htwo]; exact k12)
      have w2 : Keep O w A2 := by
        refine ⟨k12.os.trans (hb1.os.trans h2.os), k12.tape.trans (hb1.tape.trans h2.tape), k12.output.trans (hb1.output.trans h2.output), by have := h2.size; have := hb1.size; have := k12.size; omega, fun k hk hl => ?_⟩
        rw [k12.block k (fun t => by rw [htwo] at t; omega) (by have := h2.size; have := hb1.size; omega), hb1.block k (by have := h2.size; omega)]
        exact h2.block k hk hl
      have hl2B : ∀ k, Bo k → k < A2.heap.size := fun k hk => Nat.lt_of_lt_of_le (Nat.lt_of_lt_of_le (hlB k hk) hb1.size) k12.size
      refine wpIn_mono (hbody m _ pre x a' A2 Bo hpx i2 hs1 hl2B hz2 m2) ?_
      -- the end of the round, by the way in which the body is left
      have fin : ∀ (jump : Option Code) (A3 : World), Keep Bo A2 A3 →
          (Instr.endRound (w.heap.size + 1) jump).run P A3 = .ok (.bool jump.isNone) (A3.putObj (w.heap.size + 1) (.loop (R (if jump.isNone then .ready else .done) jump))) ∧
          Keep two A3 (A3.putObj (w.heap.size + 1) (.loop (R (if jump.isNone then .ready else .done) jump))) ∧
          (A3.putObj (w.heap.size + 1) (.loop (R (if jump.isNone then .ready else .done) jump))).heap[w.heap.size + 1]? = some (.loop (R (if jump.isNone then .ready else .done) jump)) ∧
          (A3.putObj (w.heap.size + 1) (.loop (R (if jump.isNone then .ready else .done) jump))).heap[w.heap.size]? = some (.deferred (some [])) ∧
          Keep O w (A3.putObj (w.heap.size + 1) (.loop (R (if jump.isNone then .ready else .done) jump))) ∧
          Keep (fun k => Bo k ∨ two k) A (A3.putObj (w.heap.size + 1) (.loop (R (if jump.isNone then .ready else .done) jump))) := by
        intro jump A3 hk3
        have hl3 : A3.heap[w.heap.size + 1]? = some (.loop { R .ready none with state := .busy }) := by rw [hk3.block _ (notO _ twoL) (by omega)]; exact hl2
        have hd3 : A3.heap[w.heap.size]? = some (.deferred (some [])) := by rw [hk3.block _ (notO _ twoD) (by omega)]; exact hd2
        have hr := run_endRound (P := P) jump hl3
        have hz3 := hk3.size
        have k34 : Keep two A3 (A3.putObj (w.heap.size + 1) (.loop (R (if jump.isNone then .ready else .done) jump))) := Keep.putObj two _ _ _ twoL
        refine ⟨by rw [hR] at hr ⊢; exact hr, k34, World.putObj_heap_same (by omega), by rw [World.putObj_heap_other (by omega)]; exact hd3, ?_, ?_⟩
        · refine ⟨k34.os.trans (hk3.os.trans w2.os), k34.tape.trans (hk3.tape.trans w2.tape), k34.output.trans (hk3.output.trans w2.output), by have := w2.size; have := k34.size; omega, fun k hk hl => ?_⟩
          have := w2.size
          rw [k34.block k (fun t => by rw [htwo] at t; omega) (by omega)]
          refine (w2.dyn hk3 (fun k hk => ?_)).block k hk hl
          rcases hs1 k hk with q | q
          · exact .inl q
          · exact .inr (by omega)
        · exact ((Keep.ofBelow hb1).trans (k12.mono (fun k h => .inr h))).trans ((hk3.mono (fun k h => .inl h)).trans (k34.mono (fun k h => .inr h)))
      rintro e a3 A3 hp
      cases e with
      | normal =>
        obtain ⟨hk3, hi3⟩ := hp
        obtain ⟨r1, r2, r3, r4, r5, r6⟩ := fin none A3 hk3
        refine ⟨_, _, r1, true, rfl, r6, fun _ => ?_, fun h => (by cases h)⟩
        obtain ⟨B3, hb3, hl3, hi3⟩ := hi3
        have hA2z : A.heap.size ≤ A2.heap.size := Nat.le_trans hb1.size k12.size
        refine ⟨fun k => B3 k ∨ two k, fun k hk => ?_, fun k hk => ?_, ?_⟩
        · rcases hk with q | q
          · rcases hb3 k q with y | y
            · exact .inl (.inl y)
            · exact .inr (by omega)
          · exact .inl (.inr q)
        · rcases hk with q | q
          · have := hl3 k q; simpa using this
          · have := hk3.size; rw [htwo] at q; simp; omega
        rw [hJ]
        refine ⟨⟨B3, rfl, hI _ _ _ _ hi3 (by rw [← htwo]; exact r2), fun k hk => ?_, fun k hk => by have := hl3 k hk; simpa using this⟩, r5, by have := hk3.size; simp; omega, r4, r3⟩
        rcases hb3 k hk with y | y
        · exact hs1 k y
        · exact .inr (by omega)
      | ret =>
        obtain ⟨hk3, hi3⟩ := hp
        obtain ⟨r1, r2, r3, r4, r5, r6⟩ := fin (some .ret) A3 hk3
        refine ⟨_, _, r1, false, rfl, r6, fun h => (by cases h), fun _ => ?_⟩
        rw [hJx]
        exact ⟨.ret, hIx _ _ _ _ hi3 (by rw [← htwo]; exact r2), r5, r4, r3⟩
      | exit id =>
        obtain ⟨hk3, hi3⟩ := hp
        obtain ⟨r1, r2, r3, r4, r5, r6⟩ := fin (some (.exit id)) A3 hk3
        refine ⟨_, _, r1, false, rfl, r6, fun h => (by cases h), fun _ => ?_⟩
        rw [hJx]
        exact ⟨.exit id, hIx _ _ _ _ hi3 (by rw [← htwo]; exact r2), r5, r4, r3⟩
      | goto t =>
        obtain ⟨hk3, hi3⟩ := hp
        obtain ⟨r1, r2, r3, r4, r5, r6⟩ := fin (some (.goto t)) A3 hk3
        refine ⟨_, _, r1, false, rfl, r6, fun h => (by cases h), fun _ => ?_⟩
        rw [hJx]
        exact ⟨.goto t, hIx _ _ _ _ hi3 (by rw [← htwo]; exact r2), r5, r4, r3⟩
      | panic ch => exact hp.elim
      | outgrown => exact hp.elim
    · rw [hJ]
      exact ⟨⟨O, rfl, hI _ _ _ _ h0 (Keep.ofBelow hB1), fun k hk => .inl hk, fun k hk => by have := hO1 k hk; omega⟩, Keep.ofBelow hB1, by omega, hD1, hL1⟩
    · -- behind the iterator
      rintro e W2 ⟨⟨v, rfl⟩, ⟨C0, hj⟩ | ⟨q, hq, hj⟩⟩
      · rw [hJ] at hj
        obtain ⟨⟨Bo, rfl, h1, hs1, _⟩, h2, h3, h4, h5⟩ := hj
        refine ⟨none, _, by have := run_endLoop (P := P) h5 (by rw [hR]; simp); rw [hR] at this; exact this, ?_⟩
        refine hdone _ Bo (hI _ _ _ _ h1 (by rw [← htwo]; exact Keep.putObj two _ _ _ twoL)) hs1 (h2.put (by omega) _) ?_
        rw [World.putObj_heap_other (by omega)]; exact h4
      · rw [hJx] at hj
        obtain ⟨c, h1, h2, h4, h5⟩ := hj
        refine ⟨some c, _, by have := run_endLoop (P := P) h5 (by rw [hR]; simp); rw [hR] at this; exact this, ?_⟩
        refine hstop c q _ hq (hIx _ _ _ _ h1 (by rw [← htwo]; exact Keep.putObj two _ _ _ twoL)) (h2.put (by omega) _) ?_
        rw [World.putObj_heap_other (by omega)]; exact h4
theorem range_law {α : Type} {P : Program} {n : Nat} {g : Operand} {ps : Array Tmp} {assign body : Code} {Q : Exit → Act → World → Prop} {a : Act} {w : World}
    {gf : Nat} {lb : Array Value} (hg : a.eval g = .func (.func gf) #[] lb) (eg : ∀ args w, (callFunc gf args).run P w = .ok (.enter gf args) w)
    {S : Nat → Prop} {E : (Nat → Prop) → α → Array Value → World → Prop} {xs : List α} (hseq : IterOk P gf lb S E xs w)
    (O : Nat → Prop) (hO1 : ∀ k, O k → k < w.heap.size) (hO2 : ∀ k, O k → ¬ S k) (hS : ∀ k, S k → k < w.heap.size)
    (hps : ∀ O x args W, E O x args W → args.size = ps.size)
    (I : List α → World → Prop) (Ix : Code → List α → World → Prop)
    (hI : ∀ pre A B, I pre A → Keep (fun k => w.heap.size ≤ k ∧ k ≤ w.heap.size + 1) A B → I pre B)
    (hIx : ∀ c pre A B, Ix c pre A → Keep (fun k => w.heap.size ≤ k ∧ k ≤ w.heap.size + 1) A B → Ix c pre B)
    (h0 : I [] w)
    (M : α → Act → World → Prop)
    (hM : ∀ x a' A B, M x a' A → Keep (fun k => w.heap.size ≤ k ∧ k ≤ w.heap.size + 1) A B → M x a' B)
    (hassign : ∀ (m l : Nat) (pre : List α) (x : α) (args : Array Value) (W : World) (K : Act → World → Prop), I pre W → w.heap.size + 2 ≤ W.heap.size → E (fun k => O k ∨ (w.heap.size ≤ k ∧ k ≤ w.heap.size + 1)) x args W →
      (∀ a' W', Below W.heap.size W W' → M x a' W' → K a' W') →
      assign.wpIn (Fence.wide.inRound l) m P (Exit.then K (fun _ _ _ => False)) { tmps := (ps.zip args).foldl (fun t (p, v) => t.setIfInBounds p v) a.tmps, defers := [] } W)
    (hbody : ∀ (m l : Nat) (pre : List α) (x : α) (a' : Act) (W : World), pre ++ [x] <+: xs → I pre W → w.heap.size + 2 ≤ W.heap.size → M x a' W → body.wpIn (Fence.wide.inRound l) m P (roundEnd O I Ix (pre ++ [x]) W) a' W)
    (hdone : ∀ (W : World), I xs W → Keep O w W → W.heap[w.heap.size]? = some (.deferred (some [])) → Q .normal { a with defers := { target := .collected w.heap.size, args := #[] } :: a.defers } W)
    (hstop : ∀ (c : Code) (q : List α) (W : World), q <+: xs → Ix c q W → Keep O w W → W.heap[w.heap.size]? = some (.deferred (some [])) → c.wpIn Fence.wide n P Q { a with defers := { target := .collected w.heap.size, args := #[] } :: a.defers } W) :
    (Code.rangeFunc g ps assign body).wpIn Fence.wide n P Q a w := by
  refine range_lawD hg eg hseq O hO1 hO2 hS hps (fun B pre W => B = O ∧ I pre W) Ix (fun B pre A C h hk => ⟨h.1, hI pre A C h.2 hk⟩) hIx ⟨rfl, h0⟩ (fun _ => M) (fun _ => hM) ?_ ?_ ?_ hstop
  · rintro m l pre x args W K B ⟨rfl, h1⟩ _ h2 h3 h4
    exact hassign m l pre x args W K h1 h2 h3 h4
  · rintro m l pre x a' W B h0 ⟨rfl, h1⟩ _ h9 h2 h3
    refine wpIn_mono (hbody m l pre x a' W h0 h1 h2 h3) ?_
    intro e a2 W2 h
    cases e with
    | normal => exact ⟨h.1, B, fun k hk => .inl hk, fun k hk => Nat.lt_of_lt_of_le (h9 k hk) h.1.size, rfl, h.2⟩
    | ret => exact h
    | exit id => exact h
    | goto t => exact h
    | panic ch => exact h
    | outgrown => exact h
  · rintro W B ⟨rfl, h1⟩ _ h2 h3
    exact hdone W h1 h2 h3
end Go.Proofs.YtkpdngfkdmllkaaDoor
