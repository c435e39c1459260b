/-
  The law for a range over a function, outside of a fence. No program is named here.
-/
import Derived.Test.YtnegdmhmhdojbaaDoorRangeLaw
import Derived.ControlIn
namespace Go.Proofs.YtnegdmhmhdojbaaDoor
set_option linter.unusedVariables false
set_option linter.unusedSimpArgs false
open Go.RowKit

theorem range_wp {α : Type} {P : Program} {g : Operand} {ps : Array Tmp} {assign body : Code} {Q : Exit → Act → World → Prop} {a : Act} {w : World}
    {gf : Nat} {lb : Array Value} (hg : a.eval g = .func (.func gf) #[] lb) (eg : ∀ args w, (callFunc gf args).run P w = .ok (.enter gf args) w)
    {S : Nat → Prop} {E : (Nat → Prop) → α → Array Value → World → Prop} {xs : List α} (hseq : IterOk P gf lb S E xs w)
    (O : Nat → Prop) (hO1 : ∀ k, O k → k < w.heap.size) (hO2 : ∀ k, O k → ¬ S k) (hS : ∀ k, S k → k < w.heap.size)
    (hps : ∀ O x args W, E O x args W → args.size = ps.size)
    (I : List α → World → Prop) (Ix : Code → List α → World → Prop)
    (hI : ∀ pre A B, I pre A → Keep (fun k => w.heap.size ≤ k ∧ k ≤ w.heap.size + 1) A B → I pre B)
    (hIx : ∀ c pre A B, Ix c pre A → Keep (fun k => w.heap.size ≤ k ∧ k ≤ w.heap.size + 1) A B → Ix c pre B)
    (h0 : I [] w)
    (M : α → Act → World → Prop)
    (hM : ∀ x a' A B, M x a' A → Keep (fun k => w.heap.size ≤ k ∧ k ≤ w.heap.size + 1) A B → M x a' B)
    (hassign : ∀ (m l : Nat) (pre : List α) (x : α) (args : Array Value) (W : World) (K : Act → World → Prop), I pre W → w.heap.size + 2 ≤ W.heap.size → E (fun k => O k ∨ (w.heap.size ≤ k ∧ k ≤ w.heap.size + 1)) x args W →
      (∀ a' W', Below W.heap.size W W' → M x a' W' → K a' W') →
      assign.wpIn (Fence.wide.inRound l) m P (Exit.then K (fun _ _ _ => False)) { tmps := (ps.zip args).foldl (fun t (p, v) => t.setIfInBounds p v) a.tmps, defers := [] } W)
    (hbody : ∀ (m l : Nat) (pre : List α) (x : α) (a' : Act) (W : World), pre ++ [x] <+: xs → I pre W → w.heap.size + 2 ≤ W.heap.size → M x a' W → body.wpIn (Fence.wide.inRound l) m P (roundEnd O I Ix (pre ++ [x]) W) a' W)
    (hdone : ∀ (W : World), I xs W → Keep O w W → W.heap[w.heap.size]? = some (.deferred (some [])) → Q .normal { a with defers := { target := .collected w.heap.size, args := #[] } :: a.defers } W)
    (hstop : ∀ (c : Code) (q : List α) (W : World), q <+: xs → Ix c q W → Keep O w W → W.heap[w.heap.size]? = some (.deferred (some [])) → c.wp P Q { a with defers := { target := .collected w.heap.size, args := #[] } :: a.defers } W) :
    (Code.rangeFunc g ps assign body).wp P Q a w :=
  (wpIn_wide (n := 0)).1 (range_law hg eg hseq O hO1 hO2 hS hps I Ix hI hIx h0 M hM hassign hbody hdone (fun c q W h1 h2 h3 h4 => wpIn_wide.2 (hstop c q W h1 h2 h3 h4)))

theorem range_wpT {α : Type} {P : Program} {g : Operand} {ps : Array Tmp} {assign body : Code} {Q : Exit → Act → World → Prop} {a : Act} {w : World}
    {gf : Nat} {lb : Array Value} (hg : a.eval g = .func (.func gf) #[] lb) (eg : ∀ args w, (callFunc gf args).run P w = .ok (.enter gf args) w)
    {S : Nat → Prop} {E : (Nat → Prop) → α → Array Value → World → Prop} {xs : List α} (hseq : IterOk P gf lb S E xs w)
    (O : Nat → Prop) (hO1 : ∀ k, O k → k < w.heap.size) (hO2 : ∀ k, O k → ¬ S k) (hS : ∀ k, S k → k < w.heap.size)
    (hps : ∀ O x args W, E O x args W → args.size = ps.size)
    (I : List α → World → Prop) (Ix : Code → List α → World → Prop)
    (hI : ∀ pre A B, I pre A → Keep (fun k => w.heap.size ≤ k ∧ k ≤ w.heap.size + 1) A B → I pre B)
    (hIx : ∀ c pre A B, Ix c pre A → Keep (fun k => w.heap.size ≤ k ∧ k ≤ w.heap.size + 1) A B → Ix c pre B)
    (h0 : I [] w)
    (M : Array Value → α → Act → World → Prop)
    (hM : ∀ x a' A B, M a.tmps x a' A → Keep (fun k => w.heap.size ≤ k ∧ k ≤ w.heap.size + 1) A B → M a.tmps x a' B)
    (hassign : ∀ (m l : Nat) (pre : List α) (x : α) (args : Array Value) (W : World) (K : Act → World → Prop), I pre W → w.heap.size + 2 ≤ W.heap.size → E (fun k => O k ∨ (w.heap.size ≤ k ∧ k ≤ w.heap.size + 1)) x args W →
      (∀ a' W', Below W.heap.size W W' → M a.tmps x a' W' → K a' W') →
      assign.wpIn (Fence.wide.inRound l) m P (Exit.then K (fun _ _ _ => False)) { tmps := (ps.zip args).foldl (fun t (p, v) => t.setIfInBounds p v) a.tmps, defers := [] } W)
    (hbody : ∀ (m l : Nat) (pre : List α) (x : α) (a' : Act) (W : World), pre ++ [x] <+: xs → I pre W → w.heap.size + 2 ≤ W.heap.size → M a.tmps x a' W → body.wpIn (Fence.wide.inRound l) m P (roundEnd O I Ix (pre ++ [x]) W) a' W)
    (hdone : ∀ (W : World), I xs W → Keep O w W → W.heap[w.heap.size]? = some (.deferred (some [])) → Q .normal { a with defers := { target := .collected w.heap.size, args := #[] } :: a.defers } W)
    (hstop : ∀ (c : Code) (q : List α) (W : World), q <+: xs → Ix c q W → Keep O w W → W.heap[w.heap.size]? = some (.deferred (some [])) → c.wp P Q { a with defers := { target := .collected w.heap.size, args := #[] } :: a.defers } W) :
    (Code.rangeFunc g ps assign body).wp P Q a w :=
  range_wp hg eg hseq O hO1 hO2 hS hps I Ix hI hIx h0 (M a.tmps) hM hassign hbody hdone hstop

theorem Keep.cell {O : Nat → Prop} {A B : World} (h : Keep O A B) {b o : Nat} {v : Value} (hb : ¬ O b) (hc : A.cell? ⟨b, o, none⟩ = some v) : B.cell? ⟨b, o, none⟩ = some v :=
  (World.cell?_of_block (a := ⟨b, o, none⟩) (h.block b hb (World.block_lt_of_cell? A _ hc))).trans hc
theorem frozen_of_block {A B : World} {b o : Nat} (h : B.heap[b]? = A.heap[b]?) : B.frozen? ⟨b, o, none⟩ = A.frozen? ⟨b, o, none⟩ := by
  unfold World.frozen?; rw [h]
theorem Keep.frozen {O : Nat → Prop} {A B : World} (h : Keep O A B) {b o : Nat} (hb : ¬ O b) (hl : b < A.heap.size) : B.frozen? ⟨b, o, none⟩ = A.frozen? ⟨b, o, none⟩ :=
  frozen_of_block (h.block b hb hl)
theorem Keep.setCell {O : Nat → Prop} {A B : World} (h : Keep O A B) {b o : Nat} (hb : O b) (v : Value) : Keep O A (B.setCell ⟨b, o, none⟩ v) := by
  have hx := (Below.refl b B).setCell (p := ⟨b, o, none⟩) (Nat.le_refl _) v
  refine ⟨hx.os.trans h.os, hx.tape.trans h.tape, hx.output.trans h.output, Nat.le_trans h.size hx.size, fun k hk hl => ?_⟩
  have hne : k ≠ b := fun e => hk (e ▸ hb)
  exact (Below.heap_setCell _ _ _ _ hne).trans (h.block k hk hl)
theorem Keep.drew {O : Nat → Prop} {A B : World} (h : Keep O A B) : Keep O A B.drew := ⟨h.os, h.tape, h.output, h.size, h.block⟩
end Go.Proofs.YtnegdmhmhdojbaaDoor
