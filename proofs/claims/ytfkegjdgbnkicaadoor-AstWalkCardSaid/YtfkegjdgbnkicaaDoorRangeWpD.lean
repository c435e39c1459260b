/-
  The law for a range over a function whose body has blocks of its own, outside of a fence. No program is named here.
-/
import Derived.Test.YtfkegjdgbnkicaaDoorRangeWp
namespace Go.Proofs.YtfkegjdgbnkicaaDoor
open Go.RowKit

theorem range_wpD {α : Type} {P : Program} {g : Operand} {ps : Array Tmp} {assign body : Code} {Q : Exit → Act → World → Prop} {a : Act} {w : World}
    {gf : Nat} {lb : Array Value} (hg : a.eval g = .func (.func gf) #[] lb) (eg : ∀ args w, (callFunc gf args).run P w = .ok (.enter gf args) w)
    {S : Nat → Prop} {E : (Nat → Prop) → α → Array Value → World → Prop} {xs : List α} (hseq : IterOk P gf lb S E xs w)
    (O : Nat → Prop) (hO1 : ∀ k, O k → k < w.heap.size) (hO2 : ∀ k, O k → ¬ S k) (hS : ∀ k, S k → k < w.heap.size)
    (hps : ∀ O x args W, E O x args W → args.size = ps.size)
    (I : (Nat → Prop) → List α → World → Prop) (Ix : Code → List α → World → Prop)
    (hI : ∀ B pre A C, I B pre A → Keep (fun k => w.heap.size ≤ k ∧ k ≤ w.heap.size + 1) A C → I B pre C)
    (hIx : ∀ c pre A B, Ix c pre A → Keep (fun k => w.heap.size ≤ k ∧ k ≤ w.heap.size + 1) A B → Ix c pre B)
    (h0 : I O [] w)
    (M : Array Value → (Nat → Prop) → α → Act → World → Prop)
    (hM : ∀ B x a' A C, M a.tmps B x a' A → Keep (fun k => w.heap.size ≤ k ∧ k ≤ w.heap.size + 1) A C → M a.tmps B x a' C)
    (hassign : ∀ (m l : Nat) (pre : List α) (x : α) (args : Array Value) (W : World) (K : Act → World → Prop) (B : Nat → Prop), I B pre W → (∀ k, B k → k < W.heap.size) → w.heap.size + 2 ≤ W.heap.size → E (fun k => B k ∨ (w.heap.size ≤ k ∧ k ≤ w.heap.size + 1)) x args W →
      (∀ a' W', Below W.heap.size W W' → M a.tmps B x a' W' → K a' W') →
      assign.wpIn (Fence.wide.inRound l) m P (Exit.then K (fun _ _ _ => False)) { tmps := (ps.zip args).foldl (fun t (p, v) => t.setIfInBounds p v) a.tmps, defers := [] } W)
    (hbody : ∀ (m l : Nat) (pre : List α) (x : α) (a' : Act) (W : World) (B : Nat → Prop), pre ++ [x] <+: xs → I B pre W → (∀ k, B k → O k ∨ w.heap.size + 2 ≤ k) → (∀ k, B k → k < W.heap.size) → w.heap.size + 2 ≤ W.heap.size → M a.tmps B x a' W → body.wpIn (Fence.wide.inRound l) m P (roundEndD B I Ix (pre ++ [x]) W) a' W)
    (hdone : ∀ (W : World) (B : Nat → Prop), I B xs W → (∀ k, B k → O k ∨ w.heap.size + 2 ≤ k) → Keep O w W → W.heap[w.heap.size]? = some (.deferred (some [])) → Q .normal { a with defers := { target := .collected w.heap.size, args := #[] } :: a.defers } W)
    (hstop : ∀ (c : Code) (q : List α) (W : World), q <+: xs → Ix c q W → Keep O w W → W.heap[w.heap.size]? = some (.deferred (some [])) → c.wp P Q { a with defers := { target := .collected w.heap.size, args := #[] } :: a.defers } W) :
    (Code.rangeFunc g ps assign body).wp P Q a w :=
  (wpIn_wide (n := 0)).1 (range_lawD hg eg hseq O hO1 hO2 hS hps I Ix hI hIx h0 (M a.tmps) hM hassign hbody hdone (fun c q W h1 h2 h3 h4 => wpIn_wide.2 (hstop c q W h1 h2 h3 h4)))
end Go.Proofs.YtfkegjdgbnkicaaDoor
