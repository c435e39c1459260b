/-
  A region that draws its order, inside of a round of a loop over a function: by the laws for regions outside of one. No program is named here.
-/
import Derived.OrdersIn
import Derived.OrdersHeld
import Derived.Deep.RegionHeld
import Derived.ControlIn
import Derived.TacticsIn
import Derived.RangeFuncCalls
namespace Go.Proofs.YtfkegjdgbnkicaaDoor
open Go.RowKit

/-- no operation defers a call -/
def noDefer (ops : Array Oper) : Bool := ops.all fun o => match o.op with | .defer _ => false | _ => true
theorem noDefer_spec {ops : Array Oper} (h : noDefer ops = true) {i : Nat} {o : Oper} (hi : ops[i]? = some o) : ∀ c, o.op ≠ .defer c := by
  intro c hc
  have := Array.all_eq_true.1 h i (Array.getElem?_eq_some_iff.1 hi).1
  rw [(Array.getElem?_eq_some_iff.1 hi).2, hc] at this
  cases this

section
variable {P : Program} {ops : Array Oper} {Q : Exit → Act → World → Prop} {md : Region.Mode} {S : World → Prop} {l n : Nat}

theorem wpIn_of_wp {o : Oper} {a : Act} {w : World} {K : Act → World → Prop} (hd : ∀ c, o.op ≠ .defer c) (h : o.wp P a w K Q) : o.wpIn (Fence.wide.inRound l) n P a w K Q := by
  unfold Oper.wpIn
  refine ⟨fun _ _ => trivial, ?_⟩
  rw [Fence.inRound_round, Oper.semAt_some l _ _ hd]
  unfold Oper.wp at h
  generalize (execOp a.eval o).run P w = r at *
  cases r with
  | ok x w' =>
    cases x <;> simp only [Oper.upon, Oper.uponIn] at h ⊢ <;>
      first
        | exact h
        | exact ⟨fun q => (by cases q), CallsIn.inRound l (callsIn_wide.2 h)⟩
        | exact ⟨fun q => (by cases q), fun c cs _ => let ⟨v, w'', r, s⟩ := h c cs; ⟨v, w'', r, stepsIn_wide.2 s⟩⟩
  | halt x w' => cases x <;> simp only [Oper.upon, Oper.uponIn] at h ⊢ <;> exact h

theorem wpAnyIn_of_held (hd : noDefer ops = true) (hlo : ¬ LetsOut Q) : ∀ (fuel : Nat) (listed : Array Bool) (a : Act) (w : World), wpAnyH P md ops Q S fuel listed a w → wpAnyIn (Fence.wide.inRound l) n P md ops Q fuel listed a w := by
  intro fuel
  induction fuel with
  | zero => intro listed a w h; exact h
  | succ fuel ih =>
    intro listed a w h
    refine ⟨h.1, fun i hi => ?_⟩
    have h1 := h.2 i hi
    unfold wpOp at h1
    unfold wpOpIn
    cases ho : ops[i]? with
    | none => rw [ho] at h1; exact ih _ _ _ h1.2
    | some o =>
      rw [ho] at h1
      dsimp only at h1 ⊢
      split
      · rename_i hw
        rw [if_pos hw] at h1
        rcases h1 with h1 | h1
        · exact Oper.wpIn_mono (fun a w h => ih _ _ _ h.2) (wpIn_of_wp (noDefer_spec hd ho) h1)
        · exact absurd h1.2 hlo
      · rename_i hw
        rw [if_neg hw] at h1
        exact ⟨fun _ _ => trivial, ih _ _ _ h1.2⟩

/-- a region that draws, in a round: S is shown of the world behind the draw, once, and handed on -/
theorem round_held {id : Nat} {a : Act} {w : World} (hm : P.follows .mixedOrders = true) (hd : noDefer ops = true) (hlo : ¬ LetsOut Q) (hS : S w.drew)
    (h : S w.drew → wpAnyH P .any ops Q S ops.size (Array.replicate ops.size false) a w.drew) : (Code.region id ops true).wpIn (Fence.wide.inRound l) n P Q a w :=
  wpIn_region_any hm (wpAnyIn_of_held hd hlo _ _ _ _ (h hS))
end

/-- R at the plain end, nothing else -/
def OnlyN (R : Act → World → Prop) : Exit → Act → World → Prop
  | .normal, a, w => R a w
  | _, _, _ => False
theorem OnlyN.no {R : Act → World → Prop} : ¬ LetsOut (OnlyN R) := fun ⟨_, _, h⟩ => h
/-- a piece of code by what it leaves at its plain end -/
theorem cut_normal {F : Fence} {n : Nat} {P : Program} {cd : Code} {Q : Exit → Act → World → Prop} {a : Act} {W : World} (R : Array Value → Act → World → Prop)
    (h : cd.wpIn F n P (OnlyN (R a.tmps)) a W) (hq : ∀ a' w', R a.tmps a' w' → Q .normal a' w') : cd.wpIn F n P Q a W :=
  wpIn_mono h fun e a' w' h' => by cases e <;> first | exact hq a' w' h' | exact (h' : False).elim
end Go.Proofs.YtfkegjdgbnkicaaDoor
