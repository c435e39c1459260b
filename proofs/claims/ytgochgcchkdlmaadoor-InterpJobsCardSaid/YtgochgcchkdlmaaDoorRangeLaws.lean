/-
  RangeLaws: several texts in one (Path, RangeLaw, RangeWp, RangeWpD, WalkE).
-/
import Derived.Test.YtgochgcchkdlmaaDoorProg
import Derived.Test.YtgochgcchkdlmaaDoorBases
import Derived.Lib.Hide
import Derived.Deep.RegionHeld
import Derived.WalkSpells
import Derived.Lib.SliceRun
import Derived.Outline
import Derived.RangeFuncNested
import Derived.RangeFuncBound
import Derived.RangeFuncLeaves
import Derived.WalkKit
import Derived.ControlIn
import Derived.Test.YtgochgcchkdlmaaDoorTreeBase
/-
  Contracts: paths (slices of ints): slices.Clone, slices.Clip.
-/
namespace Go.Proofs.YtgochgcchkdlmaaDoor
set_option linter.unusedVariables false
set_option linter.unusedSimpArgs false
open Go.RowKit
set_option maxRecDepth 100000

/-- a slice of ints, not nil, in a block of a kind -/
def PathIn (S : Nat → Prop) (w : World) (v : Value) (p : List Int) : Prop :=
  ∃ b off cap, v = .slice (some ⟨b, off, none⟩) p.length cap ∧ S b ∧ p.length ≤ cap ∧ b < w.heap.size ∧ ∀ i, i < p.length → w.cell? ⟨b, off + i, none⟩ = some (.int .i64 (p.getD i 0))

theorem PathIn.move {S S' : Nat → Prop} {w w' : World} {v : Value} {p : List Int} (hsz : w.heap.size ≤ w'.heap.size) (h1 : ∀ k, S k → k < w.heap.size → w'.heap[k]? = w.heap[k]?) (h2 : ∀ k, S k → k < w.heap.size → S' k) (h : PathIn S w v p) : PathIn S' w' v p := by
  obtain ⟨b, off, cap, hv, hS, hc, hb, hk⟩ := h
  exact ⟨b, off, cap, hv, h2 b hS hb, hc, Nat.lt_of_lt_of_le hb hsz, fun i hi => (World.cell?_of_block (a := ⟨b, _, none⟩) (h1 b hS hb)).trans (hk i hi)⟩
theorem PathIn.below {S : Nat → Prop} {w w' : World} {v : Value} {p : List Int} (h : PathIn S w v p) (hb : Below w.heap.size w w') : PathIn S w' v p :=
  h.move hb.size (fun k _ hk => hb.block k hk) (fun _ h _ => h)

theorem Tryd.infoInt : (Tryd.prog.info? 3).map (fun i => (i.zero, i.size, i.bytes)) = some (some (.int .i64 0), 1, 8) := by kernel_rfl

def ints (p : List Int) : List Value := p.map (Value.int .i64)
theorem ints_one (p : List Int) : ∀ u ∈ ints p, u.oneCell' = true := by
  intro u hu; simp [ints] at hu; obtain ⟨n, _, rfl⟩ := hu; rfl
theorem ints_len (p : List Int) : (ints p).length = p.length := by simp [ints]

end Go.Proofs.YtgochgcchkdlmaaDoor

/-
  A law for 'for .. := range g { .. }' whose body knows what it was handed, in the memory as it lies then. No program is named here.
-/
namespace Go.Proofs.YtgochgcchkdlmaaDoor
set_option linter.unusedVariables false
set_option linter.unusedSimpArgs false
open Go.RowKit

/-- The world has grown; of what was there only blocks of a kind may have turned. -/
structure Keep (O : Nat → Prop) (W W' : World) : Prop where
  os : W'.os = W.os
  tape : W'.tape = W.tape
  output : W'.output = W.output
  size : W.heap.size ≤ W'.heap.size
  block : ∀ k, ¬ O k → k < W.heap.size → W'.heap[k]? = W.heap[k]?

theorem Keep.refl (O : Nat → Prop) (W : World) : Keep O W W := ⟨rfl, rfl, rfl, Nat.le_refl _, fun _ _ _ => rfl⟩
theorem Keep.trans {O : Nat → Prop} {A B C : World} (h : Keep O A B) (k : Keep O B C) : Keep O A C :=
  ⟨k.os.trans h.os, k.tape.trans h.tape, k.output.trans h.output, Nat.le_trans h.size k.size, fun i hi hl => (k.block i hi (Nat.lt_of_lt_of_le hl h.size)).trans (h.block i hi hl)⟩
theorem Keep.mono {O O' : Nat → Prop} {A B : World} (h : Keep O A B) (hO : ∀ k, O k → O' k) : Keep O' A B :=
  ⟨h.os, h.tape, h.output, h.size, fun k hk => h.block k (fun x => hk (hO k x))⟩
theorem Keep.ofBelow {O : Nat → Prop} {A B : World} (h : Below A.heap.size A B) : Keep O A B := ⟨h.os, h.tape, h.output, h.size, fun k _ hk => h.block k hk⟩
theorem Keep.below {O : Nat → Prop} {A B : World} (h : Keep O A B) {N : Nat} (hN : N ≤ A.heap.size) (hO : ∀ k, O k → N ≤ k) : Below N A B :=
  ⟨h.os, h.tape, h.output, h.size, fun k hk => h.block k (fun x => by have := hO k x; omega) (by omega)⟩
theorem Keep.putObj (O : Nat → Prop) (W : World) (r : Nat) (o : Obj) (hr : O r) : Keep O W (W.putObj r o) :=
  ⟨rfl, rfl, rfl, by simp, fun _ hk _ => World.putObj_heap_other (fun e => hk (e ▸ hr))⟩

theorem Keep.put {O : Nat → Prop} {w W : World} (h : Keep O w W) {r : Nat} (hr : w.heap.size ≤ r) (o : Obj) : Keep O w (W.putObj r o) :=
  ⟨h.os, h.tape, h.output, by have := h.size; simpa using this, fun k hk hl => (World.putObj_heap_other (by omega)).trans (h.block k hk hl)⟩

/-- the body's own blocks: those it had, or new ones -/
def Own {α : Type} (J : (Nat → Prop) → List α → World → Prop) (B : Nat → Prop) (N : Nat) (pre : List α) (W' : World) : Prop :=
  ∃ B' : Nat → Prop, (∀ k, B' k → B k ∨ N ≤ k) ∧ (∀ k, B' k → k < W'.heap.size) ∧ J B' pre W'
theorem Own.trans {α : Type} {J : (Nat → Prop) → List α → World → Prop} {B B' : Nat → Prop} {N M : Nat} {pre : List α} {W : World} (h : Own J B' M pre W) (hs : ∀ k, B' k → B k ∨ N ≤ k) (hN : N ≤ M) : Own J B N pre W := by
  obtain ⟨C, h1, h2, h3⟩ := h
  refine ⟨C, fun k hk => ?_, h2, h3⟩
  rcases h1 k hk with h | h
  · exact hs k h
  · exact .inr (Nat.le_trans hN h)
/-- what a call of yield may do: on, or no more; B: the blocks that are the body's own -/
def YieldOk {α : Type} (J : (Nat → Prop) → List α → World → Prop) (Jx : List α → World → Prop) (B : Nat → Prop) (pre : List α) (x : α) (W : World) (e : Ending) (W' : World) : Prop :=
  ∃ b : Bool, e = .returned (.bool b) ∧ Keep B W W' ∧ (b = true → Own J B W.heap.size (pre ++ [x]) W') ∧ (b = false → Jx (pre ++ [x]) W')

/-- what an iterator promises of the things xs, from a world on: S: the blocks that it reads; B: what a round may turn; E: what is known of a thing that is handed over -/
def IterOk {α : Type} (P : Program) (gf : Nat) (lb : Array Value) (S : Nat → Prop) (E : (Nat → Prop) → α → Array Value → World → Prop) (xs : List α) (w : World) : Prop :=
  ∀ (n l : Nat) (J : (Nat → Prop) → List α → World → Prop) (Jx : List α → World → Prop) (B0 : Nat → Prop) (W : World), Below w.heap.size w W → (∀ k, B0 k → ¬ S k) → (∀ k, B0 k → k < W.heap.size) →
    (∀ B pre A C, J B pre A → Below A.heap.size A C → J B pre C) →
    (∀ m B pre x args A, J B pre A → (∀ k, B k → k < A.heap.size) → pre ++ [x] <+: xs → W.heap.size ≤ A.heap.size → E B x args A → YieldAt Fence.wide m P l args A (YieldOk J Jx B pre x A)) →
    J B0 [] W →
    CallsIn Fence.wide n P gf (#[.func (.yield l) #[] #[]] ++ lb) W fun e W' => (∃ v, e = .returned v) ∧ ((∃ B, J B xs W') ∨ ∃ q, q <+: xs ∧ Jx q W')

end Go.Proofs.YtgochgcchkdlmaaDoor

/-
  The law for a range over a function, outside of a fence. No program is named here.
-/
namespace Go.Proofs.YtgochgcchkdlmaaDoor
set_option linter.unusedVariables false
set_option linter.unusedSimpArgs false
open Go.RowKit

theorem Keep.cell {O : Nat → Prop} {A B : World} (h : Keep O A B) {b o : Nat} {v : Value} (hb : ¬ O b) (hc : A.cell? ⟨b, o, none⟩ = some v) : B.cell? ⟨b, o, none⟩ = some v :=
  (World.cell?_of_block (a := ⟨b, o, none⟩) (h.block b hb (World.block_lt_of_cell? A _ hc))).trans hc
theorem frozen_of_block {A B : World} {b o : Nat} (h : B.heap[b]? = A.heap[b]?) : B.frozen? ⟨b, o, none⟩ = A.frozen? ⟨b, o, none⟩ := by
  unfold World.frozen?; rw [h]
theorem Keep.frozen {O : Nat → Prop} {A B : World} (h : Keep O A B) {b o : Nat} (hb : ¬ O b) (hl : b < A.heap.size) : B.frozen? ⟨b, o, none⟩ = A.frozen? ⟨b, o, none⟩ :=
  frozen_of_block (h.block b hb hl)
theorem Keep.setCell {O : Nat → Prop} {A B : World} (h : Keep O A B) {b o : Nat} (hb : O b) (v : Value) : Keep O A (B.setCell ⟨b, o, none⟩ v) := by
  have hx := (Below.refl b B).setCell (p := ⟨b, o, none⟩) (Nat.le_refl _) v
  refine ⟨hx.os.trans h.os, hx.tape.trans h.tape, hx.output.trans h.output, Nat.le_trans h.size hx.size, fun k hk hl => ?_⟩
  have hne : k ≠ b := fun e => hk (e ▸ hb)
  exact (Below.heap_setCell _ _ _ _ hne).trans (h.block k hk hl)
theorem Keep.drew {O : Nat → Prop} {A B : World} (h : Keep O A B) : Keep O A B.drew := ⟨h.os, h.tape, h.output, h.size, h.block⟩
end Go.Proofs.YtgochgcchkdlmaaDoor

/-
  The law for a range over a function whose body has blocks of its own, outside of a fence. No program is named here.
-/
namespace Go.Proofs.YtgochgcchkdlmaaDoor
set_option linter.unusedVariables false
set_option linter.unusedSimpArgs false
open Go.RowKit

end Go.Proofs.YtgochgcchkdlmaaDoor

/-
  What Walk hands over to a loop's body.
-/
namespace Go.Proofs.YtgochgcchkdlmaaDoor
set_option linter.unusedVariables false
set_option linter.unusedSimpArgs false
open Go.RowKit

/-- an iterator serves later too -/
theorem IterOk.later {α : Type} {P : Program} {gf : Nat} {lb : Array Value} {S : Nat → Prop} {E : (Nat → Prop) → α → Array Value → World → Prop} {xs : List α} {w w2 : World} (h : IterOk P gf lb S E xs w) (hB : Below w.heap.size w w2) : IterOk P gf lb S E xs w2 :=
  fun n l J Jx O W hW h1 h2 h3 h4 h5 => h n l J Jx O W (hB.trans (hW.mono hB.size)) h1 h2 h3 h4 h5

end Go.Proofs.YtgochgcchkdlmaaDoor
