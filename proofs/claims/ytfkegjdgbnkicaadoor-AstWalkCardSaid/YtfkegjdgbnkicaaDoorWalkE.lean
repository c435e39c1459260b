/-
  What Walk hands over to a loop's body.
-/
import Derived.Test.YtfkegjdgbnkicaaDoorItems
import Derived.Test.YtfkegjdgbnkicaaDoorPath
import Derived.Test.YtfkegjdgbnkicaaDoorTreeIn
import Derived.Test.YtfkegjdgbnkicaaDoorRangeLaw
namespace Go.Proofs.YtfkegjdgbnkicaaDoor
open Go.RowKit

/-- what Walk hands over -/
def WalkE (O : Nat → Prop) (x : List Int × Tree) (args : Array Value) (W : World) : Prop :=
  ∃ v a c, args = #[v, x.2.val a c] ∧ PathIn (fun k => ¬ O k) W v x.1 ∧ RepIn (fun k => ¬ O k) W x.2 a

/-- an iterator serves later too -/
theorem IterOk.later {α : Type} {P : Program} {gf : Nat} {lb : Array Value} {S : Nat → Prop} {E : (Nat → Prop) → α → Array Value → World → Prop} {xs : List α} {w w2 : World} (h : IterOk P gf lb S E xs w) (hB : Below w.heap.size w w2) : IterOk P gf lb S E xs w2 :=
  fun n l J Jx O W hW h1 h2 h3 h4 h5 => h n l J Jx O W (hB.trans (hW.mono hB.size)) h1 h2 h3 h4 h5

/-- what Walk gives back: an iterator over the items of a tree, that reads new blocks alone -/
def WalkOk (P : Program) (f1 : Nat) (t : Tree) (w : World) (e : Ending) (w' : World) : Prop :=
  ∃ br, e = .returned (.func (.func f1) #[] #[.pointer (some ⟨br, 0, none⟩)]) ∧ Below w.heap.size w w' ∧ IterOk P f1 #[.pointer (some ⟨br, 0, none⟩)] (fun k => w.heap.size ≤ k ∧ k < w'.heap.size) WalkE (t.items []) w'
end Go.Proofs.YtfkegjdgbnkicaaDoor
