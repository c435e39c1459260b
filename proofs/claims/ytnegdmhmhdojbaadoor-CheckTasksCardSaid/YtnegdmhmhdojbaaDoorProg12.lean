/-
  Programs (shared objects and tasks), as plain data and as they lie in memory. No program text is named here.
-/
import Derived.Test.YtnegdmhmhdojbaaDoorTree
namespace Go.Proofs.YtnegdmhmhdojbaaDoor
set_option linter.unusedVariables false
set_option linter.unusedSimpArgs false
open Go.RowKit

/-- an array or shared object -/
structure Arr where
  name : ByteArray
  len : Int
/-- a task -/
structure Tsk where
  name : ByteArray
  period : Int
  vars : List ByteArray
  arrays : List Arr
  body : Tree
/-- a program -/
structure Prg where
  shared : List Arr
  tasks : List Tsk
def Arr.none : Arr := ⟨⟨#[]⟩, 0⟩
def Tsk.none : Tsk := ⟨⟨#[]⟩, 0, [], [], Tree.leaf 0 0 ⟨#[]⟩⟩

/-- a number of 64 bits -/
def isI64 (n : Int) : Prop := -9223372036854775808 ≤ n ∧ n ≤ 9223372036854775807
/-- the cells of arrays -/
def ArrAt (w : World) (b off : Nat) (x : Arr) : Prop := w.cell? ⟨b, off, none⟩ = some (.string x.name) ∧ w.cell? ⟨b, off + 1, none⟩ = some (.int .i64 x.len) ∧ x.name.size ≤ 9223372036854775807 ∧ isI64 x.len
/-- a row of arrays: its children's address (nothing is said of it where the row is empty) -/
def ArrsAt (w : World) (a : Option Addr) (l : List Arr) : Prop := l.length ≤ 9223372036854775807 ∧ ∀ i, i < l.length → ∃ b off, a = some ⟨b, off, none⟩ ∧ ArrAt w b (off + i * 2) (l.getD i Arr.none)
/-- a row of strings -/
def StrsAt (w : World) (a : Option Addr) (l : List ByteArray) : Prop := l.length ≤ 9223372036854775807 ∧ ∀ i, i < l.length → ∃ b off, a = some ⟨b, off, none⟩ ∧ w.cell? ⟨b, off + i, none⟩ = some (.string (l.getD i ⟨#[]⟩)) ∧ (l.getD i ⟨#[]⟩).size ≤ 9223372036854775807

/-- where the rows of a task lie -/
structure TskPlace where
  va : Option Addr
  vc : Nat
  aa : Option Addr
  ac : Nat
  ka : Option Addr
  kc : Nat
/-- a task's eight cells -/
def Tsk.cells (t : Tsk) (p : TskPlace) : Array Value := #[.string t.name, .int .i64 t.period, .slice p.va t.vars.length p.vc, .slice p.aa t.arrays.length p.ac, .int .u8 t.body.kind, .int .i64 t.body.num, .string t.body.name, .slice p.ka t.body.len p.kc]
/-- what a task's rows hold -/
structure TskIn (w : World) (t : Tsk) (p : TskPlace) : Prop where
  name : t.name.size ≤ 9223372036854775807
  period : isI64 t.period
  vars : StrsAt w p.va t.vars
  arrays : ArrsAt w p.aa t.arrays
  body : Rep w t.body p.ka
/-- a row of tasks -/
def TsksAt (w : World) (a : Option Addr) (l : List Tsk) : Prop := l.length ≤ 9223372036854775807 ∧
  ∀ i, i < l.length → ∃ b off p, a = some ⟨b, off, none⟩ ∧ (∀ o, o < 8 → w.cell? ⟨b, off + i * 8 + o, none⟩ = ((l.getD i Tsk.none).cells p)[o]?) ∧ TskIn w (l.getD i Tsk.none) p
/-- a program's value -/
abbrev Prg.val (p : Prg) (sa : Option Addr) (sc : Nat) (ta : Option Addr) (tc : Nat) : Value := .agg #[.slice sa p.shared.length sc, .slice ta p.tasks.length tc]
def PrgAt (w : World) (p : Prg) (sa ta : Option Addr) : Prop := ArrsAt w sa p.shared ∧ TsksAt w ta p.tasks

theorem cell_below {w w' : World} {b o : Nat} {v : Value} (hb : Below w.heap.size w w') (h : w.cell? ⟨b, o, none⟩ = some v) : w'.cell? ⟨b, o, none⟩ = some v :=
  (hb.cell (p := ⟨b, o, none⟩) (World.block_lt_of_cell? w _ h)).trans h
theorem ArrsAt.below {w w' : World} {a : Option Addr} {l : List Arr} (h : ArrsAt w a l) (hb : Below w.heap.size w w') : ArrsAt w' a l :=
  ⟨h.1, fun i hi => by obtain ⟨b, off, ha, h1, h2, h3⟩ := h.2 i hi; exact ⟨b, off, ha, cell_below hb h1, cell_below hb h2, h3⟩⟩
theorem StrsAt.below {w w' : World} {a : Option Addr} {l : List ByteArray} (h : StrsAt w a l) (hb : Below w.heap.size w w') : StrsAt w' a l :=
  ⟨h.1, fun i hi => by obtain ⟨b, off, ha, h1, h3⟩ := h.2 i hi; exact ⟨b, off, ha, cell_below hb h1, h3⟩⟩
theorem TskIn.below {w w' : World} {t : Tsk} {p : TskPlace} (h : TskIn w t p) (hb : Below w.heap.size w w') : TskIn w' t p :=
  ⟨h.name, h.period, h.vars.below hb, h.arrays.below hb, h.body.below hb⟩
theorem TsksAt.below {w w' : World} {a : Option Addr} {l : List Tsk} (h : TsksAt w a l) (hb : Below w.heap.size w w') : TsksAt w' a l := by
  refine ⟨h.1, fun i hi => ?_⟩
  obtain ⟨b, off, p, ha, h1, h2⟩ := h.2 i hi
  refine ⟨b, off, p, ha, fun o ho => ?_, h2.below hb⟩
  have e := h1 o ho
  have hs : o < ((l.getD i Tsk.none).cells p).size := ho
  rw [Array.getElem?_eq_getElem hs] at e ⊢
  exact cell_below hb e
theorem PrgAt.below {w w' : World} {p : Prg} {sa ta : Option Addr} (h : PrgAt w p sa ta) (hb : Below w.heap.size w w') : PrgAt w' p sa ta := ⟨h.1.below hb, h.2.below hb⟩

/-! ### lists, one element more -/
theorem all_next {α : Type} (f : α → Bool) (l : List α) (d : α) (j : Nat) (h : j < l.length) : (l.take (j + 1)).all f = ((l.take j).all f && f (l.getD j d)) := by
  rw [List.take_succ_eq_append_getElem h, List.all_append]
  simp [h]
theorem all_stop {α : Type} (f : α → Bool) (l : List α) (d : α) (j : Nat) (h : j < l.length) (hf : f (l.getD j d) = false) : l.all f = false := by
  rw [List.all_eq_false]
  refine ⟨l.getD j d, ?_, by rw [hf]; simp⟩
  simp [h]

/-! ### what the document says of programs -/
/-- a valid declaration of an array, by a test of names -/
def Arr.ok (nm : ByteArray → Bool) (x : Arr) : Bool := nm x.name && decide (1 ≤ x.len) && decide (x.len ≤ 32)
end Go.Proofs.YtnegdmhmhdojbaaDoor
