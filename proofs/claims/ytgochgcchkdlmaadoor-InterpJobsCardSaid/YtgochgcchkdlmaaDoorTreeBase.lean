/-
  TreeBase: several texts in one (Tree, Prog12, Items, TreeIn, KeepBox).
-/
import Derived.WalkKit
import Derived.Deep.RegionHeld
/-
  Trees, as plain data and as they lie in memory. No program is named here.
-/
namespace Go.Proofs.YtgochgcchkdlmaaDoor
set_option linter.unusedVariables false
set_option linter.unusedSimpArgs false
open Go.RowKit

/-- A tree: kind, number, name, the number of children, the children. -/
inductive Tree where
  | node (kind num : Int) (name : ByteArray) (len : Nat) (kid : Fin len → Tree)

namespace Tree
def kind : Tree → Int | node k _ _ _ _ => k
def num : Tree → Int | node _ n _ _ _ => n
def name : Tree → ByteArray | node _ _ s _ _ => s
def len : Tree → Nat | node _ _ _ l _ => l
/-- a tree of one node (there are trees; and what stands beyond the children) -/
def leaf (k n : Int) (s : ByteArray) : Tree := node k n s 0 (fun i => i.elim0)
def kid : Tree → Nat → Tree | node _ _ _ l k => fun i => if h : i < l then k ⟨i, h⟩ else leaf 0 0 ByteArray.empty
theorem kid_node {k n : Int} {s : ByteArray} {l : Nat} {kid : Fin l → Tree} {i : Nat} (h : i < l) : (node k n s l kid).kid i = kid ⟨i, h⟩ := dif_pos h

/-- a sum over the first numbers -/
def sumTo (f : Nat → Nat) : Nat → Nat
  | 0 => 0
  | n + 1 => sumTo f n + f n
/-- a maximum over the first numbers -/
def maxTo (f : Nat → Nat) : Nat → Nat
  | 0 => 0
  | n + 1 => max (maxTo f n) (f n)
/-- whether something holds of all of the first numbers -/
def allTo (f : Nat → Bool) : Nat → Bool
  | 0 => true
  | n + 1 => allTo f n && f n

def size : Tree → Nat | node _ _ _ l kid => 1 + sumTo (fun i => if h : i < l then size (kid ⟨i, h⟩) else 0) l
def depth : Tree → Nat | node _ _ _ l kid => maxTo (fun i => if h : i < l then depth (kid ⟨i, h⟩) else 0) l + 1
def nest : Tree → Nat | node k _ _ l kid => maxTo (fun i => if h : i < l then nest (kid ⟨i, h⟩) else 0) l + if k = 42 ∨ k = 43 then 1 else 0

theorem sumTo_succ (f : Nat → Nat) (n : Nat) : sumTo f (n + 1) = sumTo f n + f n := rfl
theorem maxTo_succ (f : Nat → Nat) (n : Nat) : maxTo f (n + 1) = max (maxTo f n) (f n) := rfl
theorem allTo_succ (f : Nat → Bool) (n : Nat) : allTo f (n + 1) = (allTo f n && f n) := rfl
theorem sumTo_le {f : Nat → Nat} {n m : Nat} (h : n ≤ m) : sumTo f n ≤ sumTo f m := by
  induction m with
  | zero => obtain rfl : n = 0 := by omega
            exact Nat.le_refl _
  | succ m ih =>
    by_cases e : n = m + 1
    · subst e; exact Nat.le_refl _
    · have := ih (by omega); rw [sumTo_succ]; omega
theorem le_sumTo {f : Nat → Nat} {i n : Nat} (h : i < n) : f i ≤ sumTo f n := by
  have := sumTo_le (f := f) (show i + 1 ≤ n by omega)
  rw [sumTo_succ] at this; omega
theorem maxTo_le {f : Nat → Nat} {n m : Nat} (h : n ≤ m) : maxTo f n ≤ maxTo f m := by
  induction m with
  | zero => obtain rfl : n = 0 := by omega
            exact Nat.le_refl _
  | succ m ih =>
    by_cases e : n = m + 1
    · subst e; exact Nat.le_refl _
    · have := ih (by omega); rw [maxTo_succ]; omega
theorem maxTo_lt {f : Nat → Nat} {n b : Nat} (hb : 0 < b) (h : ∀ i, i < n → f i < b) : maxTo f n < b := by
  induction n with
  | zero => exact hb
  | succ n ih => have := ih (fun i hi => h i (by omega)); have := h n (by omega); rw [maxTo_succ]; omega
theorem allTo_iff {f : Nat → Bool} {n : Nat} : allTo f n = true ↔ ∀ i, i < n → f i = true := by
  induction n with
  | zero => simp [allTo]
  | succ n ih =>
    simp only [allTo, Bool.and_eq_true, ih]
    constructor
    · intro h i hi
      by_cases e : i = n
      · subst e; exact h.2
      · exact h.1 i (by omega)
    · intro h; exact ⟨fun i hi => h i (by omega), h n (by omega)⟩
theorem allTo_congr {f g : Nat → Bool} {n : Nat} (h : ∀ i, i < n → f i = g i) : allTo f n = allTo g n := by
  induction n with
  | zero => rfl
  | succ n ih => unfold allTo; rw [ih (fun i hi => h i (by omega)), h n (by omega)]
theorem allTo_false {f : Nat → Bool} {n i : Nat} (hi : i < n) (h : f i = false) : allTo f n = false := by
  cases e : allTo f n with
  | false => rfl
  | true => rw [allTo_iff.1 e i hi] at h; cases h

theorem sumTo_congr {f g : Nat → Nat} {n : Nat} (h : ∀ i, i < n → f i = g i) : sumTo f n = sumTo g n := by
  induction n with
  | zero => rfl
  | succ n ih => rw [sumTo_succ, sumTo_succ, ih (fun i hi => h i (by omega)), h n (by omega)]
theorem maxTo_congr {f g : Nat → Nat} {n : Nat} (h : ∀ i, i < n → f i = g i) : maxTo f n = maxTo g n := by
  induction n with
  | zero => rfl
  | succ n ih => rw [maxTo_succ, maxTo_succ, ih (fun i hi => h i (by omega)), h n (by omega)]
theorem size_eq (t : Tree) : t.size = 1 + sumTo (fun i => (t.kid i).size) t.len := by
  cases t with
  | node k n s l kid => rw [size]; congr 1; exact sumTo_congr fun i hi => by rw [dif_pos hi, kid_node hi]
theorem depth_eq (t : Tree) : t.depth = maxTo (fun i => (t.kid i).depth) t.len + 1 := by
  cases t with
  | node k n s l kid => rw [depth]; congr 1; exact maxTo_congr fun i hi => by rw [dif_pos hi, kid_node hi]
theorem nest_eq (t : Tree) : t.nest = maxTo (fun i => (t.kid i).nest) t.len + if t.kind = 42 ∨ t.kind = 43 then 1 else 0 := by
  cases t with
  | node k n s l kid => rw [nest]; congr 1; exact maxTo_congr fun i hi => by rw [dif_pos hi, kid_node hi]
theorem ind {P : Tree → Prop} (h : ∀ t : Tree, (∀ i, i < t.len → P (t.kid i)) → P t) : ∀ t, P t := by
  intro t
  induction t with
  | node k n s l kid ih => exact h _ fun i hi => by have hi' : i < l := hi; rw [kid_node hi']; exact ih _
/-- a tree out of its parts -/
def make (k n : Int) (s : ByteArray) (l : Nat) (f : Nat → Tree) : Tree := node k n s l (fun i => f i.1)
theorem make_kid {k n : Int} {s : ByteArray} {l : Nat} {f : Nat → Tree} {i : Nat} (h : i < l) : (make k n s l f).kid i = f i := kid_node h
theorem size_pos (t : Tree) : 1 ≤ t.size := by rw [size_eq]; omega
theorem size_kid {t : Tree} {i : Nat} (h : i < t.len) : (t.kid i).size < t.size := by
  have := le_sumTo (f := fun i => (t.kid i).size) h
  rw [size_eq t]; exact Nat.lt_of_le_of_lt this (by omega)
theorem maxTo_le_maxTo {f g : Nat → Nat} {n : Nat} (h : ∀ i, i < n → f i ≤ g i) : maxTo f n ≤ maxTo g n := by
  induction n with
  | zero => exact Nat.le_refl _
  | succ n ih => have := ih (fun i hi => h i (by omega)); have := h n (by omega); rw [maxTo_succ, maxTo_succ]; omega
theorem nest_le_depth (t : Tree) : t.nest ≤ t.depth := by
  induction t using ind with
  | h t ih => have := maxTo_le_maxTo (n := t.len) ih; rw [depth_eq, nest_eq]; split <;> omega
end Tree

/-- what fits into a node's fields -/
structure Tree.Fits (t : Tree) : Prop where
  kind : 0 ≤ t.kind ∧ t.kind ≤ 255
  num : -9223372036854775808 ≤ t.num ∧ t.num ≤ 9223372036854775807
  name : t.name.size ≤ 9223372036854775807
  len : t.len ≤ 9223372036854775807

/-- a node at an address, its children's slice at another with a capacity -/
structure NodeAt (w : World) (b off : Nat) (t : Tree) (a : Option Addr) (c : Nat) : Prop where
  kind : w.cell? ⟨b, off, none⟩ = some (.int .u8 t.kind)
  num : w.cell? ⟨b, off + 1, none⟩ = some (.int .i64 t.num)
  name : w.cell? ⟨b, off + 2, none⟩ = some (.string t.name)
  kids : w.cell? ⟨b, off + 3, none⟩ = some (.slice a t.len c)

/-- the value of a node -/
abbrev Tree.val (t : Tree) (a : Option Addr) (c : Nat) : Value := .agg #[.int .u8 t.kind, .int .i64 t.num, .string t.name, .slice a t.len c]

/-- The children of a tree lie at an address. -/
def Rep (w : World) : Tree → Option Addr → Prop
  | .node k n s l kid => fun a => (Tree.node k n s l kid).Fits ∧
      (l = 0 ∨ ∃ b off, a = some ⟨b, off, none⟩ ∧ ∀ (i : Nat) (h : i < l), ∃ ai ci, NodeAt w b (off + i * 4) (kid ⟨i, h⟩) ai ci ∧ Rep w (kid ⟨i, h⟩) ai)

theorem Rep.fits {w : World} {t : Tree} {a : Option Addr} (h : Rep w t a) : t.Fits := by cases t; exact h.1
theorem Rep.kids {w : World} {t : Tree} {a : Option Addr} (h : Rep w t a) : t.len = 0 ∨ ∃ b off, a = some ⟨b, off, none⟩ ∧ ∀ i, i < t.len → ∃ ai ci, NodeAt w b (off + i * 4) (t.kid i) ai ci ∧ Rep w (t.kid i) ai := by
  cases t with
  | node k n s l kid =>
    rcases h.2 with h0 | ⟨b, off, ha, hk⟩
    · exact .inl h0
    · exact .inr ⟨b, off, ha, fun i hi => by have hi' : i < l := hi; rw [Tree.kid_node hi']; exact hk i hi⟩
theorem Rep.mk {w : World} {t : Tree} {a : Option Addr} (hf : t.Fits) (h : t.len = 0 ∨ ∃ b off, a = some ⟨b, off, none⟩ ∧ ∀ i, i < t.len → ∃ ai ci, NodeAt w b (off + i * 4) (t.kid i) ai ci ∧ Rep w (t.kid i) ai) : Rep w t a := by
  cases t with
  | node k n s l kid =>
    rcases h with h0 | ⟨b, off, ha, hk⟩
    · exact ⟨hf, .inl h0⟩
    · exact ⟨hf, .inr ⟨b, off, ha, fun i hi => by have hi' : i < l := hi; have := hk i hi; rwa [Tree.kid_node hi'] at this⟩⟩

theorem NodeAt.below {w w' : World} {b off : Nat} {t : Tree} {a : Option Addr} {c B : Nat} (h : NodeAt w b off t a c) (hb : Below B w w') (hB : b < B) : NodeAt w' b off t a c :=
  ⟨(hb.cell (p := ⟨b, _, none⟩) hB).trans h.kind, (hb.cell (p := ⟨b, _, none⟩) hB).trans h.num, (hb.cell (p := ⟨b, _, none⟩) hB).trans h.name, (hb.cell (p := ⟨b, _, none⟩) hB).trans h.kids⟩
theorem NodeAt.lt {w : World} {b off : Nat} {t : Tree} {a : Option Addr} {c : Nat} (h : NodeAt w b off t a c) : b < w.heap.size := World.block_lt_of_cell? w _ h.kind

theorem Rep.below {w w' : World} (hb : Below w.heap.size w w') : ∀ {t : Tree} {a : Option Addr}, Rep w t a → Rep w' t a := by
  intro t
  induction t using Tree.ind with
  | h t ih =>
    intro a h
    refine Rep.mk h.fits ?_
    rcases h.kids with h0 | ⟨b, off, ha, hk⟩
    · exact .inl h0
    · refine .inr ⟨b, off, ha, fun i hi => ?_⟩
      obtain ⟨ai, ci, hn, hr⟩ := hk i hi
      exact ⟨ai, ci, hn.below hb hn.lt, ih i hi hr⟩

/-! ### the box of a parameter -/
theorem ofBox {w wr : World} {o : Obj} (h : Below (w.heap.size + 1) (w.alloc o) wr) : Below w.heap.size w wr :=
  ((Below.refl _ _).alloc (Nat.le_refl _) o).trans (h.mono (Nat.le_succ _))
theorem box_cell {w wr : World} {c : Array Value} {t : TypeId} (h : Below (w.heap.size + 1) (w.alloc (.cells c t)) wr) (i : Nat) : wr.cell? ⟨w.heap.size, i, none⟩ = c[i]? :=
  (h.cell (p := ⟨w.heap.size, i, none⟩) (Nat.lt_succ_self _)).trans (World.cell?_alloc_new w c t i)
theorem box_size {w wr : World} {o : Obj} (h : Below (w.heap.size + 1) (w.alloc o) wr) : w.heap.size + 1 ≤ wr.heap.size := by
  have := h.size; simpa using this

/-- the nodes of a tree as far as a depth, at most 1000 -/
def Tree.cnt : Nat → Tree → Nat
  | 0, _ => 1000
  | d + 1, t => min 1000 (1 + Tree.sumTo (fun i => Tree.cnt d (t.kid i)) t.len)
theorem Tree.cnt_succ (d : Nat) (t : Tree) : Tree.cnt (d + 1) t = min 1000 (1 + Tree.sumTo (fun i => Tree.cnt d (t.kid i)) t.len) := rfl
theorem Tree.cnt_le (d : Nat) (t : Tree) : Tree.cnt d t ≤ 1000 := by
  cases d with
  | zero => exact Nat.le_refl _
  | succ d => rw [cnt_succ]; omega
theorem Tree.cnt_small (d : Nat) : ∀ t : Tree, Tree.cnt d t < 1000 → t.size = Tree.cnt d t ∧ t.depth ≤ d := by
  induction d with
  | zero => intro t h; simp [Tree.cnt] at h
  | succ d ih =>
    intro t h
    rw [cnt_succ] at h
    have hk : ∀ i, i < t.len → (t.kid i).size = Tree.cnt d (t.kid i) ∧ (t.kid i).depth ≤ d := by
      intro i hi
      have := le_sumTo (f := fun i => Tree.cnt d (t.kid i)) hi
      exact ih _ (Nat.lt_of_le_of_lt this (by omega))
    constructor
    · rw [cnt_succ, size_eq, sumTo_congr (fun i hi => (hk i hi).1)]; omega
    · rw [depth_eq]
      have : maxTo (fun i => (t.kid i).depth) t.len < d + 1 := maxTo_lt (by omega) (fun i hi => by have := (hk i hi).2; omega)
      omega
def Tree.big (t : Tree) : Prop := 500 < Tree.cnt 40 t
theorem Tree.small {t : Tree} (h : ¬ t.big) : t.size ≤ 500 ∧ t.depth ≤ 40 := by
  unfold Tree.big at h
  have := Tree.cnt_small 40 t (by omega)
  omega
end Go.Proofs.YtgochgcchkdlmaaDoor

/-
  Programs (shared objects and tasks), as plain data and as they lie in memory. No program text is named here.
-/
namespace Go.Proofs.YtgochgcchkdlmaaDoor
set_option linter.unusedVariables false
set_option linter.unusedSimpArgs false
open Go.RowKit

/-- an array or shared object -/
structure Arr where
  name : ByteArray
  len : Int
/-- a task -/
structure Tsk where
  name : ByteArray
  period : Int
  vars : List ByteArray
  arrays : List Arr
  body : Tree
/-- a program -/
structure Prg where
  shared : List Arr
  tasks : List Tsk
def Arr.none : Arr := ⟨⟨#[]⟩, 0⟩
def Tsk.none : Tsk := ⟨⟨#[]⟩, 0, [], [], Tree.leaf 0 0 ⟨#[]⟩⟩

/-- a number of 64 bits -/
def isI64 (n : Int) : Prop := -9223372036854775808 ≤ n ∧ n ≤ 9223372036854775807
/-- the cells of arrays -/
def ArrAt (w : World) (b off : Nat) (x : Arr) : Prop := w.cell? ⟨b, off, none⟩ = some (.string x.name) ∧ w.cell? ⟨b, off + 1, none⟩ = some (.int .i64 x.len) ∧ x.name.size ≤ 9223372036854775807 ∧ isI64 x.len
/-- a row of arrays: its children's address (nothing is said of it where the row is empty) -/
def ArrsAt (w : World) (a : Option Addr) (l : List Arr) : Prop := l.length ≤ 9223372036854775807 ∧ ∀ i, i < l.length → ∃ b off, a = some ⟨b, off, none⟩ ∧ ArrAt w b (off + i * 2) (l.getD i Arr.none)
/-- a row of strings -/
def StrsAt (w : World) (a : Option Addr) (l : List ByteArray) : Prop := l.length ≤ 9223372036854775807 ∧ ∀ i, i < l.length → ∃ b off, a = some ⟨b, off, none⟩ ∧ w.cell? ⟨b, off + i, none⟩ = some (.string (l.getD i ⟨#[]⟩)) ∧ (l.getD i ⟨#[]⟩).size ≤ 9223372036854775807

/-- where the rows of a task lie -/
structure TskPlace where
  va : Option Addr
  vc : Nat
  aa : Option Addr
  ac : Nat
  ka : Option Addr
  kc : Nat
/-- a task's eight cells -/
def Tsk.cells (t : Tsk) (p : TskPlace) : Array Value := #[.string t.name, .int .i64 t.period, .slice p.va t.vars.length p.vc, .slice p.aa t.arrays.length p.ac, .int .u8 t.body.kind, .int .i64 t.body.num, .string t.body.name, .slice p.ka t.body.len p.kc]
/-- what a task's rows hold -/
structure TskIn (w : World) (t : Tsk) (p : TskPlace) : Prop where
  name : t.name.size ≤ 9223372036854775807
  period : isI64 t.period
  vars : StrsAt w p.va t.vars
  arrays : ArrsAt w p.aa t.arrays
  body : Rep w t.body p.ka
/-- a row of tasks -/
def TsksAt (w : World) (a : Option Addr) (l : List Tsk) : Prop := l.length ≤ 9223372036854775807 ∧
  ∀ i, i < l.length → ∃ b off p, a = some ⟨b, off, none⟩ ∧ (∀ o, o < 8 → w.cell? ⟨b, off + i * 8 + o, none⟩ = ((l.getD i Tsk.none).cells p)[o]?) ∧ TskIn w (l.getD i Tsk.none) p
/-- a program's value -/
abbrev Prg.val (p : Prg) (sa : Option Addr) (sc : Nat) (ta : Option Addr) (tc : Nat) : Value := .agg #[.slice sa p.shared.length sc, .slice ta p.tasks.length tc]
def PrgAt (w : World) (p : Prg) (sa ta : Option Addr) : Prop := ArrsAt w sa p.shared ∧ TsksAt w ta p.tasks

theorem cell_below {w w' : World} {b o : Nat} {v : Value} (hb : Below w.heap.size w w') (h : w.cell? ⟨b, o, none⟩ = some v) : w'.cell? ⟨b, o, none⟩ = some v :=
  (hb.cell (p := ⟨b, o, none⟩) (World.block_lt_of_cell? w _ h)).trans h
theorem ArrsAt.below {w w' : World} {a : Option Addr} {l : List Arr} (h : ArrsAt w a l) (hb : Below w.heap.size w w') : ArrsAt w' a l :=
  ⟨h.1, fun i hi => by obtain ⟨b, off, ha, h1, h2, h3⟩ := h.2 i hi; exact ⟨b, off, ha, cell_below hb h1, cell_below hb h2, h3⟩⟩
theorem StrsAt.below {w w' : World} {a : Option Addr} {l : List ByteArray} (h : StrsAt w a l) (hb : Below w.heap.size w w') : StrsAt w' a l :=
  ⟨h.1, fun i hi => by obtain ⟨b, off, ha, h1, h3⟩ := h.2 i hi; exact ⟨b, off, ha, cell_below hb h1, h3⟩⟩
theorem TskIn.below {w w' : World} {t : Tsk} {p : TskPlace} (h : TskIn w t p) (hb : Below w.heap.size w w') : TskIn w' t p :=
  ⟨h.name, h.period, h.vars.below hb, h.arrays.below hb, h.body.below hb⟩
theorem TsksAt.below {w w' : World} {a : Option Addr} {l : List Tsk} (h : TsksAt w a l) (hb : Below w.heap.size w w') : TsksAt w' a l := by
  refine ⟨h.1, fun i hi => ?_⟩
  obtain ⟨b, off, p, ha, h1, h2⟩ := h.2 i hi
  refine ⟨b, off, p, ha, fun o ho => ?_, h2.below hb⟩
  have e := h1 o ho
  have hs : o < ((l.getD i Tsk.none).cells p).size := ho
  rw [Array.getElem?_eq_getElem hs] at e ⊢
  exact cell_below hb e
theorem PrgAt.below {w w' : World} {p : Prg} {sa ta : Option Addr} (h : PrgAt w p sa ta) (hb : Below w.heap.size w w') : PrgAt w' p sa ta := ⟨h.1.below hb, h.2.below hb⟩

/-! ### lists, one element more -/
theorem all_next {α : Type} (f : α → Bool) (l : List α) (d : α) (j : Nat) (h : j < l.length) : (l.take (j + 1)).all f = ((l.take j).all f && f (l.getD j d)) := by
  rw [List.take_succ_eq_append_getElem h, List.all_append]
  simp [h]
theorem all_stop {α : Type} (f : α → Bool) (l : List α) (d : α) (j : Nat) (h : j < l.length) (hf : f (l.getD j d) = false) : l.all f = false := by
  rw [List.all_eq_false]
  refine ⟨l.getD j d, ?_, by rw [hf]; simp⟩
  simp [h]

/-! ### what the document says of programs -/
/-- a valid declaration of an array, by a test of names -/
def Arr.ok (nm : ByteArray → Bool) (x : Arr) : Bool := nm x.name && decide (1 ≤ x.len) && decide (x.len ≤ 32)
end Go.Proofs.YtgochgcchkdlmaaDoor

/-
  The nodes of a tree with their paths, in pre-order. No program is named here.
-/
namespace Go.Proofs.YtgochgcchkdlmaaDoor
set_option linter.unusedVariables false
set_option linter.unusedSimpArgs false

/-- lists, one behind the other -/
def concatTo {β : Type} (f : Nat → List β) : Nat → List β
  | 0 => []
  | n + 1 => concatTo f n ++ f n
theorem concatTo_congr {β : Type} {f g : Nat → List β} {n : Nat} (h : ∀ i, i < n → f i = g i) : concatTo f n = concatTo g n := by
  induction n with
  | zero => rfl
  | succ n ih => unfold concatTo; rw [ih (fun i hi => h i (by omega)), h n (by omega)]
theorem concatTo_succ {β : Type} (f : Nat → List β) (n : Nat) : concatTo f (n + 1) = concatTo f n ++ f n := rfl
end Go.Proofs.YtgochgcchkdlmaaDoor

/-
  Trees whose cells lie in given blocks. No program is named here.
-/
namespace Go.Proofs.YtgochgcchkdlmaaDoor
set_option linter.unusedVariables false
set_option linter.unusedSimpArgs false
open Go.RowKit

/-- The children of a tree lie at an address, all in blocks of a kind. -/
def RepIn (S : Nat → Prop) (w : World) : Tree → Option Addr → Prop
  | .node k n s l kid => fun a => (Tree.node k n s l kid).Fits ∧
      (l = 0 ∨ ∃ b off, a = some ⟨b, off, none⟩ ∧ S b ∧ ∀ (i : Nat) (h : i < l), ∃ ai ci, NodeAt w b (off + i * 4) (kid ⟨i, h⟩) ai ci ∧ RepIn S w (kid ⟨i, h⟩) ai)

theorem RepIn.fits {S : Nat → Prop} {w : World} {t : Tree} {a : Option Addr} (h : RepIn S w t a) : t.Fits := by cases t; exact h.1
theorem RepIn.kids {S : Nat → Prop} {w : World} {t : Tree} {a : Option Addr} (h : RepIn S w t a) : t.len = 0 ∨ ∃ b off, a = some ⟨b, off, none⟩ ∧ S b ∧ ∀ i, i < t.len → ∃ ai ci, NodeAt w b (off + i * 4) (t.kid i) ai ci ∧ RepIn S w (t.kid i) ai := by
  cases t with
  | node k n s l kid =>
    rcases h.2 with h0 | ⟨b, off, ha, hS, hk⟩
    · exact .inl h0
    · exact .inr ⟨b, off, ha, hS, fun i hi => by have hi' : i < l := hi; rw [Tree.kid_node hi']; exact hk i hi⟩
theorem RepIn.mk {S : Nat → Prop} {w : World} {t : Tree} {a : Option Addr} (hf : t.Fits) (h : t.len = 0 ∨ ∃ b off, a = some ⟨b, off, none⟩ ∧ S b ∧ ∀ i, i < t.len → ∃ ai ci, NodeAt w b (off + i * 4) (t.kid i) ai ci ∧ RepIn S w (t.kid i) ai) : RepIn S w t a := by
  cases t with
  | node k n s l kid =>
    rcases h with h0 | ⟨b, off, ha, hS, hk⟩
    · exact ⟨hf, .inl h0⟩
    · exact ⟨hf, .inr ⟨b, off, ha, hS, fun i hi => by have hi' : i < l := hi; have := hk i hi; rwa [Tree.kid_node hi'] at this⟩⟩

theorem RepIn.rep {S : Nat → Prop} {w : World} : ∀ {t : Tree} {a : Option Addr}, RepIn S w t a → Rep w t a := by
  intro t
  induction t using Tree.ind with
  | h t ih =>
    intro a h
    refine Rep.mk h.fits ?_
    rcases h.kids with h0 | ⟨b, off, ha, _, hk⟩
    · exact .inl h0
    · exact .inr ⟨b, off, ha, fun i hi => by obtain ⟨ai, ci, hn, hr⟩ := hk i hi; exact ⟨ai, ci, hn, ih i hi hr⟩⟩

theorem NodeAt.same {w w' : World} {b off : Nat} {t : Tree} {a : Option Addr} {c : Nat} (h : NodeAt w b off t a c) (hb : w'.heap[b]? = w.heap[b]?) : NodeAt w' b off t a c :=
  ⟨(World.cell?_of_block (a := ⟨b, _, none⟩) hb).trans h.kind, (World.cell?_of_block (a := ⟨b, _, none⟩) hb).trans h.num, (World.cell?_of_block (a := ⟨b, _, none⟩) hb).trans h.name, (World.cell?_of_block (a := ⟨b, _, none⟩) hb).trans h.kids⟩

theorem RepIn.move {S S' : Nat → Prop} {w w' : World} (h1 : ∀ k, S k → k < w.heap.size → w'.heap[k]? = w.heap[k]?) (h2 : ∀ k, S k → k < w.heap.size → S' k) :
    ∀ {t : Tree} {a : Option Addr}, RepIn S w t a → RepIn S' w' t a := by
  intro t
  induction t using Tree.ind with
  | h t ih =>
    intro a h
    refine RepIn.mk h.fits ?_
    rcases h.kids with h0 | ⟨b, off, ha, hS, hk⟩
    · exact .inl h0
    · by_cases hl : 0 < t.len
      · have hlt : b < w.heap.size := by obtain ⟨ai, ci, hn, _⟩ := hk 0 hl; exact hn.lt
        exact .inr ⟨b, off, ha, h2 b hS hlt, fun i hi => by obtain ⟨ai, ci, hn, hr⟩ := hk i hi; exact ⟨ai, ci, hn.same (h1 b hS hlt), ih i hi hr⟩⟩
      · exact .inl (by omega)
/-- new memory, from a line on -/
theorem RepIn.mono {S S' : Nat → Prop} {w : World} (h : ∀ k, S k → S' k) {t : Tree} {a : Option Addr} (hr : RepIn S w t a) : RepIn S' w t a :=
  hr.move (fun _ _ _ => rfl) (fun k hk _ => h k hk)

/-- the cells of a node -/
def Tree.row (t : Tree) (x : Option Addr × Nat) : List Value := [.int .u8 t.kind, .int .i64 t.num, .string t.name, .slice x.1 t.len x.2]
end Go.Proofs.YtgochgcchkdlmaaDoor

/-
  What a region keeps: the box of a node. No program is named here.
-/
namespace Go.Proofs.YtgochgcchkdlmaaDoor
set_option linter.unusedVariables false
set_option linter.unusedSimpArgs false
open Go.RowKit

end Go.Proofs.YtgochgcchkdlmaaDoor
