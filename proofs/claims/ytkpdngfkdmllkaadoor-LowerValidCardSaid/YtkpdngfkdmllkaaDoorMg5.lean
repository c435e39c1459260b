/-
  Mg5: several texts in one (Tree, AstSize, AppendSrc, Items).
-/
import Derived.WalkKit
import Derived.Deep.RegionHeld
import Derived.Test.YtkpdngfkdmllkaaDoorProg
import Derived.Lib.Hide
import Derived.LoopTactic
import Derived.BigGuardPart
import Derived.Outline
import Derived.Maps.AppendAt
import Derived.Deep.AppendLies
import Derived.RegionTactic
import Derived.OwnWalk
/-
  Trees, as plain data and as they lie in memory. No program is named here.
-/
namespace Go.Proofs.YtkpdngfkdmllkaaDoor
set_option linter.unusedVariables false
set_option linter.unusedSimpArgs false
open Go.RowKit

/-- A tree: kind, number, name, the number of children, the children. -/
inductive Tree where
  | node (kind num : Int) (name : ByteArray) (len : Nat) (kid : Fin len → Tree)

namespace Tree
def kind : Tree → Int | node k _ _ _ _ => k
def num : Tree → Int | node _ n _ _ _ => n
def name : Tree → ByteArray | node _ _ s _ _ => s
def len : Tree → Nat | node _ _ _ l _ => l
/-- a tree of one node (there are trees; and what stands beyond the children) -/
def leaf (k n : Int) (s : ByteArray) : Tree := node k n s 0 (fun i => i.elim0)
def kid : Tree → Nat → Tree | node _ _ _ l k => fun i => if h : i < l then k ⟨i, h⟩ else leaf 0 0 ByteArray.empty
theorem kid_node {k n : Int} {s : ByteArray} {l : Nat} {kid : Fin l → Tree} {i : Nat} (h : i < l) : (node k n s l kid).kid i = kid ⟨i, h⟩ := dif_pos h

/-- a sum over the first numbers -/
def sumTo (f : Nat → Nat) : Nat → Nat
  | 0 => 0
  | n + 1 => sumTo f n + f n
/-- a maximum over the first numbers -/
def maxTo (f : Nat → Nat) : Nat → Nat
  | 0 => 0
  | n + 1 => max (maxTo f n) (f n)
/-- whether something holds of all of the first numbers -/
def allTo (f : Nat → Bool) : Nat → Bool
  | 0 => true
  | n + 1 => allTo f n && f n

def size : Tree → Nat | node _ _ _ l kid => 1 + sumTo (fun i => if h : i < l then size (kid ⟨i, h⟩) else 0) l
def depth : Tree → Nat | node _ _ _ l kid => maxTo (fun i => if h : i < l then depth (kid ⟨i, h⟩) else 0) l + 1
def nest : Tree → Nat | node k _ _ l kid => maxTo (fun i => if h : i < l then nest (kid ⟨i, h⟩) else 0) l + if k = 42 ∨ k = 43 then 1 else 0

theorem sumTo_succ (f : Nat → Nat) (n : Nat) : sumTo f (n + 1) = sumTo f n + f n := rfl
theorem maxTo_succ (f : Nat → Nat) (n : Nat) : maxTo f (n + 1) = max (maxTo f n) (f n) := rfl
theorem allTo_succ (f : Nat → Bool) (n : Nat) : allTo f (n + 1) = (allTo f n && f n) := rfl
theorem sumTo_le {f : Nat → Nat} {n m : Nat} (h : n ≤ m) : sumTo f n ≤ sumTo f m := by
  induction m with
  | zero => obtain rfl : n = 0 := by omega
            exact Nat.le_refl _
  | succ m ih =>
    by_cases e : n = m + 1
    · subst e; exact Nat.le_refl _
    · have := ih (by omega); rw [sumTo_succ]; omega
theorem le_sumTo {f : Nat → Nat} {i n : Nat} (h : i < n) : f i ≤ sumTo f n := by
  have := sumTo_le (f := f) (show i + 1 ≤ n by omega)
  rw [sumTo_succ] at this; omega
theorem maxTo_le {f : Nat → Nat} {n m : Nat} (h : n ≤ m) : maxTo f n ≤ maxTo f m := by
  induction m with
  | zero => obtain rfl : n = 0 := by omega
            exact Nat.le_refl _
  | succ m ih =>
    by_cases e : n = m + 1
    · subst e; exact Nat.le_refl _
    · have := ih (by omega); rw [maxTo_succ]; omega
theorem le_maxTo {f : Nat → Nat} {i n : Nat} (h : i < n) : f i ≤ maxTo f n := by
  have := maxTo_le (f := f) (show i + 1 ≤ n by omega)
  rw [maxTo_succ] at this; omega
theorem maxTo_lt {f : Nat → Nat} {n b : Nat} (hb : 0 < b) (h : ∀ i, i < n → f i < b) : maxTo f n < b := by
  induction n with
  | zero => exact hb
  | succ n ih => have := ih (fun i hi => h i (by omega)); have := h n (by omega); rw [maxTo_succ]; omega
theorem allTo_iff {f : Nat → Bool} {n : Nat} : allTo f n = true ↔ ∀ i, i < n → f i = true := by
  induction n with
  | zero => simp [allTo]
  | succ n ih =>
    simp only [allTo, Bool.and_eq_true, ih]
    constructor
    · intro h i hi
      by_cases e : i = n
      · subst e; exact h.2
      · exact h.1 i (by omega)
    · intro h; exact ⟨fun i hi => h i (by omega), h n (by omega)⟩
theorem allTo_congr {f g : Nat → Bool} {n : Nat} (h : ∀ i, i < n → f i = g i) : allTo f n = allTo g n := by
  induction n with
  | zero => rfl
  | succ n ih => unfold allTo; rw [ih (fun i hi => h i (by omega)), h n (by omega)]
theorem allTo_false {f : Nat → Bool} {n i : Nat} (hi : i < n) (h : f i = false) : allTo f n = false := by
  cases e : allTo f n with
  | false => rfl
  | true => rw [allTo_iff.1 e i hi] at h; cases h

theorem sumTo_congr {f g : Nat → Nat} {n : Nat} (h : ∀ i, i < n → f i = g i) : sumTo f n = sumTo g n := by
  induction n with
  | zero => rfl
  | succ n ih => rw [sumTo_succ, sumTo_succ, ih (fun i hi => h i (by omega)), h n (by omega)]
theorem maxTo_congr {f g : Nat → Nat} {n : Nat} (h : ∀ i, i < n → f i = g i) : maxTo f n = maxTo g n := by
  induction n with
  | zero => rfl
  | succ n ih => rw [maxTo_succ, maxTo_succ, ih (fun i hi => h i (by omega)), h n (by omega)]
theorem size_eq (t : Tree) : t.size = 1 + sumTo (fun i => (t.kid i).size) t.len := by
  cases t with
  | node k n s l kid => rw [size]; congr 1; exact sumTo_congr fun i hi => by rw [dif_pos hi, kid_node hi]
theorem depth_eq (t : Tree) : t.depth = maxTo (fun i => (t.kid i).depth) t.len + 1 := by
  cases t with
  | node k n s l kid => rw [depth]; congr 1; exact maxTo_congr fun i hi => by rw [dif_pos hi, kid_node hi]
theorem nest_eq (t : Tree) : t.nest = maxTo (fun i => (t.kid i).nest) t.len + if t.kind = 42 ∨ t.kind = 43 then 1 else 0 := by
  cases t with
  | node k n s l kid => rw [nest]; congr 1; exact maxTo_congr fun i hi => by rw [dif_pos hi, kid_node hi]
theorem ind {P : Tree → Prop} (h : ∀ t : Tree, (∀ i, i < t.len → P (t.kid i)) → P t) : ∀ t, P t := by
  intro t
  induction t with
  | node k n s l kid ih => exact h _ fun i hi => by have hi' : i < l := hi; rw [kid_node hi']; exact ih _
/-- trees are equal if their parts are -/
theorem eq_of {a b : Tree} (h1 : a.kind = b.kind) (h2 : a.num = b.num) (h3 : a.name = b.name) (h4 : a.len = b.len) (h5 : ∀ i, i < a.len → a.kid i = b.kid i) : a = b := by
  cases a with
  | node k n s l kid =>
    cases b with
    | node k' n' s' l' kid' =>
      cases h1; cases h2; cases h3; cases h4
      congr 1
      funext ⟨i, hi⟩
      have := h5 i hi
      rwa [kid_node hi, kid_node hi] at this
/-- a tree out of its parts -/
def make (k n : Int) (s : ByteArray) (l : Nat) (f : Nat → Tree) : Tree := node k n s l (fun i => f i.1)
theorem make_kid {k n : Int} {s : ByteArray} {l : Nat} {f : Nat → Tree} {i : Nat} (h : i < l) : (make k n s l f).kid i = f i := kid_node h
/-- there are trees, of every size -/
example : (leaf 1 5 ByteArray.empty).size = 1 ∧ (make 2 0 ByteArray.empty 3 (fun _ => leaf 1 5 ByteArray.empty)).size = 4 := ⟨rfl, rfl⟩

theorem size_pos (t : Tree) : 1 ≤ t.size := by rw [size_eq]; omega
theorem size_kid {t : Tree} {i : Nat} (h : i < t.len) : (t.kid i).size < t.size := by
  have := le_sumTo (f := fun i => (t.kid i).size) h
  rw [size_eq t]; exact Nat.lt_of_le_of_lt this (by omega)
theorem depth_kid {t : Tree} {i : Nat} (h : i < t.len) : (t.kid i).depth < t.depth := by
  have := le_maxTo (f := fun i => (t.kid i).depth) h
  rw [depth_eq t]; exact Nat.lt_of_le_of_lt this (by omega)
theorem maxTo_le_sumTo {f g : Nat → Nat} {n : Nat} (h : ∀ i, i < n → f i ≤ g i) : maxTo f n ≤ sumTo g n := by
  induction n with
  | zero => exact Nat.le_refl _
  | succ n ih => have := ih (fun i hi => h i (by omega)); have := h n (by omega); rw [maxTo_succ, sumTo_succ]; omega
theorem maxTo_le_maxTo {f g : Nat → Nat} {n : Nat} (h : ∀ i, i < n → f i ≤ g i) : maxTo f n ≤ maxTo g n := by
  induction n with
  | zero => exact Nat.le_refl _
  | succ n ih => have := ih (fun i hi => h i (by omega)); have := h n (by omega); rw [maxTo_succ, maxTo_succ]; omega
theorem depth_le_size (t : Tree) : t.depth ≤ t.size := by
  induction t using ind with
  | h t ih => have := maxTo_le_sumTo (n := t.len) ih; rw [depth_eq, size_eq]; omega
theorem nest_le_depth (t : Tree) : t.nest ≤ t.depth := by
  induction t using ind with
  | h t ih => have := maxTo_le_maxTo (n := t.len) ih; rw [depth_eq, nest_eq]; split <;> omega
end Tree

/-- what fits into a node's fields -/
structure Tree.Fits (t : Tree) : Prop where
  kind : 0 ≤ t.kind ∧ t.kind ≤ 255
  num : -9223372036854775808 ≤ t.num ∧ t.num ≤ 9223372036854775807
  name : t.name.size ≤ 9223372036854775807
  len : t.len ≤ 9223372036854775807

/-- a node at an address, its children's slice at another with a capacity -/
structure NodeAt (w : World) (b off : Nat) (t : Tree) (a : Option Addr) (c : Nat) : Prop where
  kind : w.cell? ⟨b, off, none⟩ = some (.int .u8 t.kind)
  num : w.cell? ⟨b, off + 1, none⟩ = some (.int .i64 t.num)
  name : w.cell? ⟨b, off + 2, none⟩ = some (.string t.name)
  kids : w.cell? ⟨b, off + 3, none⟩ = some (.slice a t.len c)

/-- the value of a node -/
abbrev Tree.val (t : Tree) (a : Option Addr) (c : Nat) : Value := .agg #[.int .u8 t.kind, .int .i64 t.num, .string t.name, .slice a t.len c]

/-- The children of a tree lie at an address. -/
def Rep (w : World) : Tree → Option Addr → Prop
  | .node k n s l kid => fun a => (Tree.node k n s l kid).Fits ∧
      (l = 0 ∨ ∃ b off, a = some ⟨b, off, none⟩ ∧ ∀ (i : Nat) (h : i < l), ∃ ai ci, NodeAt w b (off + i * 4) (kid ⟨i, h⟩) ai ci ∧ Rep w (kid ⟨i, h⟩) ai)

theorem Rep.fits {w : World} {t : Tree} {a : Option Addr} (h : Rep w t a) : t.Fits := by cases t; exact h.1
theorem Rep.kids {w : World} {t : Tree} {a : Option Addr} (h : Rep w t a) : t.len = 0 ∨ ∃ b off, a = some ⟨b, off, none⟩ ∧ ∀ i, i < t.len → ∃ ai ci, NodeAt w b (off + i * 4) (t.kid i) ai ci ∧ Rep w (t.kid i) ai := by
  cases t with
  | node k n s l kid =>
    rcases h.2 with h0 | ⟨b, off, ha, hk⟩
    · exact .inl h0
    · exact .inr ⟨b, off, ha, fun i hi => by have hi' : i < l := hi; rw [Tree.kid_node hi']; exact hk i hi⟩
theorem Rep.mk {w : World} {t : Tree} {a : Option Addr} (hf : t.Fits) (h : t.len = 0 ∨ ∃ b off, a = some ⟨b, off, none⟩ ∧ ∀ i, i < t.len → ∃ ai ci, NodeAt w b (off + i * 4) (t.kid i) ai ci ∧ Rep w (t.kid i) ai) : Rep w t a := by
  cases t with
  | node k n s l kid =>
    rcases h with h0 | ⟨b, off, ha, hk⟩
    · exact ⟨hf, .inl h0⟩
    · exact ⟨hf, .inr ⟨b, off, ha, fun i hi => by have hi' : i < l := hi; have := hk i hi; rwa [Tree.kid_node hi'] at this⟩⟩

theorem NodeAt.below {w w' : World} {b off : Nat} {t : Tree} {a : Option Addr} {c B : Nat} (h : NodeAt w b off t a c) (hb : Below B w w') (hB : b < B) : NodeAt w' b off t a c :=
  ⟨(hb.cell (p := ⟨b, _, none⟩) hB).trans h.kind, (hb.cell (p := ⟨b, _, none⟩) hB).trans h.num, (hb.cell (p := ⟨b, _, none⟩) hB).trans h.name, (hb.cell (p := ⟨b, _, none⟩) hB).trans h.kids⟩
theorem NodeAt.lt {w : World} {b off : Nat} {t : Tree} {a : Option Addr} {c : Nat} (h : NodeAt w b off t a c) : b < w.heap.size := World.block_lt_of_cell? w _ h.kind

theorem Rep.below {w w' : World} (hb : Below w.heap.size w w') : ∀ {t : Tree} {a : Option Addr}, Rep w t a → Rep w' t a := by
  intro t
  induction t using Tree.ind with
  | h t ih =>
    intro a h
    refine Rep.mk h.fits ?_
    rcases h.kids with h0 | ⟨b, off, ha, hk⟩
    · exact .inl h0
    · refine .inr ⟨b, off, ha, fun i hi => ?_⟩
      obtain ⟨ai, ci, hn, hr⟩ := hk i hi
      exact ⟨ai, ci, hn.below hb hn.lt, ih i hi hr⟩

/-! ### the box of a parameter -/
theorem ofBox {w wr : World} {o : Obj} (h : Below (w.heap.size + 1) (w.alloc o) wr) : Below w.heap.size w wr :=
  ((Below.refl _ _).alloc (Nat.le_refl _) o).trans (h.mono (Nat.le_succ _))
theorem box_cell {w wr : World} {c : Array Value} {t : TypeId} (h : Below (w.heap.size + 1) (w.alloc (.cells c t)) wr) (i : Nat) : wr.cell? ⟨w.heap.size, i, none⟩ = c[i]? :=
  (h.cell (p := ⟨w.heap.size, i, none⟩) (Nat.lt_succ_self _)).trans (World.cell?_alloc_new w c t i)
theorem box_size {w wr : World} {o : Obj} (h : Below (w.heap.size + 1) (w.alloc o) wr) : w.heap.size + 1 ≤ wr.heap.size := by
  have := h.size; simpa using this

/-- the nodes of a tree as far as a depth, at most 1000 -/
def Tree.cnt : Nat → Tree → Nat
  | 0, _ => 1000
  | d + 1, t => min 1000 (1 + Tree.sumTo (fun i => Tree.cnt d (t.kid i)) t.len)
theorem Tree.cnt_succ (d : Nat) (t : Tree) : Tree.cnt (d + 1) t = min 1000 (1 + Tree.sumTo (fun i => Tree.cnt d (t.kid i)) t.len) := rfl
theorem Tree.cnt_le (d : Nat) (t : Tree) : Tree.cnt d t ≤ 1000 := by
  cases d with
  | zero => exact Nat.le_refl _
  | succ d => rw [cnt_succ]; omega
theorem Tree.cnt_small (d : Nat) : ∀ t : Tree, Tree.cnt d t < 1000 → t.size = Tree.cnt d t ∧ t.depth ≤ d := by
  induction d with
  | zero => intro t h; simp [Tree.cnt] at h
  | succ d ih =>
    intro t h
    rw [cnt_succ] at h
    have hk : ∀ i, i < t.len → (t.kid i).size = Tree.cnt d (t.kid i) ∧ (t.kid i).depth ≤ d := by
      intro i hi
      have := le_sumTo (f := fun i => Tree.cnt d (t.kid i)) hi
      exact ih _ (Nat.lt_of_le_of_lt this (by omega))
    constructor
    · rw [cnt_succ, size_eq, sumTo_congr (fun i hi => (hk i hi).1)]; omega
    · rw [depth_eq]
      have : maxTo (fun i => (t.kid i).depth) t.len < d + 1 := maxTo_lt (by omega) (fun i hi => by have := (hk i hi).2; omega)
      omega
def Tree.big (t : Tree) : Prop := 500 < Tree.cnt 40 t
theorem Tree.small {t : Tree} (h : ¬ t.big) : t.size ≤ 500 ∧ t.depth ≤ 40 := by
  unfold Tree.big at h
  have := Tree.cnt_small 40 t (by omega)
  omega
end Go.Proofs.YtkpdngfkdmllkaaDoor

/-
  Contracts: the measures of trees (package ast and its reference), and the statements' count.
-/
namespace Go.Proofs.YtkpdngfkdmllkaaDoor
set_option linter.unusedVariables false
set_option linter.unusedSimpArgs false
open Go.RowKit
set_option maxRecDepth 100000

theorem ret_int {k : IntKind} {a b : Int} (h : a = b) : Ending.returned (.int k a) = .returned (.int k b) := by rw [h]

set_option maxHeartbeats 1000000 in
theorem nest_any : ∀ (t : Tree) (w : World) (a : Option Addr) (c : Nat), Rep w t a → t.nest ≤ 1000000 →
    Calls Tryd.prog 54 #[t.val a c] w fun e w' => e = .returned (.int .i64 (t.nest : Nat)) ∧ Below w.heap.size w w' := by
  intro t
  induction t using Tree.ind with
  | h t ih =>
    intro w a c hv hs
    have IH := Lib.hid ih
    clear ih
    have hl := hv.fits.len
    have HK := Lib.hid hv.kids
    clear hv
    have HV := Lib.hid t.nest_eq
    go_enter Tryd.func54, Tryd.ntmps54
    go_wp2_with fail
    go_loopw [3, 9] (fun sz i wr => ∃ j : Nat, j ≤ t.len ∧ i = .int .i64 j ∧ sz = .int .i64 ((Tree.maxTo (fun i => (t.kid i).nest) j : Nat) : Int) ∧ Below (w.heap.size + 1) (w.alloc (.cells #[.int .u8 t.kind, .int .i64 t.num, .string t.name, .slice a t.len c] 35)) wr) (fun _ i _ => t.len - (intOf i).toNat)
    case atStart => exact ⟨0, Nat.zero_le _, rfl, rfl, Below.refl _ _⟩
    case round =>
      obtain ⟨j, hj, rfl, rfl, hBx⟩ := hrel
      have hB := ofBox hBx
      have hsz := box_size hBx
      have bx0 := box_cell hBx 0
      have bx3 := box_cell hBx 3
      simp only [List.getElem?_toArray, List.getElem?_cons_zero, List.getElem?_cons_succ] at bx0 bx3
      have hmx : Tree.maxTo (fun i => (t.kid i).nest) j ≤ 1000000 := by have := Tree.maxTo_le (f := fun i => (t.kid i).nest) hj; have := HV.out; omega
      by_cases hlt : j < t.len
      · rcases HK.out with h0 | ⟨b, off, rfl, hc⟩
        · omega
        obtain ⟨ai, ci, hn, hr⟩ := hc j hlt
        obtain ⟨f0, f1, f2, f3⟩ := hn.below hB hn.lt
        have HSS := Lib.hid (Tree.maxTo_succ (fun i => (t.kid i).nest) j)
        have hs1 := Tree.maxTo_le (f := fun i => (t.kid i).nest) (show j + 1 ≤ t.len by omega)
        have hs2 : Tree.maxTo (fun i => (t.kid i).nest) j ≤ 1000000 ∧ (t.kid j).nest ≤ 1000000 := by have := HSS.out; have := HV.out; omega
        clear hs1
        have HI := Lib.hid (IH.out j hlt)
        clear hc hn
        go_wp2_with fail
        refine (HI.out _ ai ci (hr.below (hB.alloc (by omega) _)) (by omega)).mono ?_
        rintro e w1 ⟨rfl, hB1⟩
        have hB2 : Below (w.heap.size + 1) (w.alloc (.cells #[.int .u8 t.kind, .int .i64 t.num, .string t.name, .slice (some ⟨b, off, none⟩) t.len c] 35)) w1 := (hBx.alloc hsz _).trans (hB1.mono (by simp; omega))
        clear hB1 hr f0 f1 f2 f3
        go_wp2_with fail
        all_goals
          go_roundw
          case rel => exact ⟨j + 1, by omega, by go_num, congrArg (Value.int .i64) (by rw [HSS.out]; omega), hB2⟩
          case measure => simp [intOf]; omega
      · obtain rfl : j = t.len := by omega
        by_cases k42 : t.kind = 42
        · have q : (t.kind == 42) = true := by simpa using k42
          have HE : Hid (t.nest = Tree.maxTo (fun i => (t.kid i).nest) t.len + 1) := by show _ = _; rw [HV.out, if_pos (Or.inl k42)]
          clear k42
          go_wp2_with fail
          go_ret
          exact ⟨ret_int (by rw [HE.out]; rfl), hB⟩
        · have q : (t.kind == 42) = false := by simpa using k42
          by_cases k43 : t.kind = 43
          · have q' : (t.kind == 43) = true := by simpa using k43
            have HE : Hid (t.nest = Tree.maxTo (fun i => (t.kid i).nest) t.len + 1) := by show _ = _; rw [HV.out, if_pos (Or.inr k43)]
            clear k42 k43
            go_wp2_with fail
            go_ret
            exact ⟨ret_int (by rw [HE.out]; rfl), hB⟩
          · have q' : (t.kind == 43) = false := by simpa using k43
            have HE : Hid (t.nest = Tree.maxTo (fun i => (t.kid i).nest) t.len) := by show _ = _; rw [HV.out, if_neg (by omega)]; rfl
            clear k42 k43
            go_wp2_with fail
            go_ret
            exact ⟨ret_int (by rw [HE.out]), hB⟩

end Go.Proofs.YtkpdngfkdmllkaaDoor

/-
  append of a row that came in (nil, empty or not) onto a row of the call's own: where the new row lies. No program is named here.
-/
namespace Go.Proofs.YtkpdngfkdmllkaaDoor
set_option linter.unusedVariables false
set_option linter.unusedSimpArgs false
open Go.RowKit

/-- a slice's cells, read: m elements of some cells each -/
def Src (w : World) (A : Option Addr) (m size : Nat) (news : List Value) : Prop :=
  news.length = m * size ∧ (m = 0 ∨ ∃ ad, A = some ad ∧ ∀ j u, news[j]? = some u → w.cell? (ad.add j) = some u)
theorem run_append_src {P : Program} (w : World) (base : Nat) (t ty e : TypeId) (i : TypeInfo) (z : Value) (size bytes : Nat) (ht : P.underlying t = some (.slice e)) (hi : P.info? e = some i) (hz : i.zero = some z)
    (hsize : i.size = size) (hby : i.bytes = bytes) (hzs : z.cells.size = size) (hsz : 0 < size) (v : Value) (n : Nat) (xs : List Value) (hown : w.ownsRow base e size v n xs)
    (A : Option Addr) (m c : Nat) (news : List Value) (hr : Src w A m size news) (h1 : ∀ u ∈ news, u.oneCell' = true) (h63 : n + m ≤ maxLen) (hbytes : (n + m) * bytes ≤ 140737488355328) (hbase : base ≤ w.heap.size) :
    ∃ v' w', (Builtin.append_ #[t, t] ty #[v, .slice A m c]).run P w = .ok v' w' ∧ w'.ownsRow base e size v' (n + m) (xs ++ news) ∧ w.grownBy w' v.ownBlock ∧ (v'.ownBlock = v.ownBlock ∨ v'.ownBlock = some w.heap.size) := by
  cases A with
  | none =>
    have hm : m = 0 := by
      rcases hr.2 with h | ⟨ad, h, _⟩
      · exact h
      · cases h
    subst hm
    have hn : news = [] := List.length_eq_zero_iff.1 (by rw [hr.1]; omega)
    subst hn
    refine ⟨v, w, ?_, by simpa using hown, World.grownBy.refl w _, .inl rfl⟩
    rcases hown.2 with ⟨rfl, rfl⟩ | ⟨g, cap, cur, rfl, _, _, hnc, _⟩
    · simp [Builtin.append_, run_underlying ht, sizeOf, typeInfo, hi, Builtin.lenOf, Builtin.firstCells]
    · simp [Builtin.append_, run_underlying ht, sizeOf, typeInfo, hi, Builtin.lenOf, Builtin.firstCells, hnc, storeCells]
  | some ad =>
    have hcells : ∀ j u, news[j]? = some u → w.cell? (ad.add j) = some u := by
      rcases hr.2 with h | ⟨ad', h, hc⟩
      · intro j u hu
        have hn : news = [] := List.length_eq_zero_iff.1 (by rw [hr.1, h]; omega)
        subst hn
        cases hu
      · cases h
        exact hc
    obtain ⟨v', w', r1, r2, r3, _, r5⟩ := run_append_own_at (P := P) w base t ty e i z size bytes ht hi hz hsize hby hzs hsz v n xs hown ad m c news hr.1 hcells h1 h63 hbytes hbase
    exact ⟨v', w', r1, r2, r3, r5⟩
theorem wpList_append_src {P : Program} (w : World) {ops : Array Oper} {rest : List Oper} {o : Oper} {a : Act} {Q : Exit → Act → World → Prop}
    (hg : o.guard = none) (s x : Operand) (t : TypeId) (hop : o.op = Op.call { callee := Callee.builtin Builtin.append, args := #[s, x], argTypes := #[t, t] })
    (base : Nat) (e : TypeId) (i : TypeInfo) (z : Value) (size bytes : Nat) (ht : P.underlying t = some (.slice e)) (hi : P.info? e = some i) (hz : i.zero = some z)
    (hsize : i.size = size) (hby : i.bytes = bytes) (hzs : z.cells.size = size) (hsz : 0 < size) (v : Value) (n : Nat) (xs : List Value) (hs : a.eval s = v) (hown : w.ownsRow base e size v n xs)
    (A : Option Addr) (m c : Nat) (news : List Value) (hx : a.eval x = .slice A m c) (hr : Src w A m size news) (h1 : ∀ u ∈ news, u.oneCell' = true) (h63 : n + m ≤ maxLen) (hbytes : (n + m) * bytes ≤ 140737488355328) (hbase : base ≤ w.heap.size)
    (hK : ∀ v' w', w'.ownsRow base e size v' (n + m) (xs ++ news) → w.grownBy w' v.ownBlock → (v'.ownBlock = v.ownBlock ∨ v'.ownBlock = some w.heap.size) → wpList P ops Q rest (a.put o.dst v') w') :
    wpList P ops Q (o :: rest) a w := by
  refine wpList_plain hg fun K' hK' => ?_
  obtain ⟨v', w', hrun, r1, r2, r3⟩ := run_append_src (P := P) w base t o.type e i z size bytes ht hi hz hsize hby hzs hsz v n xs hown A m c news hr h1 h63 hbytes hbase
  unfold Oper.wp
  simp [execOp, hop, resolve, invoke, builtin, hs, hx, hrun, Result.andThen]
  exact hK' _ _ (hK v' w' r1 r2 r3)
theorem step_append_src {P : Program} (w : World) {ops : Array Oper} {o : Oper} {a : Act} {K : Act → World → Prop} {Q : Exit → Act → World → Prop} {E : Prop}
    (hg : o.guard = none) (s x : Operand) (t : TypeId) (hop : o.op = Op.call { callee := Callee.builtin Builtin.append, args := #[s, x], argTypes := #[t, t] })
    (base : Nat) (e : TypeId) (i : TypeInfo) (z : Value) (size bytes : Nat) (ht : P.underlying t = some (.slice e)) (hi : P.info? e = some i) (hz : i.zero = some z)
    (hsize : i.size = size) (hby : i.bytes = bytes) (hzs : z.cells.size = size) (hsz : 0 < size) (v : Value) (n : Nat) (xs : List Value) (hs : a.eval s = v) (hown : w.ownsRow base e size v n xs)
    (A : Option Addr) (m c : Nat) (news : List Value) (hx : a.eval x = .slice A m c) (hr : Src w A m size news) (h1 : ∀ u ∈ news, u.oneCell' = true) (h63 : n + m ≤ maxLen) (hbytes : (n + m) * bytes ≤ 140737488355328) (hbase : base ≤ w.heap.size)
    (hK : ∀ v' w', w'.ownsRow base e size v' (n + m) (xs ++ news) → w.grownBy w' v.ownBlock → (v'.ownBlock = v.ownBlock ∨ v'.ownBlock = some w.heap.size) → K (a.put o.dst v') w') :
    if Region.wanted o (yielded ops a.tmps) = true then Oper.wp P o a w K Q else E := by
  have hw : Region.wanted o (yielded ops a.tmps) = true := by simp [Region.wanted, hg]
  rw [if_pos hw]
  obtain ⟨v', w', hrun, r1, r2, r3⟩ := run_append_src (P := P) w base t o.type e i z size bytes ht hi hz hsize hby hzs hsz v n xs hown A m c news hr h1 h63 hbytes hbase
  unfold Oper.wp
  simp [execOp, hop, resolve, invoke, builtin, hs, hx, hrun, Result.andThen]
  exact hK v' w' r1 r2 r3
/-- a cell of a row is set -/
theorem ownsRow_set {w : World} {base : Nat} {e : TypeId} {size g n cap j : Nat} {xs : List Value} {u : Value} (h : w.ownsRow base e size (.slice (some ⟨g, 0, none⟩) n cap) n xs) (_hj : j < n * size) : (w.setCell ⟨g, j, none⟩ u).ownsRow base e size (.slice (some ⟨g, 0, none⟩) n cap) n (xs.set j u) := by
  obtain ⟨h1, h2⟩ := h
  refine ⟨by simpa using h1, ?_⟩
  rcases h2 with ⟨h2, _⟩ | ⟨g', cap', cur, hv, hb, hc, hn, hm, hs, hx⟩
  · cases h2
  · cases hv
    refine .inr ⟨g, cap, cur.setIfInBounds j u, rfl, hb, ?_, hn, hm, by simpa using hs, ?_⟩
    · simp [World.setCell, Array.getElem?_modify, hc]
    · rw [Array.toList_setIfInBounds, ← hx, List.take_set]
end Go.Proofs.YtkpdngfkdmllkaaDoor

/-
  The nodes of a tree with their paths, in pre-order. No program is named here.
-/
namespace Go.Proofs.YtkpdngfkdmllkaaDoor
set_option linter.unusedVariables false
set_option linter.unusedSimpArgs false

/-- lists, one behind the other -/
def concatTo {β : Type} (f : Nat → List β) : Nat → List β
  | 0 => []
  | n + 1 => concatTo f n ++ f n
/-- the nodes of a tree with their paths, in pre-order -/
def Tree.items : Tree → List Int → List (List Int × Tree)
  | .node k n s l kid => fun p => (p, .node k n s l kid) :: concatTo (fun i => if h : i < l then Tree.items (kid ⟨i, h⟩) (p ++ [(i : Int)]) else []) l
theorem concatTo_congr {β : Type} {f g : Nat → List β} {n : Nat} (h : ∀ i, i < n → f i = g i) : concatTo f n = concatTo g n := by
  induction n with
  | zero => rfl
  | succ n ih => unfold concatTo; rw [ih (fun i hi => h i (by omega)), h n (by omega)]
theorem Tree.items_eq (t : Tree) (p : List Int) : t.items p = (p, t) :: concatTo (fun i => (t.kid i).items (p ++ [(i : Int)])) t.len := by
  cases t with
  | node k n s l kid =>
    show _ :: concatTo _ l = _ :: concatTo _ l
    congr 1
    exact concatTo_congr fun i hi => by rw [dif_pos hi, Tree.kid_node hi]
theorem concatTo_succ {β : Type} (f : Nat → List β) (n : Nat) : concatTo f (n + 1) = concatTo f n ++ f n := rfl
theorem concatTo_le {β : Type} (f : Nat → List β) {n m : Nat} (h : n ≤ m) : ∃ r, concatTo f m = concatTo f n ++ r := by
  induction m with
  | zero => obtain rfl : n = 0 := by omega
            exact ⟨[], by simp⟩
  | succ m ih =>
    by_cases e : n = m + 1
    · subst e; exact ⟨[], by simp⟩
    · obtain ⟨r, hr⟩ := ih (by omega)
      exact ⟨r ++ f m, by rw [concatTo_succ, hr, List.append_assoc]⟩

theorem items_pre (t : Tree) (p : List Int) {j : Nat} (hj : j < t.len) {q : List (List Int × Tree)} (hq : q <+: (t.kid j).items (p ++ [(j : Int)])) :
    ((p, t) :: concatTo (fun i => (t.kid i).items (p ++ [(i : Int)])) j) ++ q <+: t.items p := by
  obtain ⟨r, hr⟩ := hq
  obtain ⟨r2, hr2⟩ := concatTo_le (fun i => (t.kid i).items (p ++ [(i : Int)])) (show j + 1 ≤ t.len by omega)
  refine ⟨r ++ r2, ?_⟩
  rw [t.items_eq p, hr2, concatTo_succ, ← hr]
  simp [List.append_assoc]

theorem items_step (t : Tree) (p : List Int) (pre : List (List Int × Tree)) {xs : List (List Int × Tree)} {j : Nat} (hj : j < t.len) (h : pre ++ t.items p <+: xs) :
    (pre ++ (p, t) :: concatTo (fun i => (t.kid i).items (p ++ [(i : Int)])) j) ++ (t.kid j).items (p ++ [(j : Int)]) <+: xs := by
  refine List.IsPrefix.trans ?_ h
  rw [List.append_assoc]
  exact (List.prefix_append_right_inj pre).2 (items_pre t p hj List.prefix_rfl)
end Go.Proofs.YtkpdngfkdmllkaaDoor
