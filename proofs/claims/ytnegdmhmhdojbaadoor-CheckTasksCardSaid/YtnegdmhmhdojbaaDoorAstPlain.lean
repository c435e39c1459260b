/-
  Plain definitions: which trees are valid.
-/
import Derived.Test.YtnegdmhmhdojbaaDoorTree
import Derived.Test.YtnegdmhmhdojbaaDoorLex
namespace Go.Proofs.YtnegdmhmhdojbaaDoor
set_option linter.unusedVariables false
set_option linter.unusedSimpArgs false
open Go.RowKit

namespace Fm
/-- of a kind: whether there is a name, the least and the greatest number, the children's categories -/
def row (k : Int) : Bool × Int × Int × List UInt8 :=
  if k = 1 then (false, 0, 2147483647, []) else
  if k = 2 then (true, 0, 0, []) else
  if k = 3 then (true, 0, 0, [101]) else
  if k = 4 then (false, 0, 0, [101]) else
  if k = 5 then (false, 0, 0, [101]) else
  if k = 40 then (false, 0, 0, [112, 101]) else
  if k = 41 then (false, 0, 0, [101, 98, 98]) else
  if k = 42 then (true, 1, 1000, [98]) else
  if k = 43 then (false, 1, 1000, [101, 98]) else
  if k = 44 then (false, 0, 7, [112]) else
  if k = 45 then (false, 0, 7, [101]) else
  if k = 46 then (true, 0, 0, [98]) else
  (false, 0, 0, [101, 101])
def name (k : Int) : Bool := (row k).1
def lo (k : Int) : Int := (row k).2.1
def hi (k : Int) : Int := (row k).2.2.1
def kids (k : Int) : List UInt8 := (row k).2.2.2
def belongs (k c : Int) : Bool :=
  if c = 101 then decide (1 ≤ k ∧ k ≤ 23) else if c = 112 then decide (k = 2 ∨ k = 3) else if c = 115 then decide (40 ≤ k ∧ k < 47) else decide (k = 47)
/-- one of the four categories -/
def cat (c : Int) : Prop := c = 101 ∨ c = 112 ∨ c = 115 ∨ c = 98
theorem row_else (k : Int) (h : ¬ (k = 1 ∨ k = 2 ∨ k = 3 ∨ k = 4 ∨ k = 5 ∨ k = 40 ∨ k = 41 ∨ k = 42 ∨ k = 43 ∨ k = 44 ∨ k = 45 ∨ k = 46)) : row k = (false, 0, 0, [101, 101]) := by
  unfold row
  repeat rw [if_neg (by omega)]
theorem kids_cat (k : Int) (i : Nat) (h : i < (kids k).length) : cat ((kids k).getD i 0).toNat := by
  by_cases hk : k = 1 ∨ k = 2 ∨ k = 3 ∨ k = 4 ∨ k = 5 ∨ k = 40 ∨ k = 41 ∨ k = 42 ∨ k = 43 ∨ k = 44 ∨ k = 45 ∨ k = 46
  · rcases hk with rfl | rfl | rfl | rfl | rfl | rfl | rfl | rfl | rfl | rfl | rfl | rfl
    all_goals
      revert i
      unfold cat
      decide
  · unfold kids at *
    rw [row_else k hk] at *
    revert i
    unfold cat
    decide
theorem bd (k : Int) : 0 ≤ lo k ∧ lo k ≤ 1 ∧ 0 ≤ hi k ∧ hi k ≤ 2147483647 ∧ (kids k).length ≤ 3 := by
  by_cases hk : k = 1 ∨ k = 2 ∨ k = 3 ∨ k = 4 ∨ k = 5 ∨ k = 40 ∨ k = 41 ∨ k = 42 ∨ k = 43 ∨ k = 44 ∨ k = 45 ∨ k = 46
  · rcases hk with rfl | rfl | rfl | rfl | rfl | rfl | rfl | rfl | rfl | rfl | rfl | rfl
    all_goals decide
  · unfold lo hi kids; rw [row_else k hk]; decide
end Fm

namespace Tree
/-- a valid tree of a category -/
def vld : Tree → Int → Bool
  | node k n s l kid => fun c => Fm.belongs k c && (if k = 47 then (n == 0) && s.toList.isEmpty && allTo (fun i => if h : i < l then vld (kid ⟨i, h⟩) 115 else true) l else
      decide (Fm.lo k ≤ n) && decide (n ≤ Fm.hi k) && decide (l = (Fm.kids k).length) && (if Fm.name k then Lx.name s.toList else s.toList.isEmpty) && allTo (fun i => if h : i < l then vld (kid ⟨i, h⟩) (((Fm.kids k).getD i 0).toNat) else true) l)
theorem vld_eq (t : Tree) (c : Int) : t.vld c = (Fm.belongs t.kind c && (if t.kind = 47 then (t.num == 0) && t.name.toList.isEmpty && allTo (fun i => (t.kid i).vld 115) t.len else
      decide (Fm.lo t.kind ≤ t.num) && decide (t.num ≤ Fm.hi t.kind) && decide (t.len = (Fm.kids t.kind).length) && (if Fm.name t.kind then Lx.name t.name.toList else t.name.toList.isEmpty) && allTo (fun i => (t.kid i).vld (((Fm.kids t.kind).getD i 0).toNat)) t.len)) := by
  cases t with
  | node k n s l kid =>
    rw [vld]
    have e1 : allTo (fun i => if h : i < l then vld (kid ⟨i, h⟩) 115 else true) l = allTo (fun i => ((node k n s l kid).kid i).vld 115) l := allTo_congr fun i hi => by rw [dif_pos hi, kid_node hi]
    have e2 : allTo (fun i => if h : i < l then vld (kid ⟨i, h⟩) (((Fm.kids k).getD i 0).toNat) else true) l = allTo (fun i => ((node k n s l kid).kid i).vld (((Fm.kids k).getD i 0).toNat)) l := allTo_congr fun i hi => by rw [dif_pos hi, kid_node hi]
    rw [e1, e2]; rfl
end Tree
end Go.Proofs.YtnegdmhmhdojbaaDoor
