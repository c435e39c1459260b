/-
  AstForms: several texts in one (AstPlain, AstForm, AstValid).
-/
import Derived.Test.YtgochgcchkdlmaaDoorTreeBase
import Derived.Test.YtgochgcchkdlmaaDoorLexAll
import Derived.StillTailTactics
import Derived.Deep.RegionWith
/-
  Plain definitions: which trees are valid.
-/
namespace Go.Proofs.YtgochgcchkdlmaaDoor
set_option linter.unusedVariables false
set_option linter.unusedSimpArgs false
open Go.RowKit

namespace Fm
/-- of a kind: whether there is a name, the least and the greatest number, the children's categories -/
def row (k : Int) : Bool × Int × Int × List UInt8 :=
  if k = 1 then (false, 0, 2147483647, []) else
  if k = 2 then (true, 0, 0, []) else
  if k = 3 then (true, 0, 0, [101]) else
  if k = 4 then (false, 0, 0, [101]) else
  if k = 5 then (false, 0, 0, [101]) else
  if k = 40 then (false, 0, 0, [112, 101]) else
  if k = 41 then (false, 0, 0, [101, 98, 98]) else
  if k = 42 then (true, 1, 1000, [98]) else
  if k = 43 then (false, 1, 1000, [101, 98]) else
  if k = 44 then (false, 0, 7, [112]) else
  if k = 45 then (false, 0, 7, [101]) else
  if k = 46 then (true, 0, 0, [98]) else
  (false, 0, 0, [101, 101])
def name (k : Int) : Bool := (row k).1
def lo (k : Int) : Int := (row k).2.1
def hi (k : Int) : Int := (row k).2.2.1
def kids (k : Int) : List UInt8 := (row k).2.2.2
def belongs (k c : Int) : Bool :=
  if c = 101 then decide (1 ≤ k ∧ k ≤ 23) else if c = 112 then decide (k = 2 ∨ k = 3) else if c = 115 then decide (40 ≤ k ∧ k < 47) else decide (k = 47)
/-- one of the four categories -/
def cat (c : Int) : Prop := c = 101 ∨ c = 112 ∨ c = 115 ∨ c = 98
theorem row_else (k : Int) (h : ¬ (k = 1 ∨ k = 2 ∨ k = 3 ∨ k = 4 ∨ k = 5 ∨ k = 40 ∨ k = 41 ∨ k = 42 ∨ k = 43 ∨ k = 44 ∨ k = 45 ∨ k = 46)) : row k = (false, 0, 0, [101, 101]) := by
  unfold row
  repeat rw [if_neg (by omega)]
theorem kids_cat (k : Int) (i : Nat) (h : i < (kids k).length) : cat ((kids k).getD i 0).toNat := by
  by_cases hk : k = 1 ∨ k = 2 ∨ k = 3 ∨ k = 4 ∨ k = 5 ∨ k = 40 ∨ k = 41 ∨ k = 42 ∨ k = 43 ∨ k = 44 ∨ k = 45 ∨ k = 46
  · rcases hk with rfl | rfl | rfl | rfl | rfl | rfl | rfl | rfl | rfl | rfl | rfl | rfl
    all_goals
      revert i
      unfold cat
      decide
  · unfold kids at *
    rw [row_else k hk] at *
    revert i
    unfold cat
    decide
theorem bd (k : Int) : 0 ≤ lo k ∧ lo k ≤ 1 ∧ 0 ≤ hi k ∧ hi k ≤ 2147483647 ∧ (kids k).length ≤ 3 := by
  by_cases hk : k = 1 ∨ k = 2 ∨ k = 3 ∨ k = 4 ∨ k = 5 ∨ k = 40 ∨ k = 41 ∨ k = 42 ∨ k = 43 ∨ k = 44 ∨ k = 45 ∨ k = 46
  · rcases hk with rfl | rfl | rfl | rfl | rfl | rfl | rfl | rfl | rfl | rfl | rfl | rfl
    all_goals decide
  · unfold lo hi kids; rw [row_else k hk]; decide
end Fm

namespace Tree
/-- a valid tree of a category -/
def vld : Tree → Int → Bool
  | node k n s l kid => fun c => Fm.belongs k c && (if k = 47 then (n == 0) && s.toList.isEmpty && allTo (fun i => if h : i < l then vld (kid ⟨i, h⟩) 115 else true) l else
      decide (Fm.lo k ≤ n) && decide (n ≤ Fm.hi k) && decide (l = (Fm.kids k).length) && (if Fm.name k then Lx.name s.toList else s.toList.isEmpty) && allTo (fun i => if h : i < l then vld (kid ⟨i, h⟩) (((Fm.kids k).getD i 0).toNat) else true) l)
theorem vld_eq (t : Tree) (c : Int) : t.vld c = (Fm.belongs t.kind c && (if t.kind = 47 then (t.num == 0) && t.name.toList.isEmpty && allTo (fun i => (t.kid i).vld 115) t.len else
      decide (Fm.lo t.kind ≤ t.num) && decide (t.num ≤ Fm.hi t.kind) && decide (t.len = (Fm.kids t.kind).length) && (if Fm.name t.kind then Lx.name t.name.toList else t.name.toList.isEmpty) && allTo (fun i => (t.kid i).vld (((Fm.kids t.kind).getD i 0).toNat)) t.len)) := by
  cases t with
  | node k n s l kid =>
    rw [vld]
    have e1 : allTo (fun i => if h : i < l then vld (kid ⟨i, h⟩) 115 else true) l = allTo (fun i => ((node k n s l kid).kid i).vld 115) l := allTo_congr fun i hi => by rw [dif_pos hi, kid_node hi]
    have e2 : allTo (fun i => if h : i < l then vld (kid ⟨i, h⟩) (((Fm.kids k).getD i 0).toNat) else true) l = allTo (fun i => ((node k n s l kid).kid i).vld (((Fm.kids k).getD i 0).toNat)) l := allTo_congr fun i hi => by rw [dif_pos hi, kid_node hi]
    rw [e1, e2]; rfl
end Tree
end Go.Proofs.YtgochgcchkdlmaaDoor

/-
  Contracts: the forms of nodes (package ast).
-/
namespace Go.Proofs.YtgochgcchkdlmaaDoor
set_option linter.unusedVariables false
set_option linter.unusedSimpArgs false
open Go.RowKit
set_option maxRecDepth 100000

theorem formOf_1 (w : World) : Calls Tryd.prog 73 #[.int .u8 1] w fun e w' => e = .returned (.agg #[.bool false, .int .i64 0, .int .i64 2147483647, .string ⟨#[]⟩]) ∧ Below w.heap.size w w' := by
  go_enter Tryd.func73, Tryd.ntmps73
  go_wp2_with fail
  exact bodyPost_ret (v := .agg #[.bool false, .int .i64 0, .int .i64 2147483647, .string ⟨#[]⟩]) (by simp [results, Tryd.results73, go_sem]) rfl ⟨rfl, by repeat (first | exact Below.refl _ _ | refine Below.alloc ?_ (by simp) _ | refine Below.setCell ?_ (by simp) _)⟩

theorem formOf_2 (w : World) : Calls Tryd.prog 73 #[.int .u8 2] w fun e w' => e = .returned (.agg #[.bool true, .int .i64 0, .int .i64 0, .string ⟨#[]⟩]) ∧ Below w.heap.size w w' := by
  go_enter Tryd.func73, Tryd.ntmps73
  go_wp2_with fail
  exact bodyPost_ret (v := .agg #[.bool true, .int .i64 0, .int .i64 0, .string ⟨#[]⟩]) (by simp [results, Tryd.results73, go_sem]) rfl ⟨rfl, by repeat (first | exact Below.refl _ _ | refine Below.alloc ?_ (by simp) _ | refine Below.setCell ?_ (by simp) _)⟩

theorem formOf_3 (w : World) : Calls Tryd.prog 73 #[.int .u8 3] w fun e w' => e = .returned (.agg #[.bool true, .int .i64 0, .int .i64 0, .string ⟨#[101]⟩]) ∧ Below w.heap.size w w' := by
  go_enter Tryd.func73, Tryd.ntmps73
  go_wp2_with fail
  exact bodyPost_ret (v := .agg #[.bool true, .int .i64 0, .int .i64 0, .string ⟨#[101]⟩]) (by simp [results, Tryd.results73, go_sem]) rfl ⟨rfl, by repeat (first | exact Below.refl _ _ | refine Below.alloc ?_ (by simp) _ | refine Below.setCell ?_ (by simp) _)⟩

theorem formOf_4 (w : World) : Calls Tryd.prog 73 #[.int .u8 4] w fun e w' => e = .returned (.agg #[.bool false, .int .i64 0, .int .i64 0, .string ⟨#[101]⟩]) ∧ Below w.heap.size w w' := by
  go_enter Tryd.func73, Tryd.ntmps73
  go_wp2_with fail
  exact bodyPost_ret (v := .agg #[.bool false, .int .i64 0, .int .i64 0, .string ⟨#[101]⟩]) (by simp [results, Tryd.results73, go_sem]) rfl ⟨rfl, by repeat (first | exact Below.refl _ _ | refine Below.alloc ?_ (by simp) _ | refine Below.setCell ?_ (by simp) _)⟩

theorem formOf_5 (w : World) : Calls Tryd.prog 73 #[.int .u8 5] w fun e w' => e = .returned (.agg #[.bool false, .int .i64 0, .int .i64 0, .string ⟨#[101]⟩]) ∧ Below w.heap.size w w' := by
  go_enter Tryd.func73, Tryd.ntmps73
  go_wp2_with fail
  exact bodyPost_ret (v := .agg #[.bool false, .int .i64 0, .int .i64 0, .string ⟨#[101]⟩]) (by simp [results, Tryd.results73, go_sem]) rfl ⟨rfl, by repeat (first | exact Below.refl _ _ | refine Below.alloc ?_ (by simp) _ | refine Below.setCell ?_ (by simp) _)⟩

theorem formOf_40 (w : World) : Calls Tryd.prog 73 #[.int .u8 40] w fun e w' => e = .returned (.agg #[.bool false, .int .i64 0, .int .i64 0, .string ⟨#[112, 101]⟩]) ∧ Below w.heap.size w w' := by
  go_enter Tryd.func73, Tryd.ntmps73
  go_wp2_with fail
  exact bodyPost_ret (v := .agg #[.bool false, .int .i64 0, .int .i64 0, .string ⟨#[112, 101]⟩]) (by simp [results, Tryd.results73, go_sem]) rfl ⟨rfl, by repeat (first | exact Below.refl _ _ | refine Below.alloc ?_ (by simp) _ | refine Below.setCell ?_ (by simp) _)⟩

theorem formOf_41 (w : World) : Calls Tryd.prog 73 #[.int .u8 41] w fun e w' => e = .returned (.agg #[.bool false, .int .i64 0, .int .i64 0, .string ⟨#[101, 98, 98]⟩]) ∧ Below w.heap.size w w' := by
  go_enter Tryd.func73, Tryd.ntmps73
  go_wp2_with fail
  exact bodyPost_ret (v := .agg #[.bool false, .int .i64 0, .int .i64 0, .string ⟨#[101, 98, 98]⟩]) (by simp [results, Tryd.results73, go_sem]) rfl ⟨rfl, by repeat (first | exact Below.refl _ _ | refine Below.alloc ?_ (by simp) _ | refine Below.setCell ?_ (by simp) _)⟩

theorem formOf_42 (w : World) : Calls Tryd.prog 73 #[.int .u8 42] w fun e w' => e = .returned (.agg #[.bool true, .int .i64 1, .int .i64 1000, .string ⟨#[98]⟩]) ∧ Below w.heap.size w w' := by
  go_enter Tryd.func73, Tryd.ntmps73
  go_wp2_with fail
  exact bodyPost_ret (v := .agg #[.bool true, .int .i64 1, .int .i64 1000, .string ⟨#[98]⟩]) (by simp [results, Tryd.results73, go_sem]) rfl ⟨rfl, by repeat (first | exact Below.refl _ _ | refine Below.alloc ?_ (by simp) _ | refine Below.setCell ?_ (by simp) _)⟩

theorem formOf_43 (w : World) : Calls Tryd.prog 73 #[.int .u8 43] w fun e w' => e = .returned (.agg #[.bool false, .int .i64 1, .int .i64 1000, .string ⟨#[101, 98]⟩]) ∧ Below w.heap.size w w' := by
  go_enter Tryd.func73, Tryd.ntmps73
  go_wp2_with fail
  exact bodyPost_ret (v := .agg #[.bool false, .int .i64 1, .int .i64 1000, .string ⟨#[101, 98]⟩]) (by simp [results, Tryd.results73, go_sem]) rfl ⟨rfl, by repeat (first | exact Below.refl _ _ | refine Below.alloc ?_ (by simp) _ | refine Below.setCell ?_ (by simp) _)⟩

theorem formOf_44 (w : World) : Calls Tryd.prog 73 #[.int .u8 44] w fun e w' => e = .returned (.agg #[.bool false, .int .i64 0, .int .i64 7, .string ⟨#[112]⟩]) ∧ Below w.heap.size w w' := by
  go_enter Tryd.func73, Tryd.ntmps73
  go_wp2_with fail
  exact bodyPost_ret (v := .agg #[.bool false, .int .i64 0, .int .i64 7, .string ⟨#[112]⟩]) (by simp [results, Tryd.results73, go_sem]) rfl ⟨rfl, by repeat (first | exact Below.refl _ _ | refine Below.alloc ?_ (by simp) _ | refine Below.setCell ?_ (by simp) _)⟩

theorem formOf_45 (w : World) : Calls Tryd.prog 73 #[.int .u8 45] w fun e w' => e = .returned (.agg #[.bool false, .int .i64 0, .int .i64 7, .string ⟨#[101]⟩]) ∧ Below w.heap.size w w' := by
  go_enter Tryd.func73, Tryd.ntmps73
  go_wp2_with fail
  exact bodyPost_ret (v := .agg #[.bool false, .int .i64 0, .int .i64 7, .string ⟨#[101]⟩]) (by simp [results, Tryd.results73, go_sem]) rfl ⟨rfl, by repeat (first | exact Below.refl _ _ | refine Below.alloc ?_ (by simp) _ | refine Below.setCell ?_ (by simp) _)⟩

theorem formOf_46 (w : World) : Calls Tryd.prog 73 #[.int .u8 46] w fun e w' => e = .returned (.agg #[.bool true, .int .i64 0, .int .i64 0, .string ⟨#[98]⟩]) ∧ Below w.heap.size w w' := by
  go_enter Tryd.func73, Tryd.ntmps73
  go_wp2_with fail
  exact bodyPost_ret (v := .agg #[.bool true, .int .i64 0, .int .i64 0, .string ⟨#[98]⟩]) (by simp [results, Tryd.results73, go_sem]) rfl ⟨rfl, by repeat (first | exact Below.refl _ _ | refine Below.alloc ?_ (by simp) _ | refine Below.setCell ?_ (by simp) _)⟩

theorem formOf_else (k : Int) (_hk : 0 ≤ k ∧ k ≤ 255) (h : ¬ (k = 1 ∨ k = 2 ∨ k = 3 ∨ k = 4 ∨ k = 5 ∨ k = 40 ∨ k = 41 ∨ k = 42 ∨ k = 43 ∨ k = 44 ∨ k = 45 ∨ k = 46)) (w : World) : Calls Tryd.prog 73 #[.int .u8 k] w fun e w' => e = .returned (.agg #[.bool false, .int .i64 0, .int .i64 0, .string ⟨#[101, 101]⟩]) ∧ Below w.heap.size w w' := by
  have b1 : (k == 1) = false := by simp; omega
  have b2 : (k == 2) = false := by simp; omega
  have b3 : (k == 3) = false := by simp; omega
  have b4 : (k == 4) = false := by simp; omega
  have b5 : (k == 5) = false := by simp; omega
  have b40 : (k == 40) = false := by simp; omega
  have b41 : (k == 41) = false := by simp; omega
  have b42 : (k == 42) = false := by simp; omega
  have b43 : (k == 43) = false := by simp; omega
  have b44 : (k == 44) = false := by simp; omega
  have b45 : (k == 45) = false := by simp; omega
  have b46 : (k == 46) = false := by simp; omega
  clear h
  go_enter Tryd.func73, Tryd.ntmps73
  go_wp2_with fail
  exact bodyPost_ret (v := .agg #[.bool false, .int .i64 0, .int .i64 0, .string ⟨#[101, 101]⟩]) (by simp [results, Tryd.results73, go_sem]) rfl ⟨rfl, by repeat (first | exact Below.refl _ _ | refine Below.alloc ?_ (by simp) _ | refine Below.setCell ?_ (by simp) _)⟩

theorem formOf_any (k : Int) (hk : 0 ≤ k ∧ k ≤ 255) (w : World) :
    Calls Tryd.prog 73 #[.int .u8 k] w fun e w' => e = .returned (.agg #[.bool (Fm.name k), .int .i64 (Fm.lo k), .int .i64 (Fm.hi k), .string ⟨(Fm.kids k).toArray⟩]) ∧ Below w.heap.size w w' := by
  by_cases h : k = 1 ∨ k = 2 ∨ k = 3 ∨ k = 4 ∨ k = 5 ∨ k = 40 ∨ k = 41 ∨ k = 42 ∨ k = 43 ∨ k = 44 ∨ k = 45 ∨ k = 46
  · rcases h with rfl | rfl | rfl | rfl | rfl | rfl | rfl | rfl | rfl | rfl | rfl | rfl
    · exact formOf_1 w
    · exact formOf_2 w
    · exact formOf_3 w
    · exact formOf_4 w
    · exact formOf_5 w
    · exact formOf_40 w
    · exact formOf_41 w
    · exact formOf_42 w
    · exact formOf_43 w
    · exact formOf_44 w
    · exact formOf_45 w
    · exact formOf_46 w
  · have e := Fm.row_else k h
    unfold Fm.name Fm.lo Fm.hi Fm.kids
    rw [e]
    exact formOf_else k hk h w

theorem belongs_any (k c : Int) (hk : 0 ≤ k ∧ k ≤ 255) (hc : Fm.cat c) (w : World) :
    Calls Tryd.prog 69 #[.int .u8 k, .int .u8 c] w fun e w' => e = .returned (.bool (Fm.belongs k c)) ∧ w = w' := by
  have key : ∀ b : Bool, Fm.belongs k c = b → Calls Tryd.prog 69 #[.int .u8 k, .int .u8 c] w fun e w' => e = .returned (.bool b) ∧ w = w' := by
    intro b hb
    have HB := Lib.hid hb
    clear hb
    rcases hc with rfl | rfl | rfl | rfl
    · by_cases h1 : 1 ≤ k
      · by_cases h2 : k ≤ 23
        all_goals
          go_enter Tryd.func69, Tryd.ntmps69
          go_wp2_with fail
          go_ret
          exact ⟨ret_bool' (by rw [← HB.out]; simp [Fm.belongs]; omega), rfl⟩
      · go_enter Tryd.func69, Tryd.ntmps69
        go_wp2_with fail
        go_ret
        exact ⟨ret_bool' (by rw [← HB.out]; simp [Fm.belongs]; omega), rfl⟩
    · by_cases h1 : k = 2
      · subst h1
        go_enter Tryd.func69, Tryd.ntmps69
        go_wp2_with fail
        go_ret
        exact ⟨ret_bool' (by rw [← HB.out]; rfl), rfl⟩
      · have q : (k == 2) = false := by simpa using h1
        go_enter Tryd.func69, Tryd.ntmps69
        go_wp2_with fail
        go_ret
        exact ⟨ret_bool' (by rw [← HB.out]; simp [Fm.belongs, h1]; rfl), rfl⟩
    · by_cases h1 : 40 ≤ k
      · by_cases h2 : k < 47
        all_goals
          go_enter Tryd.func69, Tryd.ntmps69
          go_wp2_with fail
          go_ret
          exact ⟨ret_bool' (by rw [← HB.out]; simp [Fm.belongs]; omega), rfl⟩
      · go_enter Tryd.func69, Tryd.ntmps69
        go_wp2_with fail
        go_ret
        exact ⟨ret_bool' (by rw [← HB.out]; simp [Fm.belongs]; omega), rfl⟩
    · go_enter Tryd.func69, Tryd.ntmps69
      go_wp2_with fail
      go_ret
      exact ⟨ret_bool' (by rw [← HB.out]; simp [Fm.belongs]; rfl), rfl⟩
  exact key _ rfl
end Go.Proofs.YtgochgcchkdlmaaDoor

/-
  Contracts: which trees are valid (package ast).
-/
namespace Go.Proofs.YtgochgcchkdlmaaDoor
set_option linter.unusedVariables false
set_option linter.unusedSimpArgs false
open Go.RowKit
set_option maxRecDepth 100000

/-- what isValid does at a tree -/
def ValidAt (t : Tree) : Prop := ∀ (w : World) (a : Option Addr) (c : Nat) (k : Int), Rep w t a → Fm.cat k → SignsIn w →
  Calls Tryd.prog 49 #[t.val a c, .int .u8 k] w fun e w' => e = .returned (.bool (t.vld k)) ∧ Below w.heap.size w w'

theorem isStmt_of {t : Tree} (H : ValidAt t) (w : World) (a : Option Addr) (c : Nat) (hr : Rep w t a) (hg : SignsIn w) :
    Calls Tryd.prog 72 #[t.val a c] w fun e w' => e = .returned (.bool (t.vld 115)) ∧ Below w.heap.size w w' := by
  have hB0 : Below w.heap.size w (w.alloc (.cells #[.int .u8 t.kind, .int .i64 t.num, .string t.name, .slice a t.len c] 50)) := (Below.refl _ _).alloc (Nat.le_refl _) _
  have HR := Lib.hid (hr.below hB0)
  have HG := Lib.hid (hg.below hB0)
  clear hr hg
  go_enter Tryd.func72, Tryd.ntmps72
  go_wp2_with fail
  refine (H _ a c 115 HR.out (by unfold Fm.cat; omega) HG.out).mono ?_
  rintro e w1 ⟨rfl, hB1⟩
  have hB2 := hB0.trans (hB1.mono (by simp))
  clear hB1
  go_wp2_with fail
  go_ret
  exact ⟨rfl, hB2⟩
theorem noStmt_of {t : Tree} (H : ValidAt t) (w : World) (a : Option Addr) (c : Nat) (hr : Rep w t a) (hg : SignsIn w) :
    Calls Tryd.prog 71 #[t.val a c] w fun e w' => e = .returned (.bool (!t.vld 115)) ∧ Below w.heap.size w w' := by
  have hB0 : Below w.heap.size w (w.alloc (.cells #[.int .u8 t.kind, .int .i64 t.num, .string t.name, .slice a t.len c] 50)) := (Below.refl _ _).alloc (Nat.le_refl _) _
  have HR := Lib.hid (hr.below hB0)
  have HG := Lib.hid (hg.below hB0)
  clear hr hg
  go_enter Tryd.func71, Tryd.ntmps71
  go_wp2_with fail
  refine (isStmt_of H _ a c HR.out HG.out).mono ?_
  rintro e w1 ⟨rfl, hB1⟩
  have hB2 := hB0.trans (hB1.mono (by simp))
  clear hB1
  go_wp2_with fail
  go_ret
  exact ⟨rfl, hB2⟩

/-- an index, not negative just where something is not all -/
def SomeIndex (q : Bool) (w : World) (e : Ending) (w' : World) : Prop := ∃ r : Int, e = .returned (.int .i64 r) ∧ (decide (0 ≤ r) = !q) ∧ Below w.heap.size w w'

set_option maxHeartbeats 1000000 in
theorem indexStmt_of {t : Tree} (H : ∀ i, i < t.len → ValidAt (t.kid i)) (w : World) (a : Option Addr) (c : Nat) (hr : Rep w t a) (hg : SignsIn w) :
    Calls Tryd.prog 98 #[.slice a t.len c, .func (.func 71) #[] #[]] w (SomeIndex (Tree.allTo (fun i => (t.kid i).vld 115) t.len) w) := by
  have HH := Lib.hid H
  clear H
  have hl := hr.fits.len
  have HK := Lib.hid hr.kids
  have HG := Lib.hid hg
  clear hr hg
  go_enter Tryd.func98, Tryd.ntmps98
  go_wp2_with fail
  go_loopw [8] (fun i wr => ∃ j : Nat, j ≤ t.len ∧ i = .int .i64 j ∧ Tree.allTo (fun i => (t.kid i).vld 115) j = true ∧ Below w.heap.size w wr) (fun i _ => t.len - (intOf i).toNat)
  case atStart => exact ⟨0, Nat.zero_le _, rfl, rfl, Below.refl _ _⟩
  case round =>
    obtain ⟨j, hj, rfl, hall, hB⟩ := hrel
    have HA := Lib.hid hall
    clear hall
    have hsz := hB.size
    by_cases hlt : j < t.len
    · rcases HK.out with h0 | ⟨b, off, rfl, hc⟩
      · omega
      obtain ⟨ai, ci, hn, hr⟩ := hc j hlt
      obtain ⟨f0, f1, f2, f3⟩ := hn.below hB hn.lt
      clear hc hn
      go_wp2_with fail
      refine (noStmt_of (HH.out j hlt) _ ai ci (hr.below hB) (HG.out.below hB)).mono ?_
      rintro e w1 ⟨rfl, hB1⟩
      have hB2 := hB.trans (hB1.mono hsz)
      clear hB1 hr f0 f1 f2 f3
      cases hv : (t.kid j).vld 115 with
      | true =>
        have HN : Hid (Tree.allTo (fun i => (t.kid i).vld 115) (j + 1) = true) := by show _ = _; rw [Tree.allTo_succ, HA.out, hv]; rfl
        go_wp2_with fail
        go_roundw
        case rel => exact ⟨j + 1, by omega, by go_num, HN.out, hB2⟩
        case measure => simp [intOf]; omega
      | false =>
        have HN : Hid (Tree.allTo (fun i => (t.kid i).vld 115) t.len = false) := Tree.allTo_false hlt hv
        go_wp2_with fail
        go_ret
        exact ⟨_, rfl, by rw [HN.out]; simp, hB2⟩
    · obtain rfl : j = t.len := by omega
      go_wp2_with fail
      go_ret
      exact ⟨_, rfl, by rw [HA.out]; rfl, hB⟩

theorem containsStmt_of {t : Tree} (H : ∀ i, i < t.len → ValidAt (t.kid i)) (w : World) (a : Option Addr) (c : Nat) (hr : Rep w t a) (hg : SignsIn w) :
    Calls Tryd.prog 70 #[.slice a t.len c, .func (.func 71) #[] #[]] w fun e w' => e = .returned (.bool (!Tree.allTo (fun i => (t.kid i).vld 115) t.len)) ∧ Below w.heap.size w w' := by
  go_enter Tryd.func70, Tryd.ntmps70
  go_wp2_with fail
  refine (indexStmt_of H _ a c hr hg).mono ?_
  rintro e w1 ⟨r, rfl, hq, hB1⟩
  have HQ := Lib.hid hq
  clear hq H
  go_wp2_with fail
  go_ret
  exact ⟨ret_bool' HQ.out, hB1⟩
end Go.Proofs.YtgochgcchkdlmaaDoor
