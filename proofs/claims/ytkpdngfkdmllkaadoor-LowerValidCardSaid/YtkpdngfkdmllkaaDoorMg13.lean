/-
  Mg13: several texts in one (AstForm, AstValid, Ref11, Ref11Kind).
-/
import Derived.Test.YtkpdngfkdmllkaaDoorMg10
import Derived.Test.YtkpdngfkdmllkaaDoorLexFirst
import Derived.StillTailTactics
import Derived.Deep.RegionWith
import Derived.Deep.QuietTactic
import Derived.BigQuiet
import Derived.Deep.Cut
import Derived.Deep.CutRange
import Derived.Deep.DeepCutAuto
/-
  Contracts: the forms of nodes (package ast).
-/
namespace Go.Proofs.YtkpdngfkdmllkaaDoor
set_option linter.unusedVariables false
set_option linter.unusedSimpArgs false
open Go.RowKit
set_option maxRecDepth 100000

theorem formOf_1 (w : World) : Calls Tryd.prog 97 #[.int .u8 1] w fun e w' => e = .returned (.agg #[.bool false, .int .i64 0, .int .i64 2147483647, .string ⟨#[]⟩]) ∧ Below w.heap.size w w' := by
  go_enter Tryd.func97, Tryd.ntmps97
  go_wp2_with fail
  exact bodyPost_ret (v := .agg #[.bool false, .int .i64 0, .int .i64 2147483647, .string ⟨#[]⟩]) (by simp [results, Tryd.results97, go_sem]) rfl ⟨rfl, by repeat (first | exact Below.refl _ _ | refine Below.alloc ?_ (by simp) _ | refine Below.setCell ?_ (by simp) _)⟩

theorem formOf_2 (w : World) : Calls Tryd.prog 97 #[.int .u8 2] w fun e w' => e = .returned (.agg #[.bool true, .int .i64 0, .int .i64 0, .string ⟨#[]⟩]) ∧ Below w.heap.size w w' := by
  go_enter Tryd.func97, Tryd.ntmps97
  go_wp2_with fail
  exact bodyPost_ret (v := .agg #[.bool true, .int .i64 0, .int .i64 0, .string ⟨#[]⟩]) (by simp [results, Tryd.results97, go_sem]) rfl ⟨rfl, by repeat (first | exact Below.refl _ _ | refine Below.alloc ?_ (by simp) _ | refine Below.setCell ?_ (by simp) _)⟩

theorem formOf_3 (w : World) : Calls Tryd.prog 97 #[.int .u8 3] w fun e w' => e = .returned (.agg #[.bool true, .int .i64 0, .int .i64 0, .string ⟨#[101]⟩]) ∧ Below w.heap.size w w' := by
  go_enter Tryd.func97, Tryd.ntmps97
  go_wp2_with fail
  exact bodyPost_ret (v := .agg #[.bool true, .int .i64 0, .int .i64 0, .string ⟨#[101]⟩]) (by simp [results, Tryd.results97, go_sem]) rfl ⟨rfl, by repeat (first | exact Below.refl _ _ | refine Below.alloc ?_ (by simp) _ | refine Below.setCell ?_ (by simp) _)⟩

theorem formOf_4 (w : World) : Calls Tryd.prog 97 #[.int .u8 4] w fun e w' => e = .returned (.agg #[.bool false, .int .i64 0, .int .i64 0, .string ⟨#[101]⟩]) ∧ Below w.heap.size w w' := by
  go_enter Tryd.func97, Tryd.ntmps97
  go_wp2_with fail
  exact bodyPost_ret (v := .agg #[.bool false, .int .i64 0, .int .i64 0, .string ⟨#[101]⟩]) (by simp [results, Tryd.results97, go_sem]) rfl ⟨rfl, by repeat (first | exact Below.refl _ _ | refine Below.alloc ?_ (by simp) _ | refine Below.setCell ?_ (by simp) _)⟩

theorem formOf_5 (w : World) : Calls Tryd.prog 97 #[.int .u8 5] w fun e w' => e = .returned (.agg #[.bool false, .int .i64 0, .int .i64 0, .string ⟨#[101]⟩]) ∧ Below w.heap.size w w' := by
  go_enter Tryd.func97, Tryd.ntmps97
  go_wp2_with fail
  exact bodyPost_ret (v := .agg #[.bool false, .int .i64 0, .int .i64 0, .string ⟨#[101]⟩]) (by simp [results, Tryd.results97, go_sem]) rfl ⟨rfl, by repeat (first | exact Below.refl _ _ | refine Below.alloc ?_ (by simp) _ | refine Below.setCell ?_ (by simp) _)⟩

theorem formOf_40 (w : World) : Calls Tryd.prog 97 #[.int .u8 40] w fun e w' => e = .returned (.agg #[.bool false, .int .i64 0, .int .i64 0, .string ⟨#[112, 101]⟩]) ∧ Below w.heap.size w w' := by
  go_enter Tryd.func97, Tryd.ntmps97
  go_wp2_with fail
  exact bodyPost_ret (v := .agg #[.bool false, .int .i64 0, .int .i64 0, .string ⟨#[112, 101]⟩]) (by simp [results, Tryd.results97, go_sem]) rfl ⟨rfl, by repeat (first | exact Below.refl _ _ | refine Below.alloc ?_ (by simp) _ | refine Below.setCell ?_ (by simp) _)⟩

theorem formOf_41 (w : World) : Calls Tryd.prog 97 #[.int .u8 41] w fun e w' => e = .returned (.agg #[.bool false, .int .i64 0, .int .i64 0, .string ⟨#[101, 98, 98]⟩]) ∧ Below w.heap.size w w' := by
  go_enter Tryd.func97, Tryd.ntmps97
  go_wp2_with fail
  exact bodyPost_ret (v := .agg #[.bool false, .int .i64 0, .int .i64 0, .string ⟨#[101, 98, 98]⟩]) (by simp [results, Tryd.results97, go_sem]) rfl ⟨rfl, by repeat (first | exact Below.refl _ _ | refine Below.alloc ?_ (by simp) _ | refine Below.setCell ?_ (by simp) _)⟩

theorem formOf_42 (w : World) : Calls Tryd.prog 97 #[.int .u8 42] w fun e w' => e = .returned (.agg #[.bool true, .int .i64 1, .int .i64 1000, .string ⟨#[98]⟩]) ∧ Below w.heap.size w w' := by
  go_enter Tryd.func97, Tryd.ntmps97
  go_wp2_with fail
  exact bodyPost_ret (v := .agg #[.bool true, .int .i64 1, .int .i64 1000, .string ⟨#[98]⟩]) (by simp [results, Tryd.results97, go_sem]) rfl ⟨rfl, by repeat (first | exact Below.refl _ _ | refine Below.alloc ?_ (by simp) _ | refine Below.setCell ?_ (by simp) _)⟩

theorem formOf_43 (w : World) : Calls Tryd.prog 97 #[.int .u8 43] w fun e w' => e = .returned (.agg #[.bool false, .int .i64 1, .int .i64 1000, .string ⟨#[101, 98]⟩]) ∧ Below w.heap.size w w' := by
  go_enter Tryd.func97, Tryd.ntmps97
  go_wp2_with fail
  exact bodyPost_ret (v := .agg #[.bool false, .int .i64 1, .int .i64 1000, .string ⟨#[101, 98]⟩]) (by simp [results, Tryd.results97, go_sem]) rfl ⟨rfl, by repeat (first | exact Below.refl _ _ | refine Below.alloc ?_ (by simp) _ | refine Below.setCell ?_ (by simp) _)⟩

theorem formOf_44 (w : World) : Calls Tryd.prog 97 #[.int .u8 44] w fun e w' => e = .returned (.agg #[.bool false, .int .i64 0, .int .i64 7, .string ⟨#[112]⟩]) ∧ Below w.heap.size w w' := by
  go_enter Tryd.func97, Tryd.ntmps97
  go_wp2_with fail
  exact bodyPost_ret (v := .agg #[.bool false, .int .i64 0, .int .i64 7, .string ⟨#[112]⟩]) (by simp [results, Tryd.results97, go_sem]) rfl ⟨rfl, by repeat (first | exact Below.refl _ _ | refine Below.alloc ?_ (by simp) _ | refine Below.setCell ?_ (by simp) _)⟩

theorem formOf_45 (w : World) : Calls Tryd.prog 97 #[.int .u8 45] w fun e w' => e = .returned (.agg #[.bool false, .int .i64 0, .int .i64 7, .string ⟨#[101]⟩]) ∧ Below w.heap.size w w' := by
  go_enter Tryd.func97, Tryd.ntmps97
  go_wp2_with fail
  exact bodyPost_ret (v := .agg #[.bool false, .int .i64 0, .int .i64 7, .string ⟨#[101]⟩]) (by simp [results, Tryd.results97, go_sem]) rfl ⟨rfl, by repeat (first | exact Below.refl _ _ | refine Below.alloc ?_ (by simp) _ | refine Below.setCell ?_ (by simp) _)⟩

theorem formOf_46 (w : World) : Calls Tryd.prog 97 #[.int .u8 46] w fun e w' => e = .returned (.agg #[.bool true, .int .i64 0, .int .i64 0, .string ⟨#[98]⟩]) ∧ Below w.heap.size w w' := by
  go_enter Tryd.func97, Tryd.ntmps97
  go_wp2_with fail
  exact bodyPost_ret (v := .agg #[.bool true, .int .i64 0, .int .i64 0, .string ⟨#[98]⟩]) (by simp [results, Tryd.results97, go_sem]) rfl ⟨rfl, by repeat (first | exact Below.refl _ _ | refine Below.alloc ?_ (by simp) _ | refine Below.setCell ?_ (by simp) _)⟩

theorem formOf_else (k : Int) (_hk : 0 ≤ k ∧ k ≤ 255) (h : ¬ (k = 1 ∨ k = 2 ∨ k = 3 ∨ k = 4 ∨ k = 5 ∨ k = 40 ∨ k = 41 ∨ k = 42 ∨ k = 43 ∨ k = 44 ∨ k = 45 ∨ k = 46)) (w : World) : Calls Tryd.prog 97 #[.int .u8 k] w fun e w' => e = .returned (.agg #[.bool false, .int .i64 0, .int .i64 0, .string ⟨#[101, 101]⟩]) ∧ Below w.heap.size w w' := by
  have b1 : (k == 1) = false := by simp; omega
  have b2 : (k == 2) = false := by simp; omega
  have b3 : (k == 3) = false := by simp; omega
  have b4 : (k == 4) = false := by simp; omega
  have b5 : (k == 5) = false := by simp; omega
  have b40 : (k == 40) = false := by simp; omega
  have b41 : (k == 41) = false := by simp; omega
  have b42 : (k == 42) = false := by simp; omega
  have b43 : (k == 43) = false := by simp; omega
  have b44 : (k == 44) = false := by simp; omega
  have b45 : (k == 45) = false := by simp; omega
  have b46 : (k == 46) = false := by simp; omega
  clear h
  go_enter Tryd.func97, Tryd.ntmps97
  go_wp2_with fail
  exact bodyPost_ret (v := .agg #[.bool false, .int .i64 0, .int .i64 0, .string ⟨#[101, 101]⟩]) (by simp [results, Tryd.results97, go_sem]) rfl ⟨rfl, by repeat (first | exact Below.refl _ _ | refine Below.alloc ?_ (by simp) _ | refine Below.setCell ?_ (by simp) _)⟩

theorem formOf_any (k : Int) (hk : 0 ≤ k ∧ k ≤ 255) (w : World) :
    Calls Tryd.prog 97 #[.int .u8 k] w fun e w' => e = .returned (.agg #[.bool (Fm.name k), .int .i64 (Fm.lo k), .int .i64 (Fm.hi k), .string ⟨(Fm.kids k).toArray⟩]) ∧ Below w.heap.size w w' := by
  by_cases h : k = 1 ∨ k = 2 ∨ k = 3 ∨ k = 4 ∨ k = 5 ∨ k = 40 ∨ k = 41 ∨ k = 42 ∨ k = 43 ∨ k = 44 ∨ k = 45 ∨ k = 46
  · rcases h with rfl | rfl | rfl | rfl | rfl | rfl | rfl | rfl | rfl | rfl | rfl | rfl
    · exact formOf_1 w
    · exact formOf_2 w
    · exact formOf_3 w
    · exact formOf_4 w
    · exact formOf_5 w
    · exact formOf_40 w
    · exact formOf_41 w
    · exact formOf_42 w
    · exact formOf_43 w
    · exact formOf_44 w
    · exact formOf_45 w
    · exact formOf_46 w
  · have e := Fm.row_else k h
    unfold Fm.name Fm.lo Fm.hi Fm.kids
    rw [e]
    exact formOf_else k hk h w

theorem belongs_any (k c : Int) (hk : 0 ≤ k ∧ k ≤ 255) (hc : Fm.cat c) (w : World) :
    Calls Tryd.prog 93 #[.int .u8 k, .int .u8 c] w fun e w' => e = .returned (.bool (Fm.belongs k c)) ∧ w = w' := by
  have key : ∀ b : Bool, Fm.belongs k c = b → Calls Tryd.prog 93 #[.int .u8 k, .int .u8 c] w fun e w' => e = .returned (.bool b) ∧ w = w' := by
    intro b hb
    have HB := Lib.hid hb
    clear hb
    rcases hc with rfl | rfl | rfl | rfl
    · by_cases h1 : 1 ≤ k
      · by_cases h2 : k ≤ 23
        all_goals
          go_enter Tryd.func93, Tryd.ntmps93
          go_wp2_with fail
          go_ret
          exact ⟨ret_bool' (by rw [← HB.out]; simp [Fm.belongs]; omega), rfl⟩
      · go_enter Tryd.func93, Tryd.ntmps93
        go_wp2_with fail
        go_ret
        exact ⟨ret_bool' (by rw [← HB.out]; simp [Fm.belongs]; omega), rfl⟩
    · by_cases h1 : k = 2
      · subst h1
        go_enter Tryd.func93, Tryd.ntmps93
        go_wp2_with fail
        go_ret
        exact ⟨ret_bool' (by rw [← HB.out]; rfl), rfl⟩
      · have q : (k == 2) = false := by simpa using h1
        go_enter Tryd.func93, Tryd.ntmps93
        go_wp2_with fail
        go_ret
        exact ⟨ret_bool' (by rw [← HB.out]; simp [Fm.belongs, h1]; rfl), rfl⟩
    · by_cases h1 : 40 ≤ k
      · by_cases h2 : k < 47
        all_goals
          go_enter Tryd.func93, Tryd.ntmps93
          go_wp2_with fail
          go_ret
          exact ⟨ret_bool' (by rw [← HB.out]; simp [Fm.belongs]; omega), rfl⟩
      · go_enter Tryd.func93, Tryd.ntmps93
        go_wp2_with fail
        go_ret
        exact ⟨ret_bool' (by rw [← HB.out]; simp [Fm.belongs]; omega), rfl⟩
    · go_enter Tryd.func93, Tryd.ntmps93
      go_wp2_with fail
      go_ret
      exact ⟨ret_bool' (by rw [← HB.out]; simp [Fm.belongs]; rfl), rfl⟩
  exact key _ rfl
end Go.Proofs.YtkpdngfkdmllkaaDoor

/-
  Contracts: which trees are valid (package ast).
-/
namespace Go.Proofs.YtkpdngfkdmllkaaDoor
set_option linter.unusedVariables false
set_option linter.unusedSimpArgs false
open Go.RowKit
set_option maxRecDepth 100000

/-- what isValid does at a tree -/
def ValidAt (t : Tree) : Prop := ∀ (w : World) (a : Option Addr) (c : Nat) (k : Int), Rep w t a → Fm.cat k → SignsIn w →
  Calls Tryd.prog 73 #[t.val a c, .int .u8 k] w fun e w' => e = .returned (.bool (t.vld k)) ∧ Below w.heap.size w w'

theorem isStmt_of {t : Tree} (H : ValidAt t) (w : World) (a : Option Addr) (c : Nat) (hr : Rep w t a) (hg : SignsIn w) :
    Calls Tryd.prog 96 #[t.val a c] w fun e w' => e = .returned (.bool (t.vld 115)) ∧ Below w.heap.size w w' := by
  have hB0 : Below w.heap.size w (w.alloc (.cells #[.int .u8 t.kind, .int .i64 t.num, .string t.name, .slice a t.len c] 35)) := (Below.refl _ _).alloc (Nat.le_refl _) _
  have HR := Lib.hid (hr.below hB0)
  have HG := Lib.hid (hg.below hB0)
  clear hr hg
  go_enter Tryd.func96, Tryd.ntmps96
  go_wp2_with fail
  refine (H _ a c 115 HR.out (by unfold Fm.cat; omega) HG.out).mono ?_
  rintro e w1 ⟨rfl, hB1⟩
  have hB2 := hB0.trans (hB1.mono (by simp))
  clear hB1
  go_wp2_with fail
  go_ret
  exact ⟨rfl, hB2⟩
theorem noStmt_of {t : Tree} (H : ValidAt t) (w : World) (a : Option Addr) (c : Nat) (hr : Rep w t a) (hg : SignsIn w) :
    Calls Tryd.prog 95 #[t.val a c] w fun e w' => e = .returned (.bool (!t.vld 115)) ∧ Below w.heap.size w w' := by
  have hB0 : Below w.heap.size w (w.alloc (.cells #[.int .u8 t.kind, .int .i64 t.num, .string t.name, .slice a t.len c] 35)) := (Below.refl _ _).alloc (Nat.le_refl _) _
  have HR := Lib.hid (hr.below hB0)
  have HG := Lib.hid (hg.below hB0)
  clear hr hg
  go_enter Tryd.func95, Tryd.ntmps95
  go_wp2_with fail
  refine (isStmt_of H _ a c HR.out HG.out).mono ?_
  rintro e w1 ⟨rfl, hB1⟩
  have hB2 := hB0.trans (hB1.mono (by simp))
  clear hB1
  go_wp2_with fail
  go_ret
  exact ⟨rfl, hB2⟩

/-- an index, not negative just where something is not all -/
def SomeIndex (q : Bool) (w : World) (e : Ending) (w' : World) : Prop := ∃ r : Int, e = .returned (.int .i64 r) ∧ (decide (0 ≤ r) = !q) ∧ Below w.heap.size w w'

set_option maxHeartbeats 1000000 in
theorem indexStmt_of {t : Tree} (H : ∀ i, i < t.len → ValidAt (t.kid i)) (w : World) (a : Option Addr) (c : Nat) (hr : Rep w t a) (hg : SignsIn w) :
    Calls Tryd.prog 100 #[.slice a t.len c, .func (.func 95) #[] #[]] w (SomeIndex (Tree.allTo (fun i => (t.kid i).vld 115) t.len) w) := by
  have HH := Lib.hid H
  clear H
  have hl := hr.fits.len
  have HK := Lib.hid hr.kids
  have HG := Lib.hid hg
  clear hr hg
  go_enter Tryd.func100, Tryd.ntmps100
  go_wp2_with fail
  go_loopw [8] (fun i wr => ∃ j : Nat, j ≤ t.len ∧ i = .int .i64 j ∧ Tree.allTo (fun i => (t.kid i).vld 115) j = true ∧ Below w.heap.size w wr) (fun i _ => t.len - (intOf i).toNat)
  case atStart => exact ⟨0, Nat.zero_le _, rfl, rfl, Below.refl _ _⟩
  case round =>
    obtain ⟨j, hj, rfl, hall, hB⟩ := hrel
    have HA := Lib.hid hall
    clear hall
    have hsz := hB.size
    by_cases hlt : j < t.len
    · rcases HK.out with h0 | ⟨b, off, rfl, hc⟩
      · omega
      obtain ⟨ai, ci, hn, hr⟩ := hc j hlt
      obtain ⟨f0, f1, f2, f3⟩ := hn.below hB hn.lt
      clear hc hn
      go_wp2_with fail
      refine (noStmt_of (HH.out j hlt) _ ai ci (hr.below hB) (HG.out.below hB)).mono ?_
      rintro e w1 ⟨rfl, hB1⟩
      have hB2 := hB.trans (hB1.mono hsz)
      clear hB1 hr f0 f1 f2 f3
      cases hv : (t.kid j).vld 115 with
      | true =>
        have HN : Hid (Tree.allTo (fun i => (t.kid i).vld 115) (j + 1) = true) := by show _ = _; rw [Tree.allTo_succ, HA.out, hv]; rfl
        go_wp2_with fail
        go_roundw
        case rel => exact ⟨j + 1, by omega, by go_num, HN.out, hB2⟩
        case measure => simp [intOf]; omega
      | false =>
        have HN : Hid (Tree.allTo (fun i => (t.kid i).vld 115) t.len = false) := Tree.allTo_false hlt hv
        go_wp2_with fail
        go_ret
        exact ⟨_, rfl, by rw [HN.out]; simp, hB2⟩
    · obtain rfl : j = t.len := by omega
      go_wp2_with fail
      go_ret
      exact ⟨_, rfl, by rw [HA.out]; rfl, hB⟩

theorem containsStmt_of {t : Tree} (H : ∀ i, i < t.len → ValidAt (t.kid i)) (w : World) (a : Option Addr) (c : Nat) (hr : Rep w t a) (hg : SignsIn w) :
    Calls Tryd.prog 94 #[.slice a t.len c, .func (.func 95) #[] #[]] w fun e w' => e = .returned (.bool (!Tree.allTo (fun i => (t.kid i).vld 115) t.len)) ∧ Below w.heap.size w w' := by
  go_enter Tryd.func94, Tryd.ntmps94
  go_wp2_with fail
  refine (indexStmt_of H _ a c hr hg).mono ?_
  rintro e w1 ⟨r, rfl, hq, hB1⟩
  have HQ := Lib.hid hq
  clear hq H
  go_wp2_with fail
  go_ret
  exact ⟨ret_bool' HQ.out, hB1⟩
end Go.Proofs.YtkpdngfkdmllkaaDoor

/-
  Contracts: names, by the reference of layer 11.
-/
namespace Go.Proofs.YtkpdngfkdmllkaaDoor
set_option linter.unusedVariables false
set_option linter.unusedSimpArgs false
open Go.RowKit
set_option maxRecDepth 100000

def KW : Array Value := #[.string ⟨#[97, 114, 114, 97, 121]⟩, .string ⟨#[98, 111, 117, 110, 100]⟩, .string ⟨#[101, 108, 115, 101]⟩, .string ⟨#[102, 111, 114]⟩, .string ⟨#[105, 102]⟩, .string ⟨#[105, 110]⟩, .string ⟨#[108, 111, 99, 107]⟩, .string ⟨#[111, 117, 116]⟩, .string ⟨#[112, 101, 114, 105, 111, 100]⟩, .string ⟨#[115, 104, 97, 114, 101, 100]⟩, .string ⟨#[116, 97, 115, 107]⟩, .string ⟨#[118, 97, 114]⟩, .string ⟨#[119, 104, 105, 108, 101]⟩]
def kwAt (j : Nat) : ByteArray := ⟨(Lx.kws.getD j []).toArray⟩
theorem KW_at (j : Nat) (h : j < 13) : KW[j]? = some (.string (kwAt j)) := by
  have hc : j = 0 ∨ j = 1 ∨ j = 2 ∨ j = 3 ∨ j = 4 ∨ j = 5 ∨ j = 6 ∨ j = 7 ∨ j = 8 ∨ j = 9 ∨ j = 10 ∨ j = 11 ∨ j = 12 := by omega
  rcases hc with rfl | rfl | rfl | rfl | rfl | rfl | rfl | rfl | rfl | rfl | rfl | rfl | rfl <;> rfl
theorem SG_at (j : Nat) (h : j < 28) : SG[j]? = some (.string (signAt j)) := by
  have hc : j = 0 ∨ j = 1 ∨ j = 2 ∨ j = 3 ∨ j = 4 ∨ j = 5 ∨ j = 6 ∨ j = 7 ∨ j = 8 ∨ j = 9 ∨ j = 10 ∨ j = 11 ∨ j = 12 ∨ j = 13 ∨ j = 14 ∨ j = 15 ∨ j = 16 ∨ j = 17 ∨ j = 18 ∨ j = 19 ∨ j = 20 ∨ j = 21 ∨ j = 22 ∨ j = 23 ∨ j = 24 ∨ j = 25 ∨ j = 26 ∨ j = 27 := by omega
  rcases hc with rfl | rfl | rfl | rfl | rfl | rfl | rfl | rfl | rfl | rfl | rfl | rfl | rfl | rfl | rfl | rfl | rfl | rfl | rfl | rfl | rfl | rfl | rfl | rfl | rfl | rfl | rfl | rfl <;> rfl
/-- whether one of the first strings is a string -/
def inTo (f : Nat → ByteArray) (s : ByteArray) : Nat → Bool
  | 0 => false
  | n + 1 => inTo f s n || ((f n).toList == s.toList)
theorem inTo_succ (f : Nat → ByteArray) (s : ByteArray) (n : Nat) : inTo f s (n + 1) = (inTo f s n || ((f n).toList == s.toList)) := rfl
theorem inTo_true {f : Nat → ByteArray} {s : ByteArray} {i n : Nat} (hi : i < n) (h : ((f i).toList == s.toList) = true) : inTo f s n = true := by
  induction n with
  | zero => omega
  | succ n ih =>
    rw [inTo_succ]
    by_cases e : i = n
    · subst e; rw [h]; simp
    · rw [ih (by omega)]; rfl

/-- the word so far -/
def wordTo (s : ByteArray) (j : Nat) : Bool := (match s.toList with | [] => false | c :: _ => Lx.letter c.toNat) && (s.toList.take j).all (fun c => Lx.inner c.toNat)
theorem take_snoc' (s : ByteArray) (k : Nat) (h : k < s.size) : s.toList.take (k + 1) = s.toList.take k ++ [s[k]] := by
  rw [List.take_succ_eq_append_getElem (by simpa [ByteArray.toList_eq] using h)]; congr 2; simp [ByteArray.toList_eq]; rfl
theorem wordTo_succ (s : ByteArray) (j : Nat) (h : j < s.size) : wordTo s (j + 1) = (wordTo s j && Lx.inner s[j].toNat) := by
  unfold wordTo; rw [take_snoc' s j h, List.all_append, Bool.and_assoc]; simp
theorem wordTo_zero (s : ByteArray) (h : 0 < s.size) : wordTo s 0 = Lx.letter s[0].toNat := by
  unfold wordTo; rw [toList_cons s h]; simp
theorem wordTo_all (s : ByteArray) (h : 0 < s.size) : wordTo s s.size = Lx.startOk s.toList := by
  have hl := toList_len s
  unfold wordTo; rw [List.take_of_length_le (by omega), toList_cons s h]
  simp only [Lx.startOk, List.all_cons]
  cases hq : Lx.letter s[0].toNat
  · rfl
  · simp [Lx.inner, hq]

/-- a kind, 1 just for words -/
def KindIs (q : Bool) (w : World) (e : Ending) (w' : World) : Prop := ∃ k : Int, e = .returned (.int .u8 k) ∧ ((k == 1) = q) ∧ (0 ≤ k ∧ k ≤ 5) ∧ Below w.heap.size w w'
end Go.Proofs.YtkpdngfkdmllkaaDoor

/-
  Contracts: the kind of a token, and names, by the reference of layer 11.
-/
namespace Go.Proofs.YtkpdngfkdmllkaaDoor
set_option linter.unusedVariables false
set_option linter.unusedSimpArgs false
open Go.RowKit
set_option maxRecDepth 100000

theorem inTo_iff (f : Nat → ByteArray) (s : ByteArray) (n : Nat) : inTo f s n = true ↔ ∃ i, i < n ∧ (f i).toList = s.toList := by
  induction n with
  | zero => simp [inTo]
  | succ n ih =>
    rw [inTo_succ, Bool.or_eq_true, ih]
    constructor
    · rintro (⟨i, hi, h⟩ | h)
      · exact ⟨i, by omega, h⟩
      · exact ⟨n, by omega, by simpa using h⟩
    · rintro ⟨i, hi, h⟩
      by_cases e : i = n
      · subst e; exact .inr (by simpa using h)
      · exact .inl ⟨i, by omega, h⟩
theorem keyword_inTo (s : ByteArray) : inTo kwAt s 13 = Lx.keyword s.toList := by
  rw [Bool.eq_iff_iff, inTo_iff]
  unfold Lx.keyword
  rw [List.contains_iff_mem]
  constructor
  · rintro ⟨i, hi, h⟩
    rw [← h]
    have : ∀ i, i < 13 → Lx.kws.getD i [] ∈ Lx.kws := by decide
    have e : (kwAt i).toList = Lx.kws.getD i [] := by simp [kwAt, ByteArray.toList_eq]
    rw [e]; exact this i hi
  · intro h
    obtain ⟨i, hi⟩ := List.getElem?_of_mem h
    have hl : i < 13 := (List.getElem?_eq_some_iff.1 hi).1
    refine ⟨i, hl, ?_⟩
    have e : (kwAt i).toList = Lx.kws.getD i [] := by simp [kwAt, ByteArray.toList_eq]
    rw [e, List.getD_eq_getElem?_getD, hi]; rfl

end Go.Proofs.YtkpdngfkdmllkaaDoor
