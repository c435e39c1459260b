/-
  Contracts: the forms of nodes (package ast).
-/
import Derived.Test.YtnegdmhmhdojbaaDoorAstPlain
import Derived.Test.YtnegdmhmhdojbaaDoorLexFirst
namespace Go.Proofs.YtnegdmhmhdojbaaDoor
set_option linter.unusedVariables false
set_option linter.unusedSimpArgs false
open Go.RowKit
set_option maxRecDepth 100000

theorem formOf_1 (w : World) : Calls Tryd.prog 93 #[.int .u8 1] w fun e w' => e = .returned (.agg #[.bool false, .int .i64 0, .int .i64 2147483647, .string ⟨#[]⟩]) ∧ Below w.heap.size w w' := by
  go_enter Tryd.func93, Tryd.ntmps93
  go_wp2_with fail
  exact bodyPost_ret (v := .agg #[.bool false, .int .i64 0, .int .i64 2147483647, .string ⟨#[]⟩]) (by simp [results, Tryd.results93, go_sem]) rfl ⟨rfl, by repeat (first | exact Below.refl _ _ | refine Below.alloc ?_ (by simp) _ | refine Below.setCell ?_ (by simp) _)⟩

theorem formOf_2 (w : World) : Calls Tryd.prog 93 #[.int .u8 2] w fun e w' => e = .returned (.agg #[.bool true, .int .i64 0, .int .i64 0, .string ⟨#[]⟩]) ∧ Below w.heap.size w w' := by
  go_enter Tryd.func93, Tryd.ntmps93
  go_wp2_with fail
  exact bodyPost_ret (v := .agg #[.bool true, .int .i64 0, .int .i64 0, .string ⟨#[]⟩]) (by simp [results, Tryd.results93, go_sem]) rfl ⟨rfl, by repeat (first | exact Below.refl _ _ | refine Below.alloc ?_ (by simp) _ | refine Below.setCell ?_ (by simp) _)⟩

theorem formOf_3 (w : World) : Calls Tryd.prog 93 #[.int .u8 3] w fun e w' => e = .returned (.agg #[.bool true, .int .i64 0, .int .i64 0, .string ⟨#[101]⟩]) ∧ Below w.heap.size w w' := by
  go_enter Tryd.func93, Tryd.ntmps93
  go_wp2_with fail
  exact bodyPost_ret (v := .agg #[.bool true, .int .i64 0, .int .i64 0, .string ⟨#[101]⟩]) (by simp [results, Tryd.results93, go_sem]) rfl ⟨rfl, by repeat (first | exact Below.refl _ _ | refine Below.alloc ?_ (by simp) _ | refine Below.setCell ?_ (by simp) _)⟩

theorem formOf_4 (w : World) : Calls Tryd.prog 93 #[.int .u8 4] w fun e w' => e = .returned (.agg #[.bool false, .int .i64 0, .int .i64 0, .string ⟨#[101]⟩]) ∧ Below w.heap.size w w' := by
  go_enter Tryd.func93, Tryd.ntmps93
  go_wp2_with fail
  exact bodyPost_ret (v := .agg #[.bool false, .int .i64 0, .int .i64 0, .string ⟨#[101]⟩]) (by simp [results, Tryd.results93, go_sem]) rfl ⟨rfl, by repeat (first | exact Below.refl _ _ | refine Below.alloc ?_ (by simp) _ | refine Below.setCell ?_ (by simp) _)⟩

theorem formOf_5 (w : World) : Calls Tryd.prog 93 #[.int .u8 5] w fun e w' => e = .returned (.agg #[.bool false, .int .i64 0, .int .i64 0, .string ⟨#[101]⟩]) ∧ Below w.heap.size w w' := by
  go_enter Tryd.func93, Tryd.ntmps93
  go_wp2_with fail
  exact bodyPost_ret (v := .agg #[.bool false, .int .i64 0, .int .i64 0, .string ⟨#[101]⟩]) (by simp [results, Tryd.results93, go_sem]) rfl ⟨rfl, by repeat (first | exact Below.refl _ _ | refine Below.alloc ?_ (by simp) _ | refine Below.setCell ?_ (by simp) _)⟩

theorem formOf_40 (w : World) : Calls Tryd.prog 93 #[.int .u8 40] w fun e w' => e = .returned (.agg #[.bool false, .int .i64 0, .int .i64 0, .string ⟨#[112, 101]⟩]) ∧ Below w.heap.size w w' := by
  go_enter Tryd.func93, Tryd.ntmps93
  go_wp2_with fail
  exact bodyPost_ret (v := .agg #[.bool false, .int .i64 0, .int .i64 0, .string ⟨#[112, 101]⟩]) (by simp [results, Tryd.results93, go_sem]) rfl ⟨rfl, by repeat (first | exact Below.refl _ _ | refine Below.alloc ?_ (by simp) _ | refine Below.setCell ?_ (by simp) _)⟩

theorem formOf_41 (w : World) : Calls Tryd.prog 93 #[.int .u8 41] w fun e w' => e = .returned (.agg #[.bool false, .int .i64 0, .int .i64 0, .string ⟨#[101, 98, 98]⟩]) ∧ Below w.heap.size w w' := by
  go_enter Tryd.func93, Tryd.ntmps93
  go_wp2_with fail
  exact bodyPost_ret (v := .agg #[.bool false, .int .i64 0, .int .i64 0, .string ⟨#[101, 98, 98]⟩]) (by simp [results, Tryd.results93, go_sem]) rfl ⟨rfl, by repeat (first | exact Below.refl _ _ | refine Below.alloc ?_ (by simp) _ | refine Below.setCell ?_ (by simp) _)⟩

theorem formOf_42 (w : World) : Calls Tryd.prog 93 #[.int .u8 42] w fun e w' => e = .returned (.agg #[.bool true, .int .i64 1, .int .i64 1000, .string ⟨#[98]⟩]) ∧ Below w.heap.size w w' := by
  go_enter Tryd.func93, Tryd.ntmps93
  go_wp2_with fail
  exact bodyPost_ret (v := .agg #[.bool true, .int .i64 1, .int .i64 1000, .string ⟨#[98]⟩]) (by simp [results, Tryd.results93, go_sem]) rfl ⟨rfl, by repeat (first | exact Below.refl _ _ | refine Below.alloc ?_ (by simp) _ | refine Below.setCell ?_ (by simp) _)⟩

theorem formOf_43 (w : World) : Calls Tryd.prog 93 #[.int .u8 43] w fun e w' => e = .returned (.agg #[.bool false, .int .i64 1, .int .i64 1000, .string ⟨#[101, 98]⟩]) ∧ Below w.heap.size w w' := by
  go_enter Tryd.func93, Tryd.ntmps93
  go_wp2_with fail
  exact bodyPost_ret (v := .agg #[.bool false, .int .i64 1, .int .i64 1000, .string ⟨#[101, 98]⟩]) (by simp [results, Tryd.results93, go_sem]) rfl ⟨rfl, by repeat (first | exact Below.refl _ _ | refine Below.alloc ?_ (by simp) _ | refine Below.setCell ?_ (by simp) _)⟩

theorem formOf_44 (w : World) : Calls Tryd.prog 93 #[.int .u8 44] w fun e w' => e = .returned (.agg #[.bool false, .int .i64 0, .int .i64 7, .string ⟨#[112]⟩]) ∧ Below w.heap.size w w' := by
  go_enter Tryd.func93, Tryd.ntmps93
  go_wp2_with fail
  exact bodyPost_ret (v := .agg #[.bool false, .int .i64 0, .int .i64 7, .string ⟨#[112]⟩]) (by simp [results, Tryd.results93, go_sem]) rfl ⟨rfl, by repeat (first | exact Below.refl _ _ | refine Below.alloc ?_ (by simp) _ | refine Below.setCell ?_ (by simp) _)⟩

theorem formOf_45 (w : World) : Calls Tryd.prog 93 #[.int .u8 45] w fun e w' => e = .returned (.agg #[.bool false, .int .i64 0, .int .i64 7, .string ⟨#[101]⟩]) ∧ Below w.heap.size w w' := by
  go_enter Tryd.func93, Tryd.ntmps93
  go_wp2_with fail
  exact bodyPost_ret (v := .agg #[.bool false, .int .i64 0, .int .i64 7, .string ⟨#[101]⟩]) (by simp [results, Tryd.results93, go_sem]) rfl ⟨rfl, by repeat (first | exact Below.refl _ _ | refine Below.alloc ?_ (by simp) _ | refine Below.setCell ?_ (by simp) _)⟩

theorem formOf_46 (w : World) : Calls Tryd.prog 93 #[.int .u8 46] w fun e w' => e = .returned (.agg #[.bool true, .int .i64 0, .int .i64 0, .string ⟨#[98]⟩]) ∧ Below w.heap.size w w' := by
  go_enter Tryd.func93, Tryd.ntmps93
  go_wp2_with fail
  exact bodyPost_ret (v := .agg #[.bool true, .int .i64 0, .int .i64 0, .string ⟨#[98]⟩]) (by simp [results, Tryd.results93, go_sem]) rfl ⟨rfl, by repeat (first | exact Below.refl _ _ | refine Below.alloc ?_ (by simp) _ | refine Below.setCell ?_ (by simp) _)⟩

theorem formOf_else (k : Int) (_hk : 0 ≤ k ∧ k ≤ 255) (h : ¬ (k = 1 ∨ k = 2 ∨ k = 3 ∨ k = 4 ∨ k = 5 ∨ k = 40 ∨ k = 41 ∨ k = 42 ∨ k = 43 ∨ k = 44 ∨ k = 45 ∨ k = 46)) (w : World) : Calls Tryd.prog 93 #[.int .u8 k] w fun e w' => e = .returned (.agg #[.bool false, .int .i64 0, .int .i64 0, .string ⟨#[101, 101]⟩]) ∧ Below w.heap.size w w' := by
  have b1 : (k == 1) = false := by simp; omega
  have b2 : (k == 2) = false := by simp; omega
  have b3 : (k == 3) = false := by simp; omega
  have b4 : (k == 4) = false := by simp; omega
  have b5 : (k == 5) = false := by simp; omega
  have b40 : (k == 40) = false := by simp; omega
  have b41 : (k == 41) = false := by simp; omega
  have b42 : (k == 42) = false := by simp; omega
  have b43 : (k == 43) = false := by simp; omega
  have b44 : (k == 44) = false := by simp; omega
  have b45 : (k == 45) = false := by simp; omega
  have b46 : (k == 46) = false := by simp; omega
  clear h
  go_enter Tryd.func93, Tryd.ntmps93
  go_wp2_with fail
  exact bodyPost_ret (v := .agg #[.bool false, .int .i64 0, .int .i64 0, .string ⟨#[101, 101]⟩]) (by simp [results, Tryd.results93, go_sem]) rfl ⟨rfl, by repeat (first | exact Below.refl _ _ | refine Below.alloc ?_ (by simp) _ | refine Below.setCell ?_ (by simp) _)⟩

theorem formOf_any (k : Int) (hk : 0 ≤ k ∧ k ≤ 255) (w : World) :
    Calls Tryd.prog 93 #[.int .u8 k] w fun e w' => e = .returned (.agg #[.bool (Fm.name k), .int .i64 (Fm.lo k), .int .i64 (Fm.hi k), .string ⟨(Fm.kids k).toArray⟩]) ∧ Below w.heap.size w w' := by
  by_cases h : k = 1 ∨ k = 2 ∨ k = 3 ∨ k = 4 ∨ k = 5 ∨ k = 40 ∨ k = 41 ∨ k = 42 ∨ k = 43 ∨ k = 44 ∨ k = 45 ∨ k = 46
  · rcases h with rfl | rfl | rfl | rfl | rfl | rfl | rfl | rfl | rfl | rfl | rfl | rfl
    · exact formOf_1 w
    · exact formOf_2 w
    · exact formOf_3 w
    · exact formOf_4 w
    · exact formOf_5 w
    · exact formOf_40 w
    · exact formOf_41 w
    · exact formOf_42 w
    · exact formOf_43 w
    · exact formOf_44 w
    · exact formOf_45 w
    · exact formOf_46 w
  · have e := Fm.row_else k h
    unfold Fm.name Fm.lo Fm.hi Fm.kids
    rw [e]
    exact formOf_else k hk h w

theorem belongs_any (k c : Int) (hk : 0 ≤ k ∧ k ≤ 255) (hc : Fm.cat c) (w : World) :
    Calls Tryd.prog 89 #[.int .u8 k, .int .u8 c] w fun e w' => e = .returned (.bool (Fm.belongs k c)) ∧ w = w' := by
  have key : ∀ b : Bool, Fm.belongs k c = b → Calls Tryd.prog 89 #[.int .u8 k, .int .u8 c] w fun e w' => e = .returned (.bool b) ∧ w = w' := by
    intro b hb
    have HB := Lib.hid hb
    clear hb
    rcases hc with rfl | rfl | rfl | rfl
    · by_cases h1 : 1 ≤ k
      · by_cases h2 : k ≤ 23
        all_goals
          go_enter Tryd.func89, Tryd.ntmps89
          go_wp2_with fail
          go_ret
          exact ⟨ret_bool' (by rw [← HB.out]; simp [Fm.belongs]; omega), rfl⟩
      · go_enter Tryd.func89, Tryd.ntmps89
        go_wp2_with fail
        go_ret
        exact ⟨ret_bool' (by rw [← HB.out]; simp [Fm.belongs]; omega), rfl⟩
    · by_cases h1 : k = 2
      · subst h1
        go_enter Tryd.func89, Tryd.ntmps89
        go_wp2_with fail
        go_ret
        exact ⟨ret_bool' (by rw [← HB.out]; rfl), rfl⟩
      · have q : (k == 2) = false := by simpa using h1
        go_enter Tryd.func89, Tryd.ntmps89
        go_wp2_with fail
        go_ret
        exact ⟨ret_bool' (by rw [← HB.out]; simp [Fm.belongs, h1]; rfl), rfl⟩
    · by_cases h1 : 40 ≤ k
      · by_cases h2 : k < 47
        all_goals
          go_enter Tryd.func89, Tryd.ntmps89
          go_wp2_with fail
          go_ret
          exact ⟨ret_bool' (by rw [← HB.out]; simp [Fm.belongs]; omega), rfl⟩
      · go_enter Tryd.func89, Tryd.ntmps89
        go_wp2_with fail
        go_ret
        exact ⟨ret_bool' (by rw [← HB.out]; simp [Fm.belongs]; omega), rfl⟩
    · go_enter Tryd.func89, Tryd.ntmps89
      go_wp2_with fail
      go_ret
      exact ⟨ret_bool' (by rw [← HB.out]; simp [Fm.belongs]; rfl), rfl⟩
  exact key _ rfl
end Go.Proofs.YtnegdmhmhdojbaaDoor
