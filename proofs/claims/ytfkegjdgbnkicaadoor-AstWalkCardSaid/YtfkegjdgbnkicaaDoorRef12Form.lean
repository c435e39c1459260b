/-
  Contracts: the forms of nodes, by the reference of layer 12.
-/
import Derived.Test.YtfkegjdgbnkicaaDoorAstPlain
import Derived.Test.YtfkegjdgbnkicaaDoorRef11Kind
namespace Go.Proofs.YtfkegjdgbnkicaaDoor
open Go.RowKit
set_option maxRecDepth 100000

theorem ret_u8 {a b : Int} (h : a = b) : Ending.returned (.int .u8 a) = .returned (.int .u8 b) := by rw [h]
namespace Fr
def ok (k : Int) : Bool := decide ((1 ≤ k ∧ k ≤ 23) ∨ (40 ≤ k ∧ k ≤ 47))
def num (k : Int) : Bool := decide (k = 1 ∨ k = 42 ∨ k = 43 ∨ k = 44 ∨ k = 45)
def f (k : Int) : List UInt8 := if k = 47 then [42] else Fm.kids k
def cat (k : Int) : Int := if 1 ≤ k ∧ k ≤ 23 then 101 else if 40 ≤ k ∧ k ≤ 46 then 115 else 98
end Fr

theorem refForm_1 (w : World) : Calls Tryd.prog 62 #[.int .u8 1] w fun e w' => e = .returned (.tuple #[.string ⟨#[]⟩, .bool false, .bool true, .bool true]) ∧ w = w' := by
  go_enter Tryd.func62, Tryd.ntmps62
  go_wp2_with fail
  exact bodyPost_ret (v := .tuple #[.string ⟨#[]⟩, .bool false, .bool true, .bool true]) (by simp [results, Tryd.results62, go_sem]) rfl ⟨rfl, rfl⟩

theorem refForm_2 (w : World) : Calls Tryd.prog 62 #[.int .u8 2] w fun e w' => e = .returned (.tuple #[.string ⟨#[]⟩, .bool true, .bool false, .bool true]) ∧ w = w' := by
  go_enter Tryd.func62, Tryd.ntmps62
  go_wp2_with fail
  exact bodyPost_ret (v := .tuple #[.string ⟨#[]⟩, .bool true, .bool false, .bool true]) (by simp [results, Tryd.results62, go_sem]) rfl ⟨rfl, rfl⟩

theorem refForm_3 (w : World) : Calls Tryd.prog 62 #[.int .u8 3] w fun e w' => e = .returned (.tuple #[.string ⟨#[101]⟩, .bool true, .bool false, .bool true]) ∧ w = w' := by
  go_enter Tryd.func62, Tryd.ntmps62
  go_wp2_with fail
  exact bodyPost_ret (v := .tuple #[.string ⟨#[101]⟩, .bool true, .bool false, .bool true]) (by simp [results, Tryd.results62, go_sem]) rfl ⟨rfl, rfl⟩

theorem refForm_4 (w : World) : Calls Tryd.prog 62 #[.int .u8 4] w fun e w' => e = .returned (.tuple #[.string ⟨#[101]⟩, .bool false, .bool false, .bool true]) ∧ w = w' := by
  go_enter Tryd.func62, Tryd.ntmps62
  go_wp2_with fail
  exact bodyPost_ret (v := .tuple #[.string ⟨#[101]⟩, .bool false, .bool false, .bool true]) (by simp [results, Tryd.results62, go_sem]) rfl ⟨rfl, rfl⟩

theorem refForm_5 (w : World) : Calls Tryd.prog 62 #[.int .u8 5] w fun e w' => e = .returned (.tuple #[.string ⟨#[101]⟩, .bool false, .bool false, .bool true]) ∧ w = w' := by
  go_enter Tryd.func62, Tryd.ntmps62
  go_wp2_with fail
  exact bodyPost_ret (v := .tuple #[.string ⟨#[101]⟩, .bool false, .bool false, .bool true]) (by simp [results, Tryd.results62, go_sem]) rfl ⟨rfl, rfl⟩

theorem refForm_40 (w : World) : Calls Tryd.prog 62 #[.int .u8 40] w fun e w' => e = .returned (.tuple #[.string ⟨#[112, 101]⟩, .bool false, .bool false, .bool true]) ∧ w = w' := by
  go_enter Tryd.func62, Tryd.ntmps62
  go_wp2_with fail
  exact bodyPost_ret (v := .tuple #[.string ⟨#[112, 101]⟩, .bool false, .bool false, .bool true]) (by simp [results, Tryd.results62, go_sem]) rfl ⟨rfl, rfl⟩

theorem refForm_41 (w : World) : Calls Tryd.prog 62 #[.int .u8 41] w fun e w' => e = .returned (.tuple #[.string ⟨#[101, 98, 98]⟩, .bool false, .bool false, .bool true]) ∧ w = w' := by
  go_enter Tryd.func62, Tryd.ntmps62
  go_wp2_with fail
  exact bodyPost_ret (v := .tuple #[.string ⟨#[101, 98, 98]⟩, .bool false, .bool false, .bool true]) (by simp [results, Tryd.results62, go_sem]) rfl ⟨rfl, rfl⟩

theorem refForm_42 (w : World) : Calls Tryd.prog 62 #[.int .u8 42] w fun e w' => e = .returned (.tuple #[.string ⟨#[98]⟩, .bool true, .bool true, .bool true]) ∧ w = w' := by
  go_enter Tryd.func62, Tryd.ntmps62
  go_wp2_with fail
  exact bodyPost_ret (v := .tuple #[.string ⟨#[98]⟩, .bool true, .bool true, .bool true]) (by simp [results, Tryd.results62, go_sem]) rfl ⟨rfl, rfl⟩

theorem refForm_43 (w : World) : Calls Tryd.prog 62 #[.int .u8 43] w fun e w' => e = .returned (.tuple #[.string ⟨#[101, 98]⟩, .bool false, .bool true, .bool true]) ∧ w = w' := by
  go_enter Tryd.func62, Tryd.ntmps62
  go_wp2_with fail
  exact bodyPost_ret (v := .tuple #[.string ⟨#[101, 98]⟩, .bool false, .bool true, .bool true]) (by simp [results, Tryd.results62, go_sem]) rfl ⟨rfl, rfl⟩

theorem refForm_44 (w : World) : Calls Tryd.prog 62 #[.int .u8 44] w fun e w' => e = .returned (.tuple #[.string ⟨#[112]⟩, .bool false, .bool true, .bool true]) ∧ w = w' := by
  go_enter Tryd.func62, Tryd.ntmps62
  go_wp2_with fail
  exact bodyPost_ret (v := .tuple #[.string ⟨#[112]⟩, .bool false, .bool true, .bool true]) (by simp [results, Tryd.results62, go_sem]) rfl ⟨rfl, rfl⟩

theorem refForm_45 (w : World) : Calls Tryd.prog 62 #[.int .u8 45] w fun e w' => e = .returned (.tuple #[.string ⟨#[101]⟩, .bool false, .bool true, .bool true]) ∧ w = w' := by
  go_enter Tryd.func62, Tryd.ntmps62
  go_wp2_with fail
  exact bodyPost_ret (v := .tuple #[.string ⟨#[101]⟩, .bool false, .bool true, .bool true]) (by simp [results, Tryd.results62, go_sem]) rfl ⟨rfl, rfl⟩

theorem refForm_46 (w : World) : Calls Tryd.prog 62 #[.int .u8 46] w fun e w' => e = .returned (.tuple #[.string ⟨#[98]⟩, .bool true, .bool false, .bool true]) ∧ w = w' := by
  go_enter Tryd.func62, Tryd.ntmps62
  go_wp2_with fail
  exact bodyPost_ret (v := .tuple #[.string ⟨#[98]⟩, .bool true, .bool false, .bool true]) (by simp [results, Tryd.results62, go_sem]) rfl ⟨rfl, rfl⟩

theorem refForm_47 (w : World) : Calls Tryd.prog 62 #[.int .u8 47] w fun e w' => e = .returned (.tuple #[.string ⟨#[42]⟩, .bool false, .bool false, .bool true]) ∧ w = w' := by
  go_enter Tryd.func62, Tryd.ntmps62
  go_wp2_with fail
  exact bodyPost_ret (v := .tuple #[.string ⟨#[42]⟩, .bool false, .bool false, .bool true]) (by simp [results, Tryd.results62, go_sem]) rfl ⟨rfl, rfl⟩

theorem refForm_bin (k : Int) (hk : 6 ≤ k ∧ k ≤ 23) (w : World) : Calls Tryd.prog 62 #[.int .u8 k] w fun e w' => e = .returned (.tuple #[.string ⟨#[101, 101]⟩, .bool false, .bool false, .bool true]) ∧ w = w' := by
  obtain ⟨h1, h2⟩ := hk
  go_enter Tryd.func62, Tryd.ntmps62
  go_wp2_with fail
  exact bodyPost_ret (v := .tuple #[.string ⟨#[101, 101]⟩, .bool false, .bool false, .bool true]) (by simp [results, Tryd.results62, go_sem]) rfl ⟨rfl, rfl⟩
theorem refForm_none (k : Int) (hk : 0 ≤ k ∧ k ≤ 255) (h : Fr.ok k = false) (w : World) : Calls Tryd.prog 62 #[.int .u8 k] w fun e w' => e = .returned (.tuple #[.string ⟨#[]⟩, .bool false, .bool false, .bool false]) ∧ w = w' := by
  have h' : k < 1 ∨ (23 < k ∧ k < 40) ∨ 47 < k := by simp [Fr.ok] at h; omega
  clear h
  rcases h' with h | ⟨h, h2⟩ | h
  all_goals
    go_enter Tryd.func62, Tryd.ntmps62
    go_wp2_with fail
    exact bodyPost_ret (v := .tuple #[.string ⟨#[]⟩, .bool false, .bool false, .bool false]) (by simp [results, Tryd.results62, go_sem]) rfl ⟨rfl, rfl⟩
theorem refForm_any (k : Int) (hk : 0 ≤ k ∧ k ≤ 255) (h : Fr.ok k = true) (w : World) :
    Calls Tryd.prog 62 #[.int .u8 k] w fun e w' => e = .returned (.tuple #[.string ⟨(Fr.f k).toArray⟩, .bool (Fm.name k), .bool (Fr.num k), .bool true]) ∧ w = w' := by
  have h' : (6 ≤ k ∧ k ≤ 23) ∨ k = 1 ∨ k = 2 ∨ k = 3 ∨ k = 4 ∨ k = 5 ∨ k = 40 ∨ k = 41 ∨ k = 42 ∨ k = 43 ∨ k = 44 ∨ k = 45 ∨ k = 46 ∨ k = 47 := by simp [Fr.ok] at h; omega
  rcases h' with h | rfl | rfl | rfl | rfl | rfl | rfl | rfl | rfl | rfl | rfl | rfl | rfl | rfl
  · have e := Fm.row_else k (by omega)
    have e1 : Fr.f k = [101, 101] := by unfold Fr.f Fm.kids; rw [if_neg (by omega), e]
    have e2 : Fm.name k = false := by unfold Fm.name; rw [e]
    have e3 : Fr.num k = false := by simp [Fr.num]; omega
    rw [e1, e2, e3]
    exact refForm_bin k h w
  · exact refForm_1 w
  · exact refForm_2 w
  · exact refForm_3 w
  · exact refForm_4 w
  · exact refForm_5 w
  · exact refForm_40 w
  · exact refForm_41 w
  · exact refForm_42 w
  · exact refForm_43 w
  · exact refForm_44 w
  · exact refForm_45 w
  · exact refForm_46 w
  · exact refForm_47 w

theorem refCat_any (k : Int) (hk : 0 ≤ k ∧ k ≤ 255) (w : World) :
    Calls Tryd.prog 63 #[.int .u8 k] w fun e w' => e = .returned (.int .u8 (Fr.cat k)) ∧ w = w' := by
  have h' : k < 1 ∨ (1 ≤ k ∧ k ≤ 23) ∨ (23 < k ∧ k < 40) ∨ (40 ≤ k ∧ k ≤ 46) ∨ 46 < k := by omega
  have key : ∀ c : Int, Fr.cat k = c → Calls Tryd.prog 63 #[.int .u8 k] w fun e w' => e = .returned (.int .u8 c) ∧ w = w' := by
    intro c hc
    have HC := Lib.hid hc
    clear hc
    rcases h' with h | ⟨h, h2⟩ | ⟨h, h2⟩ | ⟨h, h2⟩ | h
    all_goals
      go_enter Tryd.func63, Tryd.ntmps63
      go_wp2_with fail
      all_goals go_ret
      all_goals exact ⟨ret_u8 (by rw [← HC.out]; unfold Fr.cat; (repeat' split) <;> omega), rfl⟩
  exact key _ rfl

theorem refBounds_1 (w : World) : Calls Tryd.prog 64 #[.int .u8 1] w fun e w' => e = .returned (.tuple #[.int .i64 0, .int .i64 2147483647]) ∧ w = w' := by
  go_enter Tryd.func64, Tryd.ntmps64
  go_wp2_with fail
  go_ret2
  exact ⟨rfl, rfl⟩

theorem refBounds_42 (w : World) : Calls Tryd.prog 64 #[.int .u8 42] w fun e w' => e = .returned (.tuple #[.int .i64 1, .int .i64 1000]) ∧ w = w' := by
  go_enter Tryd.func64, Tryd.ntmps64
  go_wp2_with fail
  go_ret2
  exact ⟨rfl, rfl⟩

theorem refBounds_43 (w : World) : Calls Tryd.prog 64 #[.int .u8 43] w fun e w' => e = .returned (.tuple #[.int .i64 1, .int .i64 1000]) ∧ w = w' := by
  go_enter Tryd.func64, Tryd.ntmps64
  go_wp2_with fail
  go_ret2
  exact ⟨rfl, rfl⟩

theorem refBounds_44 (w : World) : Calls Tryd.prog 64 #[.int .u8 44] w fun e w' => e = .returned (.tuple #[.int .i64 0, .int .i64 7]) ∧ w = w' := by
  go_enter Tryd.func64, Tryd.ntmps64
  go_wp2_with fail
  go_ret2
  exact ⟨rfl, rfl⟩

theorem refBounds_45 (w : World) : Calls Tryd.prog 64 #[.int .u8 45] w fun e w' => e = .returned (.tuple #[.int .i64 0, .int .i64 7]) ∧ w = w' := by
  go_enter Tryd.func64, Tryd.ntmps64
  go_wp2_with fail
  go_ret2
  exact ⟨rfl, rfl⟩

theorem refBounds_else (k : Int) (_hk : 0 ≤ k ∧ k ≤ 255) (h : ¬ (k = 1 ∨ k = 42 ∨ k = 43 ∨ k = 44 ∨ k = 45)) (w : World) : Calls Tryd.prog 64 #[.int .u8 k] w fun e w' => e = .returned (.tuple #[.int .i64 0, .int .i64 0]) ∧ w = w' := by
  have b1 : (k == 1) = false := by simp; omega
  have b2 : (k == 42) = false := by simp; omega
  have b3 : (k == 43) = false := by simp; omega
  have b4 : (k == 44) = false := by simp; omega
  have b5 : (k == 45) = false := by simp; omega
  clear h
  go_enter Tryd.func64, Tryd.ntmps64
  go_wp2_with fail
  go_ret2
  exact ⟨rfl, rfl⟩
theorem Fm.num_else (k : Int) (h : ¬ (k = 1 ∨ k = 42 ∨ k = 43 ∨ k = 44 ∨ k = 45)) : Fm.lo k = 0 ∧ Fm.hi k = 0 := by
  by_cases hk : k = 2 ∨ k = 3 ∨ k = 4 ∨ k = 5 ∨ k = 40 ∨ k = 41 ∨ k = 46
  · rcases hk with rfl | rfl | rfl | rfl | rfl | rfl | rfl <;> exact ⟨rfl, rfl⟩
  · have e := Fm.row_else k (by omega)
    unfold Fm.lo Fm.hi; rw [e]; exact ⟨rfl, rfl⟩
theorem refBounds_any (k : Int) (hk : 0 ≤ k ∧ k ≤ 255) (w : World) :
    Calls Tryd.prog 64 #[.int .u8 k] w fun e w' => e = .returned (.tuple #[.int .i64 (Fm.lo k), .int .i64 (Fm.hi k)]) ∧ w = w' := by
  by_cases h : k = 1 ∨ k = 42 ∨ k = 43 ∨ k = 44 ∨ k = 45
  · rcases h with rfl | rfl | rfl | rfl | rfl
    · exact refBounds_1 w
    · exact refBounds_42 w
    · exact refBounds_43 w
    · exact refBounds_44 w
    · exact refBounds_45 w
  · rw [(Fm.num_else k h).1, (Fm.num_else k h).2]; exact refBounds_else k hk h w
end Go.Proofs.YtfkegjdgbnkicaaDoor
