/-
  InBases: several texts in one (WordCalls, WordUnary, InP, InMem).
-/
import Derived.Test.YtgochgcchkdlmaaDoorProg
import Derived.Test.YtgochgcchkdlmaaDoorPlainBase
import Derived.WalkKit
import Derived.Outline
import Derived.Lib.Hide
import Derived.Test.YtgochgcchkdlmaaDoorAstForms
import Derived.Test.YtgochgcchkdlmaaDoorMemSet
import Derived.WalkLawsBesides
import Derived.Deep.QuietTactic
import Derived.BigQuiet
/-
  Contracts: what word.Apply returns.
-/
namespace Go.Proofs.YtgochgcchkdlmaaDoor
set_option linter.unusedVariables false
set_option linter.unusedSimpArgs false
open Go.RowKit
set_option maxRecDepth 100000
set_option linter.unusedVariables false

theorem ret2_int {k j : IntKind} {a b c d : Int} (h : a = c) (g : b = d) : Ending.returned (.tuple #[.int k a, .int j b]) = .returned (.tuple #[.int k c, .int j d]) := by rw [h, g]
theorem ret_int {k : IntKind} {a b : Int} (h : a = b) : Ending.returned (.int k a) = .returned (.int k b) := by rw [h]

theorem truth_any (b : Bool) (w : World) : Calls Tryd.prog 97 #[.bool b] w fun e w' => e = .returned (.int .i32 (Wd.tr b)) ∧ w = w' := by
  cases b
  all_goals
    go_enter Tryd.func97, Tryd.ntmps97
    go_wp2
    go_ret
    exact ⟨rfl, rfl⟩

set_option maxHeartbeats 400000 in
theorem ap6 (x y : Int) (hx : Wd.W x) (hy : Wd.W y) (w : World) :
    Calls Tryd.prog 68 #[.int .u8 6, .int .i32 x, .int .i32 y] w fun e w' => e = .returned (.tuple #[.int .i32 (wrap32 (x + y)), .int .i64 0]) ∧ w = w' := by
  unfold Wd.W at hx hy
  go_enter Tryd.func68, Tryd.ntmps68
  go_wp2_with (fail)
  go_ret2
  exact ⟨ret2_int rfl rfl, rfl⟩

set_option maxHeartbeats 400000 in
theorem ap7 (x y : Int) (hx : Wd.W x) (hy : Wd.W y) (w : World) :
    Calls Tryd.prog 68 #[.int .u8 7, .int .i32 x, .int .i32 y] w fun e w' => e = .returned (.tuple #[.int .i32 (wrap32 (x - y)), .int .i64 0]) ∧ w = w' := by
  unfold Wd.W at hx hy
  go_enter Tryd.func68, Tryd.ntmps68
  go_wp2_with (fail)
  go_ret2
  exact ⟨ret2_int rfl rfl, rfl⟩

set_option maxHeartbeats 400000 in
theorem ap8 (x y : Int) (hx : Wd.W x) (hy : Wd.W y) (w : World) :
    Calls Tryd.prog 68 #[.int .u8 8, .int .i32 x, .int .i32 y] w fun e w' => e = .returned (.tuple #[.int .i32 (wrap32 (x * y)), .int .i64 0]) ∧ w = w' := by
  unfold Wd.W at hx hy
  go_enter Tryd.func68, Tryd.ntmps68
  go_wp2_with (fail)
  go_ret2
  exact ⟨ret2_int rfl rfl, rfl⟩

set_option maxHeartbeats 400000 in
theorem ap9 (x y : Int) (hx : Wd.W x) (hy : Wd.W y) (h0 : (y == 0) = false) (h1 : ¬ y = 0) (w : World) :
    Calls Tryd.prog 68 #[.int .u8 9, .int .i32 x, .int .i32 y] w fun e w' => e = .returned (.tuple #[.int .i32 (wrap32 (x.tdiv y)), .int .i64 0]) ∧ w = w' := by
  unfold Wd.W at hx hy
  go_enter Tryd.func68, Tryd.ntmps68
  go_wp2_with (fail)
  go_ret2
  exact ⟨ret2_int rfl rfl, rfl⟩

set_option maxHeartbeats 400000 in
theorem ap9z (x y : Int) (hx : Wd.W x) (hy : Wd.W y) (h0 : (y == 0) = true) (w : World) :
    Calls Tryd.prog 68 #[.int .u8 9, .int .i32 x, .int .i32 y] w fun e w' => e = .returned (.tuple #[.int .i32 (0), .int .i64 9]) ∧ w = w' := by
  unfold Wd.W at hx hy
  go_enter Tryd.func68, Tryd.ntmps68
  go_wp2_with (fail)
  go_ret2
  exact ⟨ret2_int rfl rfl, rfl⟩

set_option maxHeartbeats 400000 in
theorem ap10 (x y : Int) (hx : Wd.W x) (hy : Wd.W y) (h0 : (y == 0) = false) (h1 : ¬ y = 0) (w : World) :
    Calls Tryd.prog 68 #[.int .u8 10, .int .i32 x, .int .i32 y] w fun e w' => e = .returned (.tuple #[.int .i32 (x.tmod y), .int .i64 0]) ∧ w = w' := by
  unfold Wd.W at hx hy
  go_enter Tryd.func68, Tryd.ntmps68
  go_wp2_with (fail)
  go_ret2
  exact ⟨ret2_int rfl rfl, rfl⟩

set_option maxHeartbeats 400000 in
theorem ap10z (x y : Int) (hx : Wd.W x) (hy : Wd.W y) (h0 : (y == 0) = true) (w : World) :
    Calls Tryd.prog 68 #[.int .u8 10, .int .i32 x, .int .i32 y] w fun e w' => e = .returned (.tuple #[.int .i32 (0), .int .i64 9]) ∧ w = w' := by
  unfold Wd.W at hx hy
  go_enter Tryd.func68, Tryd.ntmps68
  go_wp2_with (fail)
  go_ret2
  exact ⟨ret2_int rfl rfl, rfl⟩

set_option maxHeartbeats 400000 in
theorem ap11 (x y : Int) (hx : Wd.W x) (hy : Wd.W y) (w : World) :
    Calls Tryd.prog 68 #[.int .u8 11, .int .i32 x, .int .i32 y] w fun e w' => e = .returned (.tuple #[.int .i32 (bits .and .i32 x y), .int .i64 0]) ∧ w = w' := by
  unfold Wd.W at hx hy
  go_enter Tryd.func68, Tryd.ntmps68
  go_wp2_with (fail)
  go_ret2
  exact ⟨ret2_int rfl rfl, rfl⟩

set_option maxHeartbeats 400000 in
theorem ap12 (x y : Int) (hx : Wd.W x) (hy : Wd.W y) (w : World) :
    Calls Tryd.prog 68 #[.int .u8 12, .int .i32 x, .int .i32 y] w fun e w' => e = .returned (.tuple #[.int .i32 (bits .or .i32 x y), .int .i64 0]) ∧ w = w' := by
  unfold Wd.W at hx hy
  go_enter Tryd.func68, Tryd.ntmps68
  go_wp2_with (fail)
  go_ret2
  exact ⟨ret2_int rfl rfl, rfl⟩

set_option maxHeartbeats 400000 in
theorem ap13 (x y : Int) (hx : Wd.W x) (hy : Wd.W y) (w : World) :
    Calls Tryd.prog 68 #[.int .u8 13, .int .i32 x, .int .i32 y] w fun e w' => e = .returned (.tuple #[.int .i32 (bits .xor .i32 x y), .int .i64 0]) ∧ w = w' := by
  unfold Wd.W at hx hy
  go_enter Tryd.func68, Tryd.ntmps68
  go_wp2_with (fail)
  go_ret2
  exact ⟨ret2_int rfl rfl, rfl⟩

set_option maxHeartbeats 400000 in
theorem ap14 (x y : Int) (hx : Wd.W x) (hy : Wd.W y) (w : World) :
    Calls Tryd.prog 68 #[.int .u8 14, .int .i32 x, .int .i32 y] w fun e w' => e = .returned (.tuple #[.int .i32 (wrap32 (x * 2 ^ (y % 32).toNat)), .int .i64 0]) ∧ w = w' := by
  unfold Wd.W at hx hy
  go_enter Tryd.func68, Tryd.ntmps68
  go_wp2_with (fail)
  go_ret2
  exact ⟨ret2_int rfl rfl, rfl⟩

set_option maxHeartbeats 400000 in
theorem ap15 (x y : Int) (hx : Wd.W x) (hy : Wd.W y) (w : World) :
    Calls Tryd.prog 68 #[.int .u8 15, .int .i32 x, .int .i32 y] w fun e w' => e = .returned (.tuple #[.int .i32 (x / 2 ^ (y % 32).toNat), .int .i64 0]) ∧ w = w' := by
  unfold Wd.W at hx hy
  go_enter Tryd.func68, Tryd.ntmps68
  go_wp2_with (fail)
  go_ret2
  exact ⟨ret2_int rfl rfl, rfl⟩

set_option maxHeartbeats 400000 in
theorem ap16 (x y : Int) (hx : Wd.W x) (hy : Wd.W y) (w : World) :
    Calls Tryd.prog 68 #[.int .u8 16, .int .i32 x, .int .i32 y] w fun e w' => e = .returned (.tuple #[.int .i32 (Wd.tr (x == y)), .int .i64 0]) ∧ w = w' := by
  unfold Wd.W at hx hy
  go_enter Tryd.func68, Tryd.ntmps68
  go_wp2_with (go_at_call 97; refine (truth_any _ _).mono ?_; rintro e w1 ⟨rfl, rfl⟩)
  go_ret2
  exact ⟨ret2_int rfl rfl, rfl⟩

set_option maxHeartbeats 400000 in
theorem ap17 (x y : Int) (hx : Wd.W x) (hy : Wd.W y) (w : World) :
    Calls Tryd.prog 68 #[.int .u8 17, .int .i32 x, .int .i32 y] w fun e w' => e = .returned (.tuple #[.int .i32 (Wd.tr (x != y)), .int .i64 0]) ∧ w = w' := by
  unfold Wd.W at hx hy
  go_enter Tryd.func68, Tryd.ntmps68
  go_wp2_with (go_at_call 97; refine (truth_any _ _).mono ?_; rintro e w1 ⟨rfl, rfl⟩)
  go_ret2
  exact ⟨ret2_int rfl rfl, rfl⟩

set_option maxHeartbeats 400000 in
theorem ap18 (x y : Int) (hx : Wd.W x) (hy : Wd.W y) (w : World) :
    Calls Tryd.prog 68 #[.int .u8 18, .int .i32 x, .int .i32 y] w fun e w' => e = .returned (.tuple #[.int .i32 (Wd.tr (decide (x < y))), .int .i64 0]) ∧ w = w' := by
  unfold Wd.W at hx hy
  go_enter Tryd.func68, Tryd.ntmps68
  go_wp2_with (go_at_call 97; refine (truth_any _ _).mono ?_; rintro e w1 ⟨rfl, rfl⟩)
  go_ret2
  exact ⟨ret2_int rfl rfl, rfl⟩

set_option maxHeartbeats 400000 in
theorem ap19 (x y : Int) (hx : Wd.W x) (hy : Wd.W y) (w : World) :
    Calls Tryd.prog 68 #[.int .u8 19, .int .i32 x, .int .i32 y] w fun e w' => e = .returned (.tuple #[.int .i32 (Wd.tr (decide (x ≤ y))), .int .i64 0]) ∧ w = w' := by
  unfold Wd.W at hx hy
  go_enter Tryd.func68, Tryd.ntmps68
  go_wp2_with (go_at_call 97; refine (truth_any _ _).mono ?_; rintro e w1 ⟨rfl, rfl⟩)
  go_ret2
  exact ⟨ret2_int rfl rfl, rfl⟩

set_option maxHeartbeats 400000 in
theorem ap20 (x y : Int) (hx : Wd.W x) (hy : Wd.W y) (w : World) :
    Calls Tryd.prog 68 #[.int .u8 20, .int .i32 x, .int .i32 y] w fun e w' => e = .returned (.tuple #[.int .i32 (Wd.tr (decide (y < x))), .int .i64 0]) ∧ w = w' := by
  unfold Wd.W at hx hy
  go_enter Tryd.func68, Tryd.ntmps68
  go_wp2_with (go_at_call 97; refine (truth_any _ _).mono ?_; rintro e w1 ⟨rfl, rfl⟩)
  go_ret2
  exact ⟨ret2_int rfl rfl, rfl⟩

set_option maxHeartbeats 400000 in
theorem ap21 (x y : Int) (hx : Wd.W x) (hy : Wd.W y) (w : World) :
    Calls Tryd.prog 68 #[.int .u8 21, .int .i32 x, .int .i32 y] w fun e w' => e = .returned (.tuple #[.int .i32 (Wd.tr (decide (y ≤ x))), .int .i64 0]) ∧ w = w' := by
  unfold Wd.W at hx hy
  go_enter Tryd.func68, Tryd.ntmps68
  go_wp2_with (go_at_call 97; refine (truth_any _ _).mono ?_; rintro e w1 ⟨rfl, rfl⟩)
  go_ret2
  exact ⟨ret2_int rfl rfl, rfl⟩

set_option maxHeartbeats 400000 in
theorem ap22 (x y : Int) (hx : Wd.W x) (hy : Wd.W y) (w : World) :
    Calls Tryd.prog 68 #[.int .u8 22, .int .i32 x, .int .i32 y] w fun e w' => e = .returned (.tuple #[.int .i32 (Wd.tr (x != 0 && y != 0)), .int .i64 0]) ∧ w = w' := by
  unfold Wd.W at hx hy
  have key : ∀ b : Bool, b = (x != 0 && y != 0) → Calls Tryd.prog 68 #[.int .u8 22, .int .i32 x, .int .i32 y] w fun e w' => e = .returned (.tuple #[.int .i32 (Wd.tr b), .int .i64 0]) ∧ w = w' := by
    intro b hb
    have HB := Lib.hid hb
    clear hb
    by_cases hx0 : x = 0
    · subst hx0
      by_cases hy0 : y = 0
      · subst hy0
        go_enter Tryd.func68, Tryd.ntmps68
        go_wp2_with (go_at_call 97; refine (truth_any _ _).mono ?_; rintro e w1 ⟨rfl, rfl⟩)
        go_ret2
        exact ⟨ret2_int (congrArg Wd.tr (by rw [HB.out]; simp)) rfl, rfl⟩
      · have hy1 : (y != 0) = true := by simpa using hy0
        go_enter Tryd.func68, Tryd.ntmps68
        go_wp2_with (go_at_call 97; refine (truth_any _ _).mono ?_; rintro e w1 ⟨rfl, rfl⟩)
        go_ret2
        exact ⟨ret2_int (congrArg Wd.tr (by rw [HB.out]; simp [hy0])) rfl, rfl⟩
    · have hx1 : (x != 0) = true := by simpa using hx0
      by_cases hy0 : y = 0
      · subst hy0
        go_enter Tryd.func68, Tryd.ntmps68
        go_wp2_with (go_at_call 97; refine (truth_any _ _).mono ?_; rintro e w1 ⟨rfl, rfl⟩)
        go_ret2
        exact ⟨ret2_int (congrArg Wd.tr (by rw [HB.out]; simp [hx0])) rfl, rfl⟩
      · have hy1 : (y != 0) = true := by simpa using hy0
        go_enter Tryd.func68, Tryd.ntmps68
        go_wp2_with (go_at_call 97; refine (truth_any _ _).mono ?_; rintro e w1 ⟨rfl, rfl⟩)
        go_ret2
        exact ⟨ret2_int (congrArg Wd.tr (by rw [HB.out]; simp [hx0, hy0])) rfl, rfl⟩
  exact key _ rfl

set_option maxHeartbeats 400000 in
theorem ap23 (x y : Int) (hx : Wd.W x) (hy : Wd.W y) (w : World) :
    Calls Tryd.prog 68 #[.int .u8 23, .int .i32 x, .int .i32 y] w fun e w' => e = .returned (.tuple #[.int .i32 (Wd.tr (x != 0 || y != 0)), .int .i64 0]) ∧ w = w' := by
  unfold Wd.W at hx hy
  have key : ∀ b : Bool, b = (x != 0 || y != 0) → Calls Tryd.prog 68 #[.int .u8 23, .int .i32 x, .int .i32 y] w fun e w' => e = .returned (.tuple #[.int .i32 (Wd.tr b), .int .i64 0]) ∧ w = w' := by
    intro b hb
    have HB := Lib.hid hb
    clear hb
    by_cases hx0 : x = 0
    · subst hx0
      by_cases hy0 : y = 0
      · subst hy0
        go_enter Tryd.func68, Tryd.ntmps68
        go_wp2_with (go_at_call 97; refine (truth_any _ _).mono ?_; rintro e w1 ⟨rfl, rfl⟩)
        go_ret2
        exact ⟨ret2_int (congrArg Wd.tr (by rw [HB.out]; simp)) rfl, rfl⟩
      · have hy1 : (y != 0) = true := by simpa using hy0
        go_enter Tryd.func68, Tryd.ntmps68
        go_wp2_with (go_at_call 97; refine (truth_any _ _).mono ?_; rintro e w1 ⟨rfl, rfl⟩)
        go_ret2
        exact ⟨ret2_int (congrArg Wd.tr (by rw [HB.out]; simp [hy0])) rfl, rfl⟩
    · have hx1 : (x != 0) = true := by simpa using hx0
      by_cases hy0 : y = 0
      · subst hy0
        go_enter Tryd.func68, Tryd.ntmps68
        go_wp2_with (go_at_call 97; refine (truth_any _ _).mono ?_; rintro e w1 ⟨rfl, rfl⟩)
        go_ret2
        exact ⟨ret2_int (congrArg Wd.tr (by rw [HB.out]; simp [hx0])) rfl, rfl⟩
      · have hy1 : (y != 0) = true := by simpa using hy0
        go_enter Tryd.func68, Tryd.ntmps68
        go_wp2_with (go_at_call 97; refine (truth_any _ _).mono ?_; rintro e w1 ⟨rfl, rfl⟩)
        go_ret2
        exact ⟨ret2_int (congrArg Wd.tr (by rw [HB.out]; simp [hx0, hy0])) rfl, rfl⟩
  exact key _ rfl

set_option maxHeartbeats 400000 in
theorem apElse (k x y : Int) (hk : 0 ≤ k ∧ k ≤ 255) (h : k < 6 ∨ 23 < k) (hx : Wd.W x) (hy : Wd.W y) (w : World) :
    Calls Tryd.prog 68 #[.int .u8 k, .int .i32 x, .int .i32 y] w fun e w' => e = .returned (.tuple #[.int .i32 0, .int .i64 1]) ∧ w = w' := by
  unfold Wd.W at hx hy
  rcases h with h | h
  all_goals
    go_enter Tryd.func68, Tryd.ntmps68
    go_wp2_with fail
    go_ret2
    exact ⟨rfl, rfl⟩

/-- word.Apply, whatever the operator. -/
theorem apply_any (k x y : Int) (hk : 0 ≤ k ∧ k ≤ 255) (hx : Wd.W x) (hy : Wd.W y) (w : World) :
    Calls Tryd.prog 68 #[.int .u8 k, .int .i32 x, .int .i32 y] w fun e w' => e = .returned (.tuple #[.int .i32 (Wd.apply k x y), .int .i64 (Wd.err k y)]) ∧ w = w' := by
  by_cases h : k < 6 ∨ 23 < k
  · rw [Wd.aelse k x y h, Wd.eelse k y h]; exact apElse k x y hk h hx hy w
  · have hc : k = 6 ∨ k = 7 ∨ k = 8 ∨ k = 9 ∨ k = 10 ∨ k = 11 ∨ k = 12 ∨ k = 13 ∨ k = 14 ∨ k = 15 ∨ k = 16 ∨ k = 17 ∨ k = 18 ∨ k = 19 ∨ k = 20 ∨ k = 21 ∨ k = 22 ∨ k = 23 := by omega
    by_cases h2 : (k = 9 ∨ k = 10) ∧ y = 0
    · obtain ⟨h2, rfl⟩ := h2
      rcases h2 with rfl | rfl
      · exact ap9z x 0 hx hy rfl w
      · exact ap10z x 0 hx hy rfl w
    · rw [Wd.e0 k y (by omega) h2]
      rcases hc with rfl | rfl | rfl | rfl | rfl | rfl | rfl | rfl | rfl | rfl | rfl | rfl | rfl | rfl | rfl | rfl | rfl | rfl
      · exact ap6 x y hx hy w
      · exact ap7 x y hx hy w
      · exact ap8 x y hx hy w
      · have hy0 : ¬ y = 0 := fun h => h2 ⟨by omega, h⟩
        rw [Wd.a9, if_neg hy0]
        exact ap9 x y hx hy (by simpa using hy0) hy0 w
      · have hy0 : ¬ y = 0 := fun h => h2 ⟨by omega, h⟩
        rw [Wd.a10, if_neg hy0]
        exact ap10 x y hx hy (by simpa using hy0) hy0 w
      · exact ap11 x y hx hy w
      · exact ap12 x y hx hy w
      · exact ap13 x y hx hy w
      · exact ap14 x y hx hy w
      · exact ap15 x y hx hy w
      · exact ap16 x y hx hy w
      · exact ap17 x y hx hy w
      · exact ap18 x y hx hy w
      · exact ap19 x y hx hy w
      · exact ap20 x y hx hy w
      · exact ap21 x y hx hy w
      · exact ap22 x y hx hy w
      · exact ap23 x y hx hy w

end Go.Proofs.YtgochgcchkdlmaaDoor

/-
  Contracts: what word.Unary returns.
-/
namespace Go.Proofs.YtgochgcchkdlmaaDoor
set_option linter.unusedVariables false
set_option linter.unusedSimpArgs false
open Go.RowKit
set_option maxRecDepth 100000

theorem un4 (x : Int) (hx : Wd.W x) (w : World) :
    Calls Tryd.prog 67 #[.int .u8 4, .int .i32 x] w fun e w' => e = .returned (.tuple #[.int .i32 (wrap32 (-x)), .int .i64 0]) ∧ w = w' := by
  unfold Wd.W at hx
  go_enter Tryd.func67, Tryd.ntmps67
  go_wp2_with fail
  go_ret2
  exact ⟨ret2_int rfl rfl, rfl⟩
theorem un5 (x : Int) (hx : Wd.W x) (w : World) :
    Calls Tryd.prog 67 #[.int .u8 5, .int .i32 x] w fun e w' => e = .returned (.tuple #[.int .i32 (Wd.tr (x == 0)), .int .i64 0]) ∧ w = w' := by
  unfold Wd.W at hx
  go_enter Tryd.func67, Tryd.ntmps67
  go_wp2_with (go_at_call 97; refine (truth_any _ _).mono ?_; rintro e w1 ⟨rfl, rfl⟩)
  go_ret2
  exact ⟨ret2_int rfl rfl, rfl⟩
theorem unElse (k x : Int) (hk : 0 ≤ k ∧ k ≤ 255) (h : k < 4 ∨ 5 < k) (hx : Wd.W x) (w : World) :
    Calls Tryd.prog 67 #[.int .u8 k, .int .i32 x] w fun e w' => e = .returned (.tuple #[.int .i32 0, .int .i64 1]) ∧ w = w' := by
  unfold Wd.W at hx
  rcases h with h | h
  all_goals
    go_enter Tryd.func67, Tryd.ntmps67
    go_wp2_with fail
    go_ret2
    exact ⟨rfl, rfl⟩
/-- word.Unary, whatever the operator. -/
theorem unary_any (k x : Int) (hk : 0 ≤ k ∧ k ≤ 255) (hx : Wd.W x) (w : World) :
    Calls Tryd.prog 67 #[.int .u8 k, .int .i32 x] w fun e w' => e = .returned (.tuple #[.int .i32 (Wd.unary k x), .int .i64 (Wd.uerr k)]) ∧ w = w' := by
  by_cases h4 : k = 4
  · subst h4; exact un4 x hx w
  · by_cases h5 : k = 5
    · subst h5; exact un5 x hx w
    · have e1 : Wd.unary k x = 0 := by unfold Wd.unary; rw [if_neg h4, if_neg h5]
      have e2 : Wd.uerr k = 1 := by unfold Wd.uerr; rw [if_neg (by omega)]
      rw [e1, e2]
      exact unElse k x hk (by omega) hx w
end Go.Proofs.YtgochgcchkdlmaaDoor

/-
  What a job does (package interp), plainly: expressions, statements, steps. No program is named here.
-/
namespace Go.Proofs.YtgochgcchkdlmaaDoor
set_option linter.unusedVariables false
set_option linter.unusedSimpArgs false
open Go.RowKit

/-- a value, or an error -/
inductive EV where
  | ok (v : Int)
  | er (e : Int)
def EV.bind : EV → (Int → EV) → EV
  | .ok v, f => f v
  | .er e, _ => .er e
/-- what the variables hold; what the arrays hold -/
abbrev VF := ByteArray → Option Int
abbrev AF := ByteArray → Option (List Int)
def elemV (l : List Int) (i : Int) : EV := if 0 ≤ i ∧ i < (l.length : Int) then .ok (l.getD i.toNat 0) else .er 11
def optV : Option Int → EV
  | some v => .ok v
  | none => .er 6
/-- an expression out of its parts' values -/
def evB (V : VF) (A : AF) (k n : Int) (s : ByteArray) (e0 e1 : EV) : EV :=
  if k = 1 then .ok (wrap32 n)
  else if k = 2 then optV (V s)
  else if k = 3 then (match A s with | none => .er 6 | some a => e0.bind (elemV a))
  else if k = 4 ∨ k = 5 then e0.bind fun x => .ok (Wd.unary k x)
  else e0.bind fun x => e1.bind fun y => if Wd.err k y = 0 then .ok (Wd.apply k x y) else .er (Wd.err k y)
def Tree.ev (V : VF) (A : AF) : Tree → EV
  | .node k n s l kid => evB V A k n s (if h : 0 < l then ev V A (kid ⟨0, h⟩) else .ok 0) (if h : 1 < l then ev V A (kid ⟨1, h⟩) else .ok 0)
theorem Tree.ev_eq (V : VF) (A : AF) (t : Tree) : t.ev V A = evB V A t.kind t.num t.name (if 0 < t.len then (t.kid 0).ev V A else .ok 0) (if 1 < t.len then (t.kid 1).ev V A else .ok 0) := by
  cases t with
  | node k n s l kid =>
    rw [Tree.ev]
    show evB V A k n s _ _ = evB V A k n s _ _
    congr 1
    · by_cases h : 0 < l
      · rw [dif_pos h, if_pos (show 0 < (Tree.node k n s l kid).len from h), Tree.kid_node h]
      · rw [dif_neg h, if_neg (show ¬ 0 < (Tree.node k n s l kid).len from h)]
    · by_cases h : 1 < l
      · rw [dif_pos h, if_pos (show 1 < (Tree.node k n s l kid).len from h), Tree.kid_node h]
      · rw [dif_neg h, if_neg (show ¬ 1 < (Tree.node k n s l kid).len from h)]
/-- the state of a job -/
structure St where
  V : VF
  A : AF
  out : List (Int × Int)
  rd : Nat
  st : Nat
/-- a state, and an error (0: none) -/
abbrev SR := St × Int
def SR.then (r : SR) (f : St → SR) : SR := if r.2 = 0 then f r.1 else r
theorem SR.then_ok {r : SR} {f : St → SR} (h : r.2 = 0) : r.then f = f r.1 := if_pos h
theorem SR.then_er {r : SR} {f : St → SR} (h : r.2 ≠ 0) : r.then f = r := if_neg h
def runE (v : EV) (s : St) (f : Int → SR) : SR :=
  match v with
  | .ok x => f x
  | .er e => (s, e)
/-- a step -/
def stp (F : Int) (s : St) : SR := if F ≤ (s.st : Int) then (s, 13) else ({ s with st := s.st + 1 }, 0)
def St.putV (s : St) (nm : ByteArray) (v : Option Int) : St := { s with V := upd s.V nm v }
def St.putA (s : St) (nm : ByteArray) (i v : Int) : SR :=
  match s.A nm with
  | none => (s, 11)
  | some a => if 0 ≤ i ∧ i < (a.length : Int) then ({ s with A := upd s.A nm (some (a.set i.toNat v)) }, 0) else (s, 11)
/-- the next value that a job receives -/
def nxt (inp : List Int) (s : St) : Int := inp.getD s.rd 0
def St.next (s : St) : St := { s with rd := s.rd + 1 }
def St.getA (inp : List Int) (s : St) (nm : ByteArray) (i : Int) : SR :=
  match s.A nm with
  | none => (s, 11)
  | some a => if 0 ≤ i ∧ i < (a.length : Int) then s.next.putA nm i (nxt inp s) else (s, 11)
/-- one after the other, as far as there is no error -/
def seqTo (f : Nat → St → SR) : Nat → St → SR
  | 0, s => (s, 0)
  | n + 1, s => (seqTo f n s).then (f n)
def whl (F : Int) (c : St → EV) (b : St → SR) : Nat → St → SR
  | 0, s => (stp F s).then fun s1 => runE (c s1) s1 fun x => if x = 0 then (s1, 0) else (s1, 11)
  | k + 1, s => (stp F s).then fun s1 => runE (c s1) s1 fun x => if x = 0 then (s1, 0) else (b s1).then (whl F c b k)
/-- one round of a For statement -/
def forR (F : Int) (nm : ByteArray) (b : St → SR) (i : Nat) (s : St) : SR := (stp F (s.putV nm (some (i : Int)))).then b
/-- a statement out of its parts (behind its step): p is the place, e the expressions, b the blocks -/
def exB (F : Int) (inp : List Int) (k n : Int) (nm : ByteArray) (p : Tree) (e : Nat → St → EV) (b : Nat → St → SR) (s : St) : SR :=
  if k = 40 then
    (if p.kind = 2 then runE (e 1 s) s fun v => (s.putV p.name (some v), 0)
     else runE ((p.kid 0).ev s.V s.A) s fun i => runE (e 1 s) s fun v => s.putA p.name i v)
  else if k = 41 then runE (e 0 s) s fun x => if x = 0 then b 2 s else b 1 s
  else if k = 42 then (seqTo (forR F nm (b 0)) n.toNat s).then fun s1 => (s1.putV nm none, 0)
  else if k = 43 then whl F (e 0) (b 1) n.toNat s
  else if k = 44 then
    (if p.kind = 2 then (s.next.putV p.name (some (nxt inp s)), 0)
     else runE ((p.kid 0).ev s.V s.A) s fun i => s.getA inp p.name i)
  else if k = 45 then runE (e 0 s) s fun v => ({ s with out := s.out ++ [(n, v)] }, 0)
  else b 0 s
/-- a block or a statement -/
def Tree.ex (F : Int) (inp : List Int) : Tree → St → SR
  | .node k n nm l kid => fun s =>
    if k = 47 then seqTo (fun i s1 => if h : i < l then ex F inp (kid ⟨i, h⟩) s1 else (s1, 0)) l s
    else (stp F s).then fun s1 => exB F inp k n nm (if h : 0 < l then kid ⟨0, h⟩ else .leaf 0 0 ByteArray.empty)
      (fun i s2 => if h : i < l then (kid ⟨i, h⟩).ev s2.V s2.A else .ok 0) (fun i s2 => if h : i < l then ex F inp (kid ⟨i, h⟩) s2 else (s2, 0)) s1
def kidE (t : Tree) (i : Nat) (s : St) : EV := if i < t.len then (t.kid i).ev s.V s.A else .ok 0
def kidX (F : Int) (inp : List Int) (t : Tree) (i : Nat) (s : St) : SR := if i < t.len then (t.kid i).ex F inp s else (s, 0)
theorem Tree.ex_eq (F : Int) (inp : List Int) (t : Tree) (s : St) : t.ex F inp s = if t.kind = 47 then seqTo (kidX F inp t) t.len s else (stp F s).then (exB F inp t.kind t.num t.name (t.kid 0) (kidE t) (kidX F inp t)) := by
  cases t with
  | node k n nm l kid =>
    rw [Tree.ex]
    have e1 : (fun (i : Nat) (s1 : St) => if h : i < l then Tree.ex F inp (kid ⟨i, h⟩) s1 else (s1, 0)) = kidX F inp (.node k n nm l kid) := by
      funext i s1
      unfold kidX
      by_cases h : i < l
      · rw [dif_pos h, if_pos (show i < (Tree.node k n nm l kid).len from h), Tree.kid_node h]
      · rw [dif_neg h, if_neg (show ¬ i < (Tree.node k n nm l kid).len from h)]
    have e2 : (fun (i : Nat) (s2 : St) => if h : i < l then (kid ⟨i, h⟩).ev s2.V s2.A else .ok 0) = kidE (.node k n nm l kid) := by
      funext i s1
      unfold kidE
      by_cases h : i < l
      · rw [dif_pos h, if_pos (show i < (Tree.node k n nm l kid).len from h), Tree.kid_node h]
      · rw [dif_neg h, if_neg (show ¬ i < (Tree.node k n nm l kid).len from h)]
    rw [e1, e2]
    rfl
end Go.Proofs.YtgochgcchkdlmaaDoor

/-
  The interpreter's state in memory, as far as expressions read it; fail, step's error, element (package interp).
-/
namespace Go.Proofs.YtgochgcchkdlmaaDoor
set_option linter.unusedVariables false
set_option linter.unusedSimpArgs false
open Go.RowKit Go.Maps
set_option maxRecDepth 100000
set_option maxHeartbeats 4000000

/-- the panic of an error -/
abbrev failC (e : Int) : List PanicEntry := [{ v := .iface 108 (.agg #[.int .i64 e]), recovered := false }]
theorem fail_any (e : Int) (w : World) : Calls Tryd.prog 65 #[.int .i64 e] w fun en w' => en = .panicked (failC e) ∧ w = w' := by
  go_enter Tryd.func65, Tryd.ntmps65
  go_wp2_with fail
  exact ⟨rfl, rfl, rfl⟩
/-- the rows of the arrays, read -/
def RowsR (w : World) (G : ByteArray → Option Value) (A : AF) : Prop := ∀ nm, match A nm with
  | none => G nm = none
  | some l => ∃ a c, G nm = some (.slice a l.length c) ∧ l.length ≤ 1000000 ∧ ∀ i, i < l.length → ∃ b o, a = some ⟨b, o, none⟩ ∧ w.cell? ⟨b, o + i, none⟩ = some (.int .i32 (l.getD i 0))
def intV (V : VF) : ByteArray → Option Value := fun nm => (V nm).map (Value.int .i32)
abbrev StrK : TypeId := 9
structure RdAt (w : World) (sb vb ab nv na : Nat) (G : ByteArray → Option Value) (V : VF) (A : AF) : Prop where
  c0 : w.cell? ⟨sb, 0, none⟩ = some (.map (some vb))
  c1 : w.cell? ⟨sb, 1, none⟩ = some (.map (some ab))
  vars : FMap Tryd.prog StrK w vb nv (intV V)
  arrs : FMap Tryd.prog StrK w ab na G
  rows : RowsR w G A
  fitV : ∀ nm v, V nm = some v → Wd.W v
  fitA : ∀ nm l, A nm = some l → ∀ x ∈ l, Wd.W x
theorem cell_keep {w w' : World} {a : Addr} {v : Value} (h : w.cell? a = some v) (hB : Below w.heap.size w w') : w'.cell? a = some v :=
  (hB.cell (World.block_lt_of_cell? w _ h)).trans h
theorem RowsR.below {w w' : World} {G : ByteArray → Option Value} {A : AF} (h : RowsR w G A) (hB : Below w.heap.size w w') : RowsR w' G A := fun nm => by
  have h1 := h nm
  cases hA : A nm with
  | none => rw [hA] at h1; exact h1
  | some l =>
    rw [hA] at h1
    obtain ⟨a, c, h2, h3, h4⟩ := h1
    refine ⟨a, c, h2, h3, fun i hi => ?_⟩
    obtain ⟨b, o, h5, h6⟩ := h4 i hi
    exact ⟨b, o, h5, cell_keep h6 hB⟩
theorem RdAt.below {w w' : World} {sb vb ab nv na : Nat} {G : ByteArray → Option Value} {V : VF} {A : AF} (h : RdAt w sb vb ab nv na G V A) (hB : Below w.heap.size w w') : RdAt w' sb vb ab nv na G V A :=
  ⟨cell_keep h.c0 hB, cell_keep h.c1 hB, h.vars.below hB, h.arrs.below hB, h.rows.below hB, h.fitV, h.fitA⟩
theorem strK : Tryd.prog.underlying StrK = some .string := Tryd.underlying9
theorem zero_i32 (w : World) : (zeroValue 21).run Tryd.prog w = .ok (.int .i32 0) w := by kernel_rfl
theorem zero_row (w : World) : (zeroValue 30).run Tryd.prog w = .ok (.slice none 0 0) w := by kernel_rfl
/-- the element of an array: its address -/
theorem element_ok (nm : ByteArray) (i : Int) (w : World) (sb ab na n c b o : Nat) (G : ByteArray → Option Value) (c1 : w.cell? ⟨sb, 1, none⟩ = some (.map (some ab))) (hG : FMap Tryd.prog StrK w ab na G)
    (hg : (G nm).getD (.slice none 0 0) = .slice (some ⟨b, o, none⟩) n c) (hnm : nm.size ≤ maxLen) (h0 : 0 ≤ i) (hi : i < (n : Int)) (hn : n ≤ 1000000) :
    Calls Tryd.prog 66 #[.pointer (some ⟨sb, 0, none⟩), .string nm, .int .i32 i] w fun e w' => e = .returned (.pointer (some ⟨b, o + i.toNat, none⟩)) ∧ w = w' := by
  have hrun := hG.run (t := 71) strK Tryd.underlying71 (zero_row w) hnm
  rw [hg] at hrun
  have h0d : decide (i < 0) = false := by simpa using h0
  have hid : decide ((n : Int) ≤ i) = false := by simpa using hi
  have hsb := World.block_lt_of_cell? w _ c1
  have hi32 : -2147483648 ≤ i ∧ i ≤ 2147483647 := by omega
  clear hG hg
  go_enter Tryd.func66, Tryd.ntmps66
  go_wp2_with fail
  go_ret
  exact ⟨rfl, rfl⟩
/-- no element there -/
theorem element_er (nm : ByteArray) (i : Int) (w : World) (sb ab na n c : Nat) (a : Option Addr) (G : ByteArray → Option Value) (c1 : w.cell? ⟨sb, 1, none⟩ = some (.map (some ab))) (hG : FMap Tryd.prog StrK w ab na G)
    (hg : (G nm).getD (.slice none 0 0) = .slice a n c) (hnm : nm.size ≤ maxLen) (hi : i < 0 ∨ (n : Int) ≤ i) (hi32 : -2147483648 ≤ i ∧ i ≤ 2147483647) (hn : n ≤ 1000000) :
    Calls Tryd.prog 66 #[.pointer (some ⟨sb, 0, none⟩), .string nm, .int .i32 i] w fun e w' => e = .panicked (failC 11) ∧ w = w' := by
  have hrun := hG.run (t := 71) strK Tryd.underlying71 (zero_row w) hnm
  rw [hg] at hrun
  have hsb := World.block_lt_of_cell? w _ c1
  clear hG hg
  by_cases h0 : i < 0
  · have h0d : decide (i < 0) = true := by simpa using h0
    clear hi
    go_enter Tryd.func66, Tryd.ntmps66
    go_wp2_with fail
    refine (fail_any 11 w).mono ?_
    rintro e w' ⟨rfl, rfl⟩
    exact ⟨rfl, rfl, rfl⟩
  · have hid : decide ((n : Int) ≤ i) = true := by simp; omega
    have h0d : decide (i < 0) = false := by simpa using h0
    clear h0
    go_enter Tryd.func66, Tryd.ntmps66
    go_wp2_with fail
    refine (fail_any 11 w).mono ?_
    rintro e w' ⟨rfl, rfl⟩
    exact ⟨rfl, rfl, rfl⟩
/-- the state's box -/
abbrev stObj (vb ab : Nat) (ina : Option Addr) (inl inc : Nat) (F : Int) (ov : Value) (rd st : Nat) : Obj := .cells #[.map (some vb), .map (some ab), .slice ina inl inc, .int .i64 F, ov, .int .i64 (rd : Int), .int .i64 (st : Int)] 86
theorem step_ok (w : World) (sb vb ab inl inc rd st : Nat) (ina : Option Addr) (F : Int) (ov : Value) (h : w.heap[sb]? = some (stObj vb ab ina inl inc F ov rd st)) (hst : (st : Int) < F) (hF : F ≤ 9223372036854775807) :
    Calls Tryd.prog 79 #[.pointer (some ⟨sb, 0, none⟩)] w fun e w' => e = .returned (.tuple #[]) ∧ w'.heap[sb]? = some (stObj vb ab ina inl inc F ov rd (st + 1)) ∧ (∀ k, k ≠ sb → w'.heap[k]? = w.heap[k]?) ∧ Below sb w w' := by
  have h3 := mem_cell h 3
  have h6 := mem_cell h 6
  have f6 := mem_free h 6
  simp only [List.getElem?_toArray, List.getElem?_cons_zero, List.getElem?_cons_succ] at h3 h6
  have hd : decide (F ≤ (st : Int)) = false := by simpa using hst
  have H := Lib.hid h
  have hsb := mem_lt h
  clear h
  go_enter Tryd.func79, Tryd.ntmps79
  go_wp2_with fail
  go_quiet (fail)
  generalize hwq : World.drewN w _ = wq
  have hb : wq.heap[sb]? = some (stObj vb ab ina inl inc F ov rd st) := by rw [← hwq]; exact H.out
  have HB := Lib.hid hb
  have HE : Hid (∀ k : Nat, wq.heap[k]? = w.heap[k]?) := fun k => by rw [← hwq]; rfl
  have HL : Hid (Below w.heap.size w wq) := mem_drawn (Below.refl _ _) hwq
  have hsb := mem_lt hb
  have h6 := mem_cell hb 6
  have f6 := mem_free hb 6
  simp only [List.getElem?_toArray, List.getElem?_cons_zero, List.getElem?_cons_succ] at h6
  clear hwq hb H
  go_wp2_with fail
  go_end0
  refine ⟨rfl, ?_, fun k hk => ?_, ?_⟩
  · rw [mem_set HB.out]; rfl
  · rw [Below.heap_setCell _ _ _ _ hk]; exact HE.out k
  · exact (HL.out.mono (show sb ≤ w.heap.size by omega)).setCell (p := ⟨sb, 6, none⟩) (Nat.le_refl _) _
theorem step_er (w : World) (sb vb ab inl inc rd st : Nat) (ina : Option Addr) (F : Int) (ov : Value) (h : w.heap[sb]? = some (stObj vb ab ina inl inc F ov rd st)) (hst : F ≤ (st : Int)) :
    Calls Tryd.prog 79 #[.pointer (some ⟨sb, 0, none⟩)] w fun e w' => e = .panicked (failC 13) ∧ (∀ k : Nat, w'.heap[k]? = w.heap[k]?) ∧ Below w.heap.size w w' := by
  have h3 := mem_cell h 3
  have h6 := mem_cell h 6
  simp only [List.getElem?_toArray, List.getElem?_cons_zero, List.getElem?_cons_succ] at h3 h6
  have hd : decide (F ≤ (st : Int)) = true := by simpa using hst
  have hsb := mem_lt h
  clear h
  go_enter Tryd.func79, Tryd.ntmps79
  go_wp2_with fail
  go_quiet (fail)
  generalize hwq : World.drewN w _ = wq
  have HE : Hid (∀ k : Nat, wq.heap[k]? = w.heap[k]?) := fun k => by rw [← hwq]; rfl
  have HL : Hid (Below w.heap.size w wq) := mem_drawn (Below.refl _ _) hwq
  clear hwq
  go_wp2_with fail
  refine (fail_any 13 wq).mono ?_
  rintro e w' ⟨rfl, rfl⟩
  exact ⟨rfl, rfl, HE.out, HL.out⟩
end Go.Proofs.YtgochgcchkdlmaaDoor
