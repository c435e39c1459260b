/-
  Contracts: what word.Apply returns.
-/
import Derived.Test.YtjdfcpjlmfaaaaaProg
import Derived.Test.YtjdfcpjlmfaaaaaWordPlain
import Derived.WalkKit
import Derived.Outline
import Derived.Lib.Hide
namespace Go.Proofs.Ytjdfcpjlmfaaaaa
set_option linter.unusedVariables false
set_option linter.unusedSimpArgs false
open Go.RowKit
set_option maxRecDepth 100000
set_option linter.unusedVariables false

theorem ret2_int {k j : IntKind} {a b c d : Int} (h : a = c) (g : b = d) : Ending.returned (.tuple #[.int k a, .int j b]) = .returned (.tuple #[.int k c, .int j d]) := by rw [h, g]
theorem ret_int {k : IntKind} {a b : Int} (h : a = b) : Ending.returned (.int k a) = .returned (.int k b) := by rw [h]

theorem truth_any (b : Bool) (w : World) : Calls Try.prog 64 #[.bool b] w fun e w' => e = .returned (.int .i32 (Wd.tr b)) ∧ w = w' := by
  cases b
  all_goals
    go_enter Try.func64, Try.ntmps64
    go_wp2
    go_ret
    exact ⟨rfl, rfl⟩

set_option maxHeartbeats 400000 in
theorem ap6 (x y : Int) (hx : Wd.W x) (hy : Wd.W y) (w : World) :
    Calls Try.prog 57 #[.int .u8 6, .int .i32 x, .int .i32 y] w fun e w' => e = .returned (.tuple #[.int .i32 (wrap32 (x + y)), .int .i64 0]) ∧ w = w' := by
  unfold Wd.W at hx hy
  go_enter Try.func57, Try.ntmps57
  go_wp2_with (fail)
  go_ret2
  exact ⟨ret2_int rfl rfl, rfl⟩

set_option maxHeartbeats 400000 in
theorem ap7 (x y : Int) (hx : Wd.W x) (hy : Wd.W y) (w : World) :
    Calls Try.prog 57 #[.int .u8 7, .int .i32 x, .int .i32 y] w fun e w' => e = .returned (.tuple #[.int .i32 (wrap32 (x - y)), .int .i64 0]) ∧ w = w' := by
  unfold Wd.W at hx hy
  go_enter Try.func57, Try.ntmps57
  go_wp2_with (fail)
  go_ret2
  exact ⟨ret2_int rfl rfl, rfl⟩

set_option maxHeartbeats 400000 in
theorem ap8 (x y : Int) (hx : Wd.W x) (hy : Wd.W y) (w : World) :
    Calls Try.prog 57 #[.int .u8 8, .int .i32 x, .int .i32 y] w fun e w' => e = .returned (.tuple #[.int .i32 (wrap32 (x * y)), .int .i64 0]) ∧ w = w' := by
  unfold Wd.W at hx hy
  go_enter Try.func57, Try.ntmps57
  go_wp2_with (fail)
  go_ret2
  exact ⟨ret2_int rfl rfl, rfl⟩

set_option maxHeartbeats 400000 in
theorem ap9 (x y : Int) (hx : Wd.W x) (hy : Wd.W y) (h0 : (y == 0) = false) (h1 : ¬ y = 0) (w : World) :
    Calls Try.prog 57 #[.int .u8 9, .int .i32 x, .int .i32 y] w fun e w' => e = .returned (.tuple #[.int .i32 (wrap32 (x.tdiv y)), .int .i64 0]) ∧ w = w' := by
  unfold Wd.W at hx hy
  go_enter Try.func57, Try.ntmps57
  go_wp2_with (fail)
  go_ret2
  exact ⟨ret2_int rfl rfl, rfl⟩

set_option maxHeartbeats 400000 in
theorem ap9z (x y : Int) (hx : Wd.W x) (hy : Wd.W y) (h0 : (y == 0) = true) (w : World) :
    Calls Try.prog 57 #[.int .u8 9, .int .i32 x, .int .i32 y] w fun e w' => e = .returned (.tuple #[.int .i32 (0), .int .i64 9]) ∧ w = w' := by
  unfold Wd.W at hx hy
  go_enter Try.func57, Try.ntmps57
  go_wp2_with (fail)
  go_ret2
  exact ⟨ret2_int rfl rfl, rfl⟩

set_option maxHeartbeats 400000 in
theorem ap10 (x y : Int) (hx : Wd.W x) (hy : Wd.W y) (h0 : (y == 0) = false) (h1 : ¬ y = 0) (w : World) :
    Calls Try.prog 57 #[.int .u8 10, .int .i32 x, .int .i32 y] w fun e w' => e = .returned (.tuple #[.int .i32 (x.tmod y), .int .i64 0]) ∧ w = w' := by
  unfold Wd.W at hx hy
  go_enter Try.func57, Try.ntmps57
  go_wp2_with (fail)
  go_ret2
  exact ⟨ret2_int rfl rfl, rfl⟩

set_option maxHeartbeats 400000 in
theorem ap10z (x y : Int) (hx : Wd.W x) (hy : Wd.W y) (h0 : (y == 0) = true) (w : World) :
    Calls Try.prog 57 #[.int .u8 10, .int .i32 x, .int .i32 y] w fun e w' => e = .returned (.tuple #[.int .i32 (0), .int .i64 9]) ∧ w = w' := by
  unfold Wd.W at hx hy
  go_enter Try.func57, Try.ntmps57
  go_wp2_with (fail)
  go_ret2
  exact ⟨ret2_int rfl rfl, rfl⟩

set_option maxHeartbeats 400000 in
theorem ap11 (x y : Int) (hx : Wd.W x) (hy : Wd.W y) (w : World) :
    Calls Try.prog 57 #[.int .u8 11, .int .i32 x, .int .i32 y] w fun e w' => e = .returned (.tuple #[.int .i32 (bits .and .i32 x y), .int .i64 0]) ∧ w = w' := by
  unfold Wd.W at hx hy
  go_enter Try.func57, Try.ntmps57
  go_wp2_with (fail)
  go_ret2
  exact ⟨ret2_int rfl rfl, rfl⟩

set_option maxHeartbeats 400000 in
theorem ap12 (x y : Int) (hx : Wd.W x) (hy : Wd.W y) (w : World) :
    Calls Try.prog 57 #[.int .u8 12, .int .i32 x, .int .i32 y] w fun e w' => e = .returned (.tuple #[.int .i32 (bits .or .i32 x y), .int .i64 0]) ∧ w = w' := by
  unfold Wd.W at hx hy
  go_enter Try.func57, Try.ntmps57
  go_wp2_with (fail)
  go_ret2
  exact ⟨ret2_int rfl rfl, rfl⟩

set_option maxHeartbeats 400000 in
theorem ap13 (x y : Int) (hx : Wd.W x) (hy : Wd.W y) (w : World) :
    Calls Try.prog 57 #[.int .u8 13, .int .i32 x, .int .i32 y] w fun e w' => e = .returned (.tuple #[.int .i32 (bits .xor .i32 x y), .int .i64 0]) ∧ w = w' := by
  unfold Wd.W at hx hy
  go_enter Try.func57, Try.ntmps57
  go_wp2_with (fail)
  go_ret2
  exact ⟨ret2_int rfl rfl, rfl⟩

set_option maxHeartbeats 400000 in
theorem ap14 (x y : Int) (hx : Wd.W x) (hy : Wd.W y) (w : World) :
    Calls Try.prog 57 #[.int .u8 14, .int .i32 x, .int .i32 y] w fun e w' => e = .returned (.tuple #[.int .i32 (wrap32 (x * 2 ^ (y % 32).toNat)), .int .i64 0]) ∧ w = w' := by
  unfold Wd.W at hx hy
  go_enter Try.func57, Try.ntmps57
  go_wp2_with (fail)
  go_ret2
  exact ⟨ret2_int rfl rfl, rfl⟩

set_option maxHeartbeats 400000 in
theorem ap15 (x y : Int) (hx : Wd.W x) (hy : Wd.W y) (w : World) :
    Calls Try.prog 57 #[.int .u8 15, .int .i32 x, .int .i32 y] w fun e w' => e = .returned (.tuple #[.int .i32 (x / 2 ^ (y % 32).toNat), .int .i64 0]) ∧ w = w' := by
  unfold Wd.W at hx hy
  go_enter Try.func57, Try.ntmps57
  go_wp2_with (fail)
  go_ret2
  exact ⟨ret2_int rfl rfl, rfl⟩

set_option maxHeartbeats 400000 in
theorem ap16 (x y : Int) (hx : Wd.W x) (hy : Wd.W y) (w : World) :
    Calls Try.prog 57 #[.int .u8 16, .int .i32 x, .int .i32 y] w fun e w' => e = .returned (.tuple #[.int .i32 (Wd.tr (x == y)), .int .i64 0]) ∧ w = w' := by
  unfold Wd.W at hx hy
  go_enter Try.func57, Try.ntmps57
  go_wp2_with (go_at_call 64; refine (truth_any _ _).mono ?_; rintro e w1 ⟨rfl, rfl⟩)
  go_ret2
  exact ⟨ret2_int rfl rfl, rfl⟩

set_option maxHeartbeats 400000 in
theorem ap17 (x y : Int) (hx : Wd.W x) (hy : Wd.W y) (w : World) :
    Calls Try.prog 57 #[.int .u8 17, .int .i32 x, .int .i32 y] w fun e w' => e = .returned (.tuple #[.int .i32 (Wd.tr (x != y)), .int .i64 0]) ∧ w = w' := by
  unfold Wd.W at hx hy
  go_enter Try.func57, Try.ntmps57
  go_wp2_with (go_at_call 64; refine (truth_any _ _).mono ?_; rintro e w1 ⟨rfl, rfl⟩)
  go_ret2
  exact ⟨ret2_int rfl rfl, rfl⟩

set_option maxHeartbeats 400000 in
theorem ap18 (x y : Int) (hx : Wd.W x) (hy : Wd.W y) (w : World) :
    Calls Try.prog 57 #[.int .u8 18, .int .i32 x, .int .i32 y] w fun e w' => e = .returned (.tuple #[.int .i32 (Wd.tr (decide (x < y))), .int .i64 0]) ∧ w = w' := by
  unfold Wd.W at hx hy
  go_enter Try.func57, Try.ntmps57
  go_wp2_with (go_at_call 64; refine (truth_any _ _).mono ?_; rintro e w1 ⟨rfl, rfl⟩)
  go_ret2
  exact ⟨ret2_int rfl rfl, rfl⟩

set_option maxHeartbeats 400000 in
theorem ap19 (x y : Int) (hx : Wd.W x) (hy : Wd.W y) (w : World) :
    Calls Try.prog 57 #[.int .u8 19, .int .i32 x, .int .i32 y] w fun e w' => e = .returned (.tuple #[.int .i32 (Wd.tr (decide (x ≤ y))), .int .i64 0]) ∧ w = w' := by
  unfold Wd.W at hx hy
  go_enter Try.func57, Try.ntmps57
  go_wp2_with (go_at_call 64; refine (truth_any _ _).mono ?_; rintro e w1 ⟨rfl, rfl⟩)
  go_ret2
  exact ⟨ret2_int rfl rfl, rfl⟩

set_option maxHeartbeats 400000 in
theorem ap20 (x y : Int) (hx : Wd.W x) (hy : Wd.W y) (w : World) :
    Calls Try.prog 57 #[.int .u8 20, .int .i32 x, .int .i32 y] w fun e w' => e = .returned (.tuple #[.int .i32 (Wd.tr (decide (y < x))), .int .i64 0]) ∧ w = w' := by
  unfold Wd.W at hx hy
  go_enter Try.func57, Try.ntmps57
  go_wp2_with (go_at_call 64; refine (truth_any _ _).mono ?_; rintro e w1 ⟨rfl, rfl⟩)
  go_ret2
  exact ⟨ret2_int rfl rfl, rfl⟩

set_option maxHeartbeats 400000 in
theorem ap21 (x y : Int) (hx : Wd.W x) (hy : Wd.W y) (w : World) :
    Calls Try.prog 57 #[.int .u8 21, .int .i32 x, .int .i32 y] w fun e w' => e = .returned (.tuple #[.int .i32 (Wd.tr (decide (y ≤ x))), .int .i64 0]) ∧ w = w' := by
  unfold Wd.W at hx hy
  go_enter Try.func57, Try.ntmps57
  go_wp2_with (go_at_call 64; refine (truth_any _ _).mono ?_; rintro e w1 ⟨rfl, rfl⟩)
  go_ret2
  exact ⟨ret2_int rfl rfl, rfl⟩

set_option maxHeartbeats 400000 in
theorem ap22 (x y : Int) (hx : Wd.W x) (hy : Wd.W y) (w : World) :
    Calls Try.prog 57 #[.int .u8 22, .int .i32 x, .int .i32 y] w fun e w' => e = .returned (.tuple #[.int .i32 (Wd.tr (x != 0 && y != 0)), .int .i64 0]) ∧ w = w' := by
  unfold Wd.W at hx hy
  have key : ∀ b : Bool, b = (x != 0 && y != 0) → Calls Try.prog 57 #[.int .u8 22, .int .i32 x, .int .i32 y] w fun e w' => e = .returned (.tuple #[.int .i32 (Wd.tr b), .int .i64 0]) ∧ w = w' := by
    intro b hb
    have HB := Lib.hid hb
    clear hb
    by_cases hx0 : x = 0
    · subst hx0
      by_cases hy0 : y = 0
      · subst hy0
        go_enter Try.func57, Try.ntmps57
        go_wp2_with (go_at_call 64; refine (truth_any _ _).mono ?_; rintro e w1 ⟨rfl, rfl⟩)
        go_ret2
        exact ⟨ret2_int (congrArg Wd.tr (by rw [HB.out]; simp)) rfl, rfl⟩
      · have hy1 : (y != 0) = true := by simpa using hy0
        go_enter Try.func57, Try.ntmps57
        go_wp2_with (go_at_call 64; refine (truth_any _ _).mono ?_; rintro e w1 ⟨rfl, rfl⟩)
        go_ret2
        exact ⟨ret2_int (congrArg Wd.tr (by rw [HB.out]; simp [hy0])) rfl, rfl⟩
    · have hx1 : (x != 0) = true := by simpa using hx0
      by_cases hy0 : y = 0
      · subst hy0
        go_enter Try.func57, Try.ntmps57
        go_wp2_with (go_at_call 64; refine (truth_any _ _).mono ?_; rintro e w1 ⟨rfl, rfl⟩)
        go_ret2
        exact ⟨ret2_int (congrArg Wd.tr (by rw [HB.out]; simp [hx0])) rfl, rfl⟩
      · have hy1 : (y != 0) = true := by simpa using hy0
        go_enter Try.func57, Try.ntmps57
        go_wp2_with (go_at_call 64; refine (truth_any _ _).mono ?_; rintro e w1 ⟨rfl, rfl⟩)
        go_ret2
        exact ⟨ret2_int (congrArg Wd.tr (by rw [HB.out]; simp [hx0, hy0])) rfl, rfl⟩
  exact key _ rfl

set_option maxHeartbeats 400000 in
theorem ap23 (x y : Int) (hx : Wd.W x) (hy : Wd.W y) (w : World) :
    Calls Try.prog 57 #[.int .u8 23, .int .i32 x, .int .i32 y] w fun e w' => e = .returned (.tuple #[.int .i32 (Wd.tr (x != 0 || y != 0)), .int .i64 0]) ∧ w = w' := by
  unfold Wd.W at hx hy
  have key : ∀ b : Bool, b = (x != 0 || y != 0) → Calls Try.prog 57 #[.int .u8 23, .int .i32 x, .int .i32 y] w fun e w' => e = .returned (.tuple #[.int .i32 (Wd.tr b), .int .i64 0]) ∧ w = w' := by
    intro b hb
    have HB := Lib.hid hb
    clear hb
    by_cases hx0 : x = 0
    · subst hx0
      by_cases hy0 : y = 0
      · subst hy0
        go_enter Try.func57, Try.ntmps57
        go_wp2_with (go_at_call 64; refine (truth_any _ _).mono ?_; rintro e w1 ⟨rfl, rfl⟩)
        go_ret2
        exact ⟨ret2_int (congrArg Wd.tr (by rw [HB.out]; simp)) rfl, rfl⟩
      · have hy1 : (y != 0) = true := by simpa using hy0
        go_enter Try.func57, Try.ntmps57
        go_wp2_with (go_at_call 64; refine (truth_any _ _).mono ?_; rintro e w1 ⟨rfl, rfl⟩)
        go_ret2
        exact ⟨ret2_int (congrArg Wd.tr (by rw [HB.out]; simp [hy0])) rfl, rfl⟩
    · have hx1 : (x != 0) = true := by simpa using hx0
      by_cases hy0 : y = 0
      · subst hy0
        go_enter Try.func57, Try.ntmps57
        go_wp2_with (go_at_call 64; refine (truth_any _ _).mono ?_; rintro e w1 ⟨rfl, rfl⟩)
        go_ret2
        exact ⟨ret2_int (congrArg Wd.tr (by rw [HB.out]; simp [hx0])) rfl, rfl⟩
      · have hy1 : (y != 0) = true := by simpa using hy0
        go_enter Try.func57, Try.ntmps57
        go_wp2_with (go_at_call 64; refine (truth_any _ _).mono ?_; rintro e w1 ⟨rfl, rfl⟩)
        go_ret2
        exact ⟨ret2_int (congrArg Wd.tr (by rw [HB.out]; simp [hx0, hy0])) rfl, rfl⟩
  exact key _ rfl

set_option maxHeartbeats 400000 in
theorem apElse (k x y : Int) (hk : 0 ≤ k ∧ k ≤ 255) (h : k < 6 ∨ 23 < k) (hx : Wd.W x) (hy : Wd.W y) (w : World) :
    Calls Try.prog 57 #[.int .u8 k, .int .i32 x, .int .i32 y] w fun e w' => e = .returned (.tuple #[.int .i32 0, .int .i64 1]) ∧ w = w' := by
  unfold Wd.W at hx hy
  rcases h with h | h
  all_goals
    go_enter Try.func57, Try.ntmps57
    go_wp2_with fail
    go_ret2
    exact ⟨rfl, rfl⟩

/-- word.Apply, whatever the operator. -/
theorem apply_any (k x y : Int) (hk : 0 ≤ k ∧ k ≤ 255) (hx : Wd.W x) (hy : Wd.W y) (w : World) :
    Calls Try.prog 57 #[.int .u8 k, .int .i32 x, .int .i32 y] w fun e w' => e = .returned (.tuple #[.int .i32 (Wd.apply k x y), .int .i64 (Wd.err k y)]) ∧ w = w' := by
  by_cases h : k < 6 ∨ 23 < k
  · rw [Wd.aelse k x y h, Wd.eelse k y h]; exact apElse k x y hk h hx hy w
  · have hc : k = 6 ∨ k = 7 ∨ k = 8 ∨ k = 9 ∨ k = 10 ∨ k = 11 ∨ k = 12 ∨ k = 13 ∨ k = 14 ∨ k = 15 ∨ k = 16 ∨ k = 17 ∨ k = 18 ∨ k = 19 ∨ k = 20 ∨ k = 21 ∨ k = 22 ∨ k = 23 := by omega
    by_cases h2 : (k = 9 ∨ k = 10) ∧ y = 0
    · obtain ⟨h2, rfl⟩ := h2
      rcases h2 with rfl | rfl
      · exact ap9z x 0 hx hy rfl w
      · exact ap10z x 0 hx hy rfl w
    · rw [Wd.e0 k y (by omega) h2]
      rcases hc with rfl | rfl | rfl | rfl | rfl | rfl | rfl | rfl | rfl | rfl | rfl | rfl | rfl | rfl | rfl | rfl | rfl | rfl
      · exact ap6 x y hx hy w
      · exact ap7 x y hx hy w
      · exact ap8 x y hx hy w
      · have hy0 : ¬ y = 0 := fun h => h2 ⟨by omega, h⟩
        rw [Wd.a9, if_neg hy0]
        exact ap9 x y hx hy (by simpa using hy0) hy0 w
      · have hy0 : ¬ y = 0 := fun h => h2 ⟨by omega, h⟩
        rw [Wd.a10, if_neg hy0]
        exact ap10 x y hx hy (by simpa using hy0) hy0 w
      · exact ap11 x y hx hy w
      · exact ap12 x y hx hy w
      · exact ap13 x y hx hy w
      · exact ap14 x y hx hy w
      · exact ap15 x y hx hy w
      · exact ap16 x y hx hy w
      · exact ap17 x y hx hy w
      · exact ap18 x y hx hy w
      · exact ap19 x y hx hy w
      · exact ap20 x y hx hy w
      · exact ap21 x y hx hy w
      · exact ap22 x y hx hy w
      · exact ap23 x y hx hy w

end Go.Proofs.Ytjdfcpjlmfaaaaa
