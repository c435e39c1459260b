/-
  Mg37: several texts in one (WordCalls, IrStep11).
-/
import Derived.Test.YteknhnnlhhgppaaDoorProg
import Derived.Test.YteknhnnlhhgppaaDoorMg0
import Derived.WalkKit
import Derived.Outline
import Derived.Lib.Hide
import Derived.Test.YteknhnnlhhgppaaDoorIrStep
import Derived.BigRegion
import Derived.Deep.QuietTactic
import Derived.BigQuiet
/-
  Contracts: what word.Apply returns.
-/
namespace Go.Proofs.YteknhnnlhhgppaaDoor
set_option linter.unusedVariables false
set_option linter.unusedSimpArgs false
open Go.RowKit
set_option maxRecDepth 100000
set_option linter.unusedVariables false

theorem ret2_int {k j : IntKind} {a b c d : Int} (h : a = c) (g : b = d) : Ending.returned (.tuple #[.int k a, .int j b]) = .returned (.tuple #[.int k c, .int j d]) := by rw [h, g]
theorem ret_int {k : IntKind} {a b : Int} (h : a = b) : Ending.returned (.int k a) = .returned (.int k b) := by rw [h]

theorem truth_any (b : Bool) (w : World) : Calls Tryd.prog 120 #[.bool b] w fun e w' => e = .returned (.int .i32 (Wd.tr b)) ∧ w = w' := by
  cases b
  all_goals
    go_enter Tryd.func120, Tryd.ntmps120
    go_wp2
    go_ret
    exact ⟨rfl, rfl⟩

set_option maxHeartbeats 400000 in
theorem ap6 (x y : Int) (hx : Wd.W x) (hy : Wd.W y) (w : World) :
    Calls Tryd.prog 117 #[.int .u8 6, .int .i32 x, .int .i32 y] w fun e w' => e = .returned (.tuple #[.int .i32 (wrap32 (x + y)), .int .i64 0]) ∧ w = w' := by
  unfold Wd.W at hx hy
  go_enter Tryd.func117, Tryd.ntmps117
  go_wp2_with (fail)
  go_ret2
  exact ⟨ret2_int rfl rfl, rfl⟩

set_option maxHeartbeats 400000 in
theorem ap7 (x y : Int) (hx : Wd.W x) (hy : Wd.W y) (w : World) :
    Calls Tryd.prog 117 #[.int .u8 7, .int .i32 x, .int .i32 y] w fun e w' => e = .returned (.tuple #[.int .i32 (wrap32 (x - y)), .int .i64 0]) ∧ w = w' := by
  unfold Wd.W at hx hy
  go_enter Tryd.func117, Tryd.ntmps117
  go_wp2_with (fail)
  go_ret2
  exact ⟨ret2_int rfl rfl, rfl⟩

set_option maxHeartbeats 400000 in
theorem ap8 (x y : Int) (hx : Wd.W x) (hy : Wd.W y) (w : World) :
    Calls Tryd.prog 117 #[.int .u8 8, .int .i32 x, .int .i32 y] w fun e w' => e = .returned (.tuple #[.int .i32 (wrap32 (x * y)), .int .i64 0]) ∧ w = w' := by
  unfold Wd.W at hx hy
  go_enter Tryd.func117, Tryd.ntmps117
  go_wp2_with (fail)
  go_ret2
  exact ⟨ret2_int rfl rfl, rfl⟩

set_option maxHeartbeats 400000 in
theorem ap9 (x y : Int) (hx : Wd.W x) (hy : Wd.W y) (h0 : (y == 0) = false) (h1 : ¬ y = 0) (w : World) :
    Calls Tryd.prog 117 #[.int .u8 9, .int .i32 x, .int .i32 y] w fun e w' => e = .returned (.tuple #[.int .i32 (wrap32 (x.tdiv y)), .int .i64 0]) ∧ w = w' := by
  unfold Wd.W at hx hy
  go_enter Tryd.func117, Tryd.ntmps117
  go_wp2_with (fail)
  go_ret2
  exact ⟨ret2_int rfl rfl, rfl⟩

set_option maxHeartbeats 400000 in
theorem ap9z (x y : Int) (hx : Wd.W x) (hy : Wd.W y) (h0 : (y == 0) = true) (w : World) :
    Calls Tryd.prog 117 #[.int .u8 9, .int .i32 x, .int .i32 y] w fun e w' => e = .returned (.tuple #[.int .i32 (0), .int .i64 9]) ∧ w = w' := by
  unfold Wd.W at hx hy
  go_enter Tryd.func117, Tryd.ntmps117
  go_wp2_with (fail)
  go_ret2
  exact ⟨ret2_int rfl rfl, rfl⟩

set_option maxHeartbeats 400000 in
theorem ap10 (x y : Int) (hx : Wd.W x) (hy : Wd.W y) (h0 : (y == 0) = false) (h1 : ¬ y = 0) (w : World) :
    Calls Tryd.prog 117 #[.int .u8 10, .int .i32 x, .int .i32 y] w fun e w' => e = .returned (.tuple #[.int .i32 (x.tmod y), .int .i64 0]) ∧ w = w' := by
  unfold Wd.W at hx hy
  go_enter Tryd.func117, Tryd.ntmps117
  go_wp2_with (fail)
  go_ret2
  exact ⟨ret2_int rfl rfl, rfl⟩

set_option maxHeartbeats 400000 in
theorem ap10z (x y : Int) (hx : Wd.W x) (hy : Wd.W y) (h0 : (y == 0) = true) (w : World) :
    Calls Tryd.prog 117 #[.int .u8 10, .int .i32 x, .int .i32 y] w fun e w' => e = .returned (.tuple #[.int .i32 (0), .int .i64 9]) ∧ w = w' := by
  unfold Wd.W at hx hy
  go_enter Tryd.func117, Tryd.ntmps117
  go_wp2_with (fail)
  go_ret2
  exact ⟨ret2_int rfl rfl, rfl⟩

set_option maxHeartbeats 400000 in
theorem ap11 (x y : Int) (hx : Wd.W x) (hy : Wd.W y) (w : World) :
    Calls Tryd.prog 117 #[.int .u8 11, .int .i32 x, .int .i32 y] w fun e w' => e = .returned (.tuple #[.int .i32 (bits .and .i32 x y), .int .i64 0]) ∧ w = w' := by
  unfold Wd.W at hx hy
  go_enter Tryd.func117, Tryd.ntmps117
  go_wp2_with (fail)
  go_ret2
  exact ⟨ret2_int rfl rfl, rfl⟩

set_option maxHeartbeats 400000 in
theorem ap12 (x y : Int) (hx : Wd.W x) (hy : Wd.W y) (w : World) :
    Calls Tryd.prog 117 #[.int .u8 12, .int .i32 x, .int .i32 y] w fun e w' => e = .returned (.tuple #[.int .i32 (bits .or .i32 x y), .int .i64 0]) ∧ w = w' := by
  unfold Wd.W at hx hy
  go_enter Tryd.func117, Tryd.ntmps117
  go_wp2_with (fail)
  go_ret2
  exact ⟨ret2_int rfl rfl, rfl⟩

set_option maxHeartbeats 400000 in
theorem ap13 (x y : Int) (hx : Wd.W x) (hy : Wd.W y) (w : World) :
    Calls Tryd.prog 117 #[.int .u8 13, .int .i32 x, .int .i32 y] w fun e w' => e = .returned (.tuple #[.int .i32 (bits .xor .i32 x y), .int .i64 0]) ∧ w = w' := by
  unfold Wd.W at hx hy
  go_enter Tryd.func117, Tryd.ntmps117
  go_wp2_with (fail)
  go_ret2
  exact ⟨ret2_int rfl rfl, rfl⟩

set_option maxHeartbeats 400000 in
theorem ap14 (x y : Int) (hx : Wd.W x) (hy : Wd.W y) (w : World) :
    Calls Tryd.prog 117 #[.int .u8 14, .int .i32 x, .int .i32 y] w fun e w' => e = .returned (.tuple #[.int .i32 (wrap32 (x * 2 ^ (y % 32).toNat)), .int .i64 0]) ∧ w = w' := by
  unfold Wd.W at hx hy
  go_enter Tryd.func117, Tryd.ntmps117
  go_wp2_with (fail)
  go_ret2
  exact ⟨ret2_int rfl rfl, rfl⟩

set_option maxHeartbeats 400000 in
theorem ap15 (x y : Int) (hx : Wd.W x) (hy : Wd.W y) (w : World) :
    Calls Tryd.prog 117 #[.int .u8 15, .int .i32 x, .int .i32 y] w fun e w' => e = .returned (.tuple #[.int .i32 (x / 2 ^ (y % 32).toNat), .int .i64 0]) ∧ w = w' := by
  unfold Wd.W at hx hy
  go_enter Tryd.func117, Tryd.ntmps117
  go_wp2_with (fail)
  go_ret2
  exact ⟨ret2_int rfl rfl, rfl⟩

set_option maxHeartbeats 400000 in
theorem ap16 (x y : Int) (hx : Wd.W x) (hy : Wd.W y) (w : World) :
    Calls Tryd.prog 117 #[.int .u8 16, .int .i32 x, .int .i32 y] w fun e w' => e = .returned (.tuple #[.int .i32 (Wd.tr (x == y)), .int .i64 0]) ∧ w = w' := by
  unfold Wd.W at hx hy
  go_enter Tryd.func117, Tryd.ntmps117
  go_wp2_with (go_at_call 120; refine (truth_any _ _).mono ?_; rintro e w1 ⟨rfl, rfl⟩)
  go_ret2
  exact ⟨ret2_int rfl rfl, rfl⟩

set_option maxHeartbeats 400000 in
theorem ap17 (x y : Int) (hx : Wd.W x) (hy : Wd.W y) (w : World) :
    Calls Tryd.prog 117 #[.int .u8 17, .int .i32 x, .int .i32 y] w fun e w' => e = .returned (.tuple #[.int .i32 (Wd.tr (x != y)), .int .i64 0]) ∧ w = w' := by
  unfold Wd.W at hx hy
  go_enter Tryd.func117, Tryd.ntmps117
  go_wp2_with (go_at_call 120; refine (truth_any _ _).mono ?_; rintro e w1 ⟨rfl, rfl⟩)
  go_ret2
  exact ⟨ret2_int rfl rfl, rfl⟩

set_option maxHeartbeats 400000 in
theorem ap18 (x y : Int) (hx : Wd.W x) (hy : Wd.W y) (w : World) :
    Calls Tryd.prog 117 #[.int .u8 18, .int .i32 x, .int .i32 y] w fun e w' => e = .returned (.tuple #[.int .i32 (Wd.tr (decide (x < y))), .int .i64 0]) ∧ w = w' := by
  unfold Wd.W at hx hy
  go_enter Tryd.func117, Tryd.ntmps117
  go_wp2_with (go_at_call 120; refine (truth_any _ _).mono ?_; rintro e w1 ⟨rfl, rfl⟩)
  go_ret2
  exact ⟨ret2_int rfl rfl, rfl⟩

set_option maxHeartbeats 400000 in
theorem ap19 (x y : Int) (hx : Wd.W x) (hy : Wd.W y) (w : World) :
    Calls Tryd.prog 117 #[.int .u8 19, .int .i32 x, .int .i32 y] w fun e w' => e = .returned (.tuple #[.int .i32 (Wd.tr (decide (x ≤ y))), .int .i64 0]) ∧ w = w' := by
  unfold Wd.W at hx hy
  go_enter Tryd.func117, Tryd.ntmps117
  go_wp2_with (go_at_call 120; refine (truth_any _ _).mono ?_; rintro e w1 ⟨rfl, rfl⟩)
  go_ret2
  exact ⟨ret2_int rfl rfl, rfl⟩

set_option maxHeartbeats 400000 in
theorem ap20 (x y : Int) (hx : Wd.W x) (hy : Wd.W y) (w : World) :
    Calls Tryd.prog 117 #[.int .u8 20, .int .i32 x, .int .i32 y] w fun e w' => e = .returned (.tuple #[.int .i32 (Wd.tr (decide (y < x))), .int .i64 0]) ∧ w = w' := by
  unfold Wd.W at hx hy
  go_enter Tryd.func117, Tryd.ntmps117
  go_wp2_with (go_at_call 120; refine (truth_any _ _).mono ?_; rintro e w1 ⟨rfl, rfl⟩)
  go_ret2
  exact ⟨ret2_int rfl rfl, rfl⟩

set_option maxHeartbeats 400000 in
theorem ap21 (x y : Int) (hx : Wd.W x) (hy : Wd.W y) (w : World) :
    Calls Tryd.prog 117 #[.int .u8 21, .int .i32 x, .int .i32 y] w fun e w' => e = .returned (.tuple #[.int .i32 (Wd.tr (decide (y ≤ x))), .int .i64 0]) ∧ w = w' := by
  unfold Wd.W at hx hy
  go_enter Tryd.func117, Tryd.ntmps117
  go_wp2_with (go_at_call 120; refine (truth_any _ _).mono ?_; rintro e w1 ⟨rfl, rfl⟩)
  go_ret2
  exact ⟨ret2_int rfl rfl, rfl⟩

set_option maxHeartbeats 400000 in
theorem ap22 (x y : Int) (hx : Wd.W x) (hy : Wd.W y) (w : World) :
    Calls Tryd.prog 117 #[.int .u8 22, .int .i32 x, .int .i32 y] w fun e w' => e = .returned (.tuple #[.int .i32 (Wd.tr (x != 0 && y != 0)), .int .i64 0]) ∧ w = w' := by
  unfold Wd.W at hx hy
  have key : ∀ b : Bool, b = (x != 0 && y != 0) → Calls Tryd.prog 117 #[.int .u8 22, .int .i32 x, .int .i32 y] w fun e w' => e = .returned (.tuple #[.int .i32 (Wd.tr b), .int .i64 0]) ∧ w = w' := by
    intro b hb
    have HB := Lib.hid hb
    clear hb
    by_cases hx0 : x = 0
    · subst hx0
      by_cases hy0 : y = 0
      · subst hy0
        go_enter Tryd.func117, Tryd.ntmps117
        go_wp2_with (go_at_call 120; refine (truth_any _ _).mono ?_; rintro e w1 ⟨rfl, rfl⟩)
        go_ret2
        exact ⟨ret2_int (congrArg Wd.tr (by rw [HB.out]; simp)) rfl, rfl⟩
      · have hy1 : (y != 0) = true := by simpa using hy0
        go_enter Tryd.func117, Tryd.ntmps117
        go_wp2_with (go_at_call 120; refine (truth_any _ _).mono ?_; rintro e w1 ⟨rfl, rfl⟩)
        go_ret2
        exact ⟨ret2_int (congrArg Wd.tr (by rw [HB.out]; simp [hy0])) rfl, rfl⟩
    · have hx1 : (x != 0) = true := by simpa using hx0
      by_cases hy0 : y = 0
      · subst hy0
        go_enter Tryd.func117, Tryd.ntmps117
        go_wp2_with (go_at_call 120; refine (truth_any _ _).mono ?_; rintro e w1 ⟨rfl, rfl⟩)
        go_ret2
        exact ⟨ret2_int (congrArg Wd.tr (by rw [HB.out]; simp [hx0])) rfl, rfl⟩
      · have hy1 : (y != 0) = true := by simpa using hy0
        go_enter Tryd.func117, Tryd.ntmps117
        go_wp2_with (go_at_call 120; refine (truth_any _ _).mono ?_; rintro e w1 ⟨rfl, rfl⟩)
        go_ret2
        exact ⟨ret2_int (congrArg Wd.tr (by rw [HB.out]; simp [hx0, hy0])) rfl, rfl⟩
  exact key _ rfl

set_option maxHeartbeats 400000 in
theorem ap23 (x y : Int) (hx : Wd.W x) (hy : Wd.W y) (w : World) :
    Calls Tryd.prog 117 #[.int .u8 23, .int .i32 x, .int .i32 y] w fun e w' => e = .returned (.tuple #[.int .i32 (Wd.tr (x != 0 || y != 0)), .int .i64 0]) ∧ w = w' := by
  unfold Wd.W at hx hy
  have key : ∀ b : Bool, b = (x != 0 || y != 0) → Calls Tryd.prog 117 #[.int .u8 23, .int .i32 x, .int .i32 y] w fun e w' => e = .returned (.tuple #[.int .i32 (Wd.tr b), .int .i64 0]) ∧ w = w' := by
    intro b hb
    have HB := Lib.hid hb
    clear hb
    by_cases hx0 : x = 0
    · subst hx0
      by_cases hy0 : y = 0
      · subst hy0
        go_enter Tryd.func117, Tryd.ntmps117
        go_wp2_with (go_at_call 120; refine (truth_any _ _).mono ?_; rintro e w1 ⟨rfl, rfl⟩)
        go_ret2
        exact ⟨ret2_int (congrArg Wd.tr (by rw [HB.out]; simp)) rfl, rfl⟩
      · have hy1 : (y != 0) = true := by simpa using hy0
        go_enter Tryd.func117, Tryd.ntmps117
        go_wp2_with (go_at_call 120; refine (truth_any _ _).mono ?_; rintro e w1 ⟨rfl, rfl⟩)
        go_ret2
        exact ⟨ret2_int (congrArg Wd.tr (by rw [HB.out]; simp [hy0])) rfl, rfl⟩
    · have hx1 : (x != 0) = true := by simpa using hx0
      by_cases hy0 : y = 0
      · subst hy0
        go_enter Tryd.func117, Tryd.ntmps117
        go_wp2_with (go_at_call 120; refine (truth_any _ _).mono ?_; rintro e w1 ⟨rfl, rfl⟩)
        go_ret2
        exact ⟨ret2_int (congrArg Wd.tr (by rw [HB.out]; simp [hx0])) rfl, rfl⟩
      · have hy1 : (y != 0) = true := by simpa using hy0
        go_enter Tryd.func117, Tryd.ntmps117
        go_wp2_with (go_at_call 120; refine (truth_any _ _).mono ?_; rintro e w1 ⟨rfl, rfl⟩)
        go_ret2
        exact ⟨ret2_int (congrArg Wd.tr (by rw [HB.out]; simp [hx0, hy0])) rfl, rfl⟩
  exact key _ rfl

set_option maxHeartbeats 400000 in
theorem apElse (k x y : Int) (hk : 0 ≤ k ∧ k ≤ 255) (h : k < 6 ∨ 23 < k) (hx : Wd.W x) (hy : Wd.W y) (w : World) :
    Calls Tryd.prog 117 #[.int .u8 k, .int .i32 x, .int .i32 y] w fun e w' => e = .returned (.tuple #[.int .i32 0, .int .i64 1]) ∧ w = w' := by
  unfold Wd.W at hx hy
  rcases h with h | h
  all_goals
    go_enter Tryd.func117, Tryd.ntmps117
    go_wp2_with fail
    go_ret2
    exact ⟨rfl, rfl⟩

/-- word.Apply, whatever the operator. -/
theorem apply_any (k x y : Int) (hk : 0 ≤ k ∧ k ≤ 255) (hx : Wd.W x) (hy : Wd.W y) (w : World) :
    Calls Tryd.prog 117 #[.int .u8 k, .int .i32 x, .int .i32 y] w fun e w' => e = .returned (.tuple #[.int .i32 (Wd.apply k x y), .int .i64 (Wd.err k y)]) ∧ w = w' := by
  by_cases h : k < 6 ∨ 23 < k
  · rw [Wd.aelse k x y h, Wd.eelse k y h]; exact apElse k x y hk h hx hy w
  · have hc : k = 6 ∨ k = 7 ∨ k = 8 ∨ k = 9 ∨ k = 10 ∨ k = 11 ∨ k = 12 ∨ k = 13 ∨ k = 14 ∨ k = 15 ∨ k = 16 ∨ k = 17 ∨ k = 18 ∨ k = 19 ∨ k = 20 ∨ k = 21 ∨ k = 22 ∨ k = 23 := by omega
    by_cases h2 : (k = 9 ∨ k = 10) ∧ y = 0
    · obtain ⟨h2, rfl⟩ := h2
      rcases h2 with rfl | rfl
      · exact ap9z x 0 hx hy rfl w
      · exact ap10z x 0 hx hy rfl w
    · rw [Wd.e0 k y (by omega) h2]
      rcases hc with rfl | rfl | rfl | rfl | rfl | rfl | rfl | rfl | rfl | rfl | rfl | rfl | rfl | rfl | rfl | rfl | rfl | rfl
      · exact ap6 x y hx hy w
      · exact ap7 x y hx hy w
      · exact ap8 x y hx hy w
      · have hy0 : ¬ y = 0 := fun h => h2 ⟨by omega, h⟩
        rw [Wd.a9, if_neg hy0]
        exact ap9 x y hx hy (by simpa using hy0) hy0 w
      · have hy0 : ¬ y = 0 := fun h => h2 ⟨by omega, h⟩
        rw [Wd.a10, if_neg hy0]
        exact ap10 x y hx hy (by simpa using hy0) hy0 w
      · exact ap11 x y hx hy w
      · exact ap12 x y hx hy w
      · exact ap13 x y hx hy w
      · exact ap14 x y hx hy w
      · exact ap15 x y hx hy w
      · exact ap16 x y hx hy w
      · exact ap17 x y hx hy w
      · exact ap18 x y hx hy w
      · exact ap19 x y hx hy w
      · exact ap20 x y hx hy w
      · exact ap21 x y hx hy w
      · exact ap22 x y hx hy w
      · exact ap23 x y hx hy w

end Go.Proofs.YteknhnnlhhgppaaDoor

/-
  Contract: instruction (package ir: runner), operation by operation.
-/
namespace Go.Proofs.YteknhnnlhhgppaaDoor
set_option linter.unusedVariables false
set_option linter.unusedSimpArgs false
open Go.RowKit
set_option maxRecDepth 100000
set_option maxHeartbeats 4000000
theorem instr_3 (N : Nat) (g : Geo) (names : List ByteArray) (inp : List Int) (d : Nat) (x : Nat) (y : Nat) (imm : Int) (sym : ByteArray) (w : World) (ov : Value) (s : St) (h : RunAt N g names w ov s) (hd : d < s.regs.length) (hx : x < s.regs.length) (hy : y < s.regs.length) (hi0 : 6 ≤ imm) (hi1 : imm ≤ 23) :
    Calls Tryd.prog 108 #[.pointer (some ⟨g.rb, 0, none⟩), Ins.val ⟨3, ((d : Nat) : Int), ((x : Nat) : Int), ((y : Nat) : Int), imm, sym⟩] w (StepOk N g names ov s w (step names inp ⟨3, ((d : Nat) : Int), ((x : Nat) : Int), ((y : Nat) : Int), imm, sym⟩ s)) := by
  obtain ⟨W, hW⟩ : ∃ W : World, w.alloc (.cells #[.int .u8 3, .int .i64 ((d : Nat) : Int), .int .i64 ((x : Nat) : Int), .int .i64 ((y : Nat) : Int), .int .i64 imm, .string sym] 54) = W := ⟨_, rfl⟩
  have hB : Below w.heap.size w W := by rw [← hW]; exact (Below.refl _ _).alloc (Nat.le_refl _) _
  have hWs : W.heap.size = w.heap.size + 1 := by rw [← hW]; simp
  have HR := Lib.hid (h.keep hB)
  have HF := Lib.hid (Frame.of_below (g := g) (ov := ov) hB)
  have i0 : W.cell? ⟨w.heap.size, 0, none⟩ = some (.int .u8 3) := by rw [← hW]; simp
  have i1 : W.cell? ⟨w.heap.size, 1, none⟩ = some (.int .i64 ((d : Nat) : Int)) := by rw [← hW]; simp
  have i2 : W.cell? ⟨w.heap.size, 2, none⟩ = some (.int .i64 ((x : Nat) : Int)) := by rw [← hW]; simp
  have i3 : W.cell? ⟨w.heap.size, 3, none⟩ = some (.int .i64 ((y : Nat) : Int)) := by rw [← hW]; simp
  have i4 : W.cell? ⟨w.heap.size, 4, none⟩ = some (.int .i64 imm) := by rw [← hW]; simp
  have i5 : W.cell? ⟨w.heap.size, 5, none⟩ = some (.string sym) := by rw [← hW]; simp
  have r0 : W.cell? ⟨g.rb, 0, none⟩ = some (.slice (some ⟨g.rg, 0, none⟩) s.regs.length s.regs.length) := HR.out.cell 0
  have vd := HR.out.reg hd
  have zd : W.frozen? ⟨g.rg, d, none⟩ = false := frozen_heap HR.out.regs d
  have d0 : (0 : Int) ≤ (d : Int) := by omega
  have d1 : (d : Int) < (s.regs.length : Int) := by omega
  have wd := HR.out.regw hd
  have d2 := wd.1
  have d3 := wd.2
  have Kd := Lib.hid wd
  clear wd
  have vx := HR.out.reg hx
  have zx : W.frozen? ⟨g.rg, x, none⟩ = false := frozen_heap HR.out.regs x
  have x0 : (0 : Int) ≤ (x : Int) := by omega
  have x1 : (x : Int) < (s.regs.length : Int) := by omega
  have wx := HR.out.regw hx
  have x2 := wx.1
  have x3 := wx.2
  have Kx := Lib.hid wx
  clear wx
  have vy := HR.out.reg hy
  have zy : W.frozen? ⟨g.rg, y, none⟩ = false := frozen_heap HR.out.regs y
  have y0 : (0 : Int) ≤ (y : Int) := by omega
  have y1 : (y : Int) < (s.regs.length : Int) := by omega
  have wy := HR.out.regw hy
  have y2 := wy.1
  have y3 := wy.2
  have Ky := Lib.hid wy
  clear wy
  clear h hB
  unfold Ins.val
  go_enter Tryd.func108, Tryd.ntmps108
  go_wp2_with fail
  clear hW
  obtain ⟨er, her⟩ : ∃ e, Wd.err imm (s.reg y) = e := ⟨_, rfl⟩
  obtain ⟨rv, hrv⟩ : ∃ v, Wd.apply imm (s.reg x) (s.reg y) = v := ⟨_, rfl⟩
  have HRW : Hid (Wd.W rv) := by show Wd.W _; rw [← hrv]; exact Wd.W_apply imm Kx.out Ky.out
  have HA : Hid (∀ n, Calls Tryd.prog 117 #[.int .u8 imm, .int .i32 (s.reg x), .int .i32 (s.reg y)] (World.drewN W n) (fun e w'' => e = .returned (.tuple #[.int .i32 rv, .int .i64 er]) ∧ ∃ m, w'' = W.drewN m)) := fun n => (apply_any imm (s.reg x) (s.reg y) ⟨by omega, by omega⟩ Kx.out Ky.out _).mono fun e w'' ⟨h1, h2⟩ => ⟨by rw [h1, her, hrv], n, h2.symm⟩
  have HER := Lib.hid her
  have HRV := Lib.hid hrv
  clear her hrv
  go_quiet (first | (go_at_call 117; with_reducible exact HA.out _))
  generalize hV : World.drewN _ _ = V
  have HRV' : Hid (RunAt N g names V ov s) := by show RunAt _ _ _ _ _ _; rw [← hV]; exact HR.out.same rfl
  have HFV : Hid (Frame g ov ov w V) := by show Frame _ _ _ _ _; rw [← hV]; exact ⟨HF.out.os, HF.out.tape, HF.out.output, HF.out.size, HF.out.block, HF.out.ovs⟩
  have q0 : V.cell? ⟨g.rb, 0, none⟩ = some (.slice (some ⟨g.rg, 0, none⟩) s.regs.length s.regs.length) := HRV'.out.cell 0
  have qd : V.cell? ⟨g.rg, d, none⟩ = some (.int .i32 (s.reg d)) := HRV'.out.reg hd
  have qz : V.frozen? ⟨g.rg, d, none⟩ = false := frozen_heap HRV'.out.regs d
  have j1 : V.cell? ⟨w.heap.size, 1, none⟩ = some (.int .i64 ((d : Nat) : Int)) := by rw [← hV]; exact i1
  clear hV r0 vd zd vx zx vy zy i0 i1 i2 i3 i4 i5
  by_cases h0 : er = 0
  · have hs3 : step names inp ⟨3, (d : Int), (x : Int), (y : Int), imm, sym⟩ s = .ok (s.setReg d rv) := by rw [step_3, HER.out, if_pos h0, HRV.out]
    have h0' : (er == 0) = true := by simpa using h0
    go_wp2_with fail
    go_region
    go_wp2_with fail
    go_ret
    exact StepOk.ok hs3 (HRV'.out.setReg (k := d) HRW.out) (HFV.out.trans (Frame.setCell g.rg d _ (.inr (.inl rfl)))) rfl rfl rfl rfl
  · have hs3 : step names inp ⟨3, (d : Int), (x : Int), (y : Int), imm, sym⟩ s = .error er := by rw [step_3, HER.out, if_neg h0]
    have h0' : (er == 0) = false := by simpa using h0
    go_wp2_with fail
    go_ret
    exact StepOk.trap hs3 HRV'.out HFV.out rfl rfl rfl rfl

end Go.Proofs.YteknhnnlhhgppaaDoor
