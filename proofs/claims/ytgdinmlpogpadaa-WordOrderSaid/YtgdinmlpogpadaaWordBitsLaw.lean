/-
  The walks of WordBits, WordLogic, WordOrder, WordUnary: each returns true, whatever the words.
-/
import Derived.Test.YtgdinmlpogpadaaWordBv
import Derived.Test.YtgdinmlpogpadaaWordLaw
import Derived.BigGuardPart
import Derived.Outline
namespace Go.Proofs.Ytgdinmlpogpadaa
open Go.RowKit
set_option maxRecDepth 100000

namespace Wd
/-- the complement -/
def flip (n : Int) : Int := apply 7 (wrap32 (-n)) 1
theorem W1 : W 1 := by unfold W; omega
theorem W_flip (n : Int) : W (flip n) := W_apply _ (W_wrap _) W1
theorem flip_bv (n : Int) : flip n = (~~~(B n)).toInt := by
  unfold flip; rw [sub_bv, neg_bv, B_toInt]; exact congrArg BitVec.toInt (bv_flip _)
theorem bits1 (x y : Int) : apply 6 (apply 11 x y) (apply 12 x y) = apply 6 x y := by
  rw [add_bv, add_bv, and_bv, or_bv, B_toInt, B_toInt, bv_and_or]
theorem bits2 (x y : Int) : apply 13 x y = apply 7 (apply 12 x y) (apply 11 x y) := by
  rw [sub_bv, xor_bv, and_bv, or_bv, B_toInt, B_toInt, bv_and_xor]
theorem bits3 (x y : Int) : flip (apply 11 x y) = apply 12 (flip x) (flip y) := by
  rw [flip_bv, flip_bv, flip_bv, and_bv, or_bv, B_toInt, B_toInt, B_toInt, BitVec.not_and]
theorem bits4 (x y : Int) (hx : W x) : apply 13 (apply 13 x y) y = x := by
  rw [xor_bv, xor_bv, B_toInt, BitVec.xor_assoc, BitVec.xor_self, BitVec.xor_zero, back hx]
theorem bits5 (x y : Int) (hx : W x) : apply 11 x (apply 12 x y) = x := by
  rw [and_bv, or_bv, B_toInt, bv_absorb, back hx]
end Wd

theorem flip_any (n : Int) (hn : Wd.W n) (w : World) :
    Calls Try.prog 19 #[.int .i32 n] w fun e w' => e = .returned (.int .i32 (Wd.flip n)) ∧ w = w' := by
  have w1 := Wd.W1
  have w2 := Wd.W_wrap (-n)
  go_enter Try.func19, Try.ntmps19
  go_wp2_with (first | (go_at_call 14; refine (op_any _ _ _ (by omega) w2 w1 _).mono ?_; rintro e w1 ⟨rfl, rfl⟩) | (go_at_call 18; refine (neg_any _ hn _).mono ?_; rintro e w1 ⟨rfl, rfl⟩))
  go_ret
  exact ⟨rfl, rfl⟩

set_option maxHeartbeats 1000000 in
theorem bits_any (x y : Int) (hx : Wd.W x) (hy : Wd.W y) (w : World) :
    Calls Try.prog 8 #[.int .i32 x, .int .i32 y] w fun e w' => e = .returned (.bool true) ∧ Grown w w' := by
  have wa := Wd.W_apply 11 hx hy
  have wo := Wd.W_apply 12 hx hy
  have wxor := Wd.W_apply 13 hx hy
  have wf1 := Wd.W_flip x
  have wf2 := Wd.W_flip y
  have t1 : (Wd.apply 6 (Wd.apply 11 x y) (Wd.apply 12 x y) == Wd.apply 6 x y) = true := by rw [Wd.bits1]; simp
  have t2 : (Wd.apply 13 x y == Wd.apply 7 (Wd.apply 12 x y) (Wd.apply 11 x y)) = true := by rw [← Wd.bits2]; simp
  have t3 : (Wd.flip (Wd.apply 11 x y) == Wd.apply 12 (Wd.flip x) (Wd.flip y)) = true := by rw [Wd.bits3]; simp
  have t4 : (Wd.apply 13 (Wd.apply 13 x y) y == x) = true := by rw [Wd.bits4 x y hx]; simp
  have t5 : (Wd.apply 11 x (Wd.apply 12 x y) == x) = true := by rw [Wd.bits5 x y hx]; simp
  go_enter Try.func8, Try.ntmps8
  go_wp2_with (first | (go_at_call 13; refine (awake_any _).mono ?_; rintro e w1 ⟨rfl, rfl⟩) | (go_at_call 14; refine (op_any _ _ _ (by omega) (by first | with_reducible exact hx | with_reducible exact wa | with_reducible exact wo | with_reducible exact wxor | with_reducible exact wf1) (by first | with_reducible exact hy | with_reducible exact wo | with_reducible exact wa | with_reducible exact wf2) _).mono ?_; rintro e w1 ⟨rfl, rfl⟩) | (go_at_call 19; refine (flip_any _ (by first | with_reducible exact hx | with_reducible exact hy | with_reducible exact wa) _).mono ?_; rintro e w1 ⟨rfl, rfl⟩))
  go_ret
  exact ⟨rfl, Grown.refl _⟩

namespace Wd
theorem tr_eq0 (b : Bool) : (tr b == 0) = !b := by cases b <;> rfl
theorem tr_eq1 (b : Bool) : (tr b == 1) = b := by cases b <;> rfl
theorem tr_mul (a b : Bool) : apply 8 (tr a) (tr b) = tr (a && b) := by cases a <;> cases b <;> decide +kernel
theorem tr_both (a b : Bool) : apply 22 (tr a) (tr b) = tr (a && b) := by cases a <;> cases b <;> rfl
theorem tr_either (a b : Bool) : apply 23 (tr a) (tr b) = tr (a || b) := by cases a <;> cases b <;> rfl
end Wd
set_option maxHeartbeats 1000000 in
theorem logic_any (x y : Int) (hx : Wd.W x) (hy : Wd.W y) (w : World) :
    Calls Try.prog 10 #[.int .i32 x, .int .i32 y] w fun e w' => e = .returned (.bool true) ∧ Grown w w' := by
  have wb := Wd.W_apply 22 hx hy
  have wt := Wd.W_tr
  have t1 : (Wd.apply 22 x y == Wd.apply 8 (Wd.tr (Wd.tr (x == 0) == 0)) (Wd.tr (Wd.tr (y == 0) == 0))) = true := by
    rw [Wd.tr_mul, Wd.tr_eq0, Wd.tr_eq0, Wd.a22]; simp [bne]
  have t2 : (Wd.apply 23 x y == Wd.tr (Wd.apply 8 (Wd.tr (x == 0)) (Wd.tr (y == 0)) == 0)) = true := by
    rw [Wd.tr_mul, Wd.tr_eq0, Wd.a23]; simp [bne]
  have t3 : (Wd.tr (Wd.apply 22 x y == 0) == Wd.apply 23 (Wd.tr (x == 0)) (Wd.tr (y == 0))) = true := by
    rw [Wd.tr_either, Wd.a22, Wd.tr_eq0]; simp [bne]
  have t4 : (Wd.apply 22 (Wd.tr (Wd.tr (x == 0) == 0)) (Wd.tr (Wd.tr (y == 0) == 0)) == Wd.apply 22 x y) = true := by
    rw [Wd.tr_both, Wd.tr_eq0, Wd.tr_eq0, Wd.a22]; simp [bne]
  have t5 : ((Wd.tr (Wd.tr (x == 0) == 0) == 1) == (x != 0)) = true := by rw [Wd.tr_eq1, Wd.tr_eq0]; simp [bne]
  go_enter Try.func10, Try.ntmps10
  go_wp2_with (first | (go_at_call 13; refine (awake_any _).mono ?_; rintro e w1 ⟨rfl, rfl⟩) | (go_at_call 14; refine (op_any _ _ _ (by omega) (by first | with_reducible exact hx | with_reducible exact wt _) (by first | with_reducible exact hy | with_reducible exact wt _) _).mono ?_; rintro e w1 ⟨rfl, rfl⟩) | (go_at_call 20; refine (not_any _ (by first | with_reducible exact hx | with_reducible exact hy | with_reducible exact wb | with_reducible exact wt _ | with_reducible exact Wd.W_apply _ (wt _) (wt _)) _).mono ?_; rintro e w1 ⟨rfl, rfl⟩))
  go_ret
  exact ⟨rfl, Grown.refl _⟩

set_option maxHeartbeats 1000000 in
theorem order_core (x y z l e g l2 l3 : Int) (hx : Wd.W x) (hy : Wd.W y) (hz : Wd.W z) (el : Wd.apply 18 x y = l) (ee : Wd.apply 16 x y = e) (eg : Wd.apply 20 x y = g) (el2 : Wd.apply 18 y z = l2) (el3 : Wd.apply 18 x z = l3)
    (ele : Wd.apply 19 x y = Wd.tr (g == 0)) (ege : Wd.apply 21 x y = Wd.tr (l == 0)) (ene : Wd.apply 17 x y = Wd.tr (e == 0)) (heq : ((e == 1) == (x == y)) = true)
    (h : l = 1 ∧ e = 0 ∧ g = 0 ∨ l = 0 ∧ e = 1 ∧ g = 0 ∨ l = 0 ∧ e = 0 ∧ g = 1) (h2 : l = 1 → (l2 = 0 ∨ l2 = 1 ∧ l3 = 1)) (w : World) :
    Calls Try.prog 9 #[.int .i32 x, .int .i32 y, .int .i32 z] w fun e w' => e = .returned (.bool true) ∧ Grown w w' := by
  have wg := Wd.W_apply 20 hx hy
  have wl := Wd.W_apply 18 hx hy
  have we := Wd.W_apply 16 hx hy
  have hn : (((e == 1) != (x == y)) = false) := by
    cases h1 : (e == 1) <;> cases h3 : (x == y) <;> simp_all
  clear heq
  rcases h with ⟨rfl, rfl, rfl⟩ | ⟨rfl, rfl, rfl⟩ | ⟨rfl, rfl, rfl⟩
  · have h2' := h2 rfl
    clear h2
    rw [eg] at wg; rw [el] at wl; rw [ee] at we
    have n1 : (Wd.tr ((0 : Int) == 0)) = 1 := rfl
    have n3 : Wd.tr true = 1 := rfl
    have n4 : Wd.tr false = 0 := rfl
    have n2 : (Wd.tr ((1 : Int) == 0)) = 0 := rfl
    rw [n1] at ele ene; rw [n2] at ege
    have hxy : (x == y) = false := by simpa using hn
    clear hn
    rcases h2' with rfl | ⟨rfl, rfl⟩
    all_goals
      go_enter Try.func9, Try.ntmps9
      go_wp2_with (first | (go_at_call 13; refine (awake_any _).mono ?_; rintro e w1 ⟨rfl, rfl⟩) | (go_at_call 14; refine (op_any _ _ _ (by omega) (by first | with_reducible exact hx | with_reducible exact hy) (by first | with_reducible exact hy | with_reducible exact hz) _).mono ?_; rintro e w1 ⟨rfl, rfl⟩) | (go_at_call 20; refine (not_any _ (by first | with_reducible exact wg | with_reducible exact wl | with_reducible exact we) _).mono ?_; rintro e w1 ⟨rfl, rfl⟩))
      go_ret
      exact ⟨rfl, Grown.refl _⟩
  · clear h2
    rw [eg] at wg; rw [el] at wl; rw [ee] at we
    have n1 : (Wd.tr ((0 : Int) == 0)) = 1 := rfl
    have n3 : Wd.tr true = 1 := rfl
    have n4 : Wd.tr false = 0 := rfl
    have n2 : (Wd.tr ((1 : Int) == 0)) = 0 := rfl
    rw [n1] at ele ege; rw [n2] at ene
    have hxy : (x == y) = true := by simpa using hn
    clear hn
    go_enter Try.func9, Try.ntmps9
    go_wp2_with (first | (go_at_call 13; refine (awake_any _).mono ?_; rintro e w1 ⟨rfl, rfl⟩) | (go_at_call 14; refine (op_any _ _ _ (by omega) (by first | with_reducible exact hx | with_reducible exact hy) (by first | with_reducible exact hy | with_reducible exact hz) _).mono ?_; rintro e w1 ⟨rfl, rfl⟩) | (go_at_call 20; refine (not_any _ (by first | with_reducible exact wg | with_reducible exact wl | with_reducible exact we) _).mono ?_; rintro e w1 ⟨rfl, rfl⟩))
    go_ret
    exact ⟨rfl, Grown.refl _⟩
  · clear h2
    rw [eg] at wg; rw [el] at wl; rw [ee] at we
    have n1 : (Wd.tr ((0 : Int) == 0)) = 1 := rfl
    have n3 : Wd.tr true = 1 := rfl
    have n4 : Wd.tr false = 0 := rfl
    have n2 : (Wd.tr ((1 : Int) == 0)) = 0 := rfl
    rw [n1] at ene ege; rw [n2] at ele
    have hxy : (x == y) = false := by simpa using hn
    clear hn
    go_enter Try.func9, Try.ntmps9
    go_wp2_with (first | (go_at_call 13; refine (awake_any _).mono ?_; rintro e w1 ⟨rfl, rfl⟩) | (go_at_call 14; refine (op_any _ _ _ (by omega) (by first | with_reducible exact hx | with_reducible exact hy) (by first | with_reducible exact hy | with_reducible exact hz) _).mono ?_; rintro e w1 ⟨rfl, rfl⟩) | (go_at_call 20; refine (not_any _ (by first | with_reducible exact wg | with_reducible exact wl | with_reducible exact we) _).mono ?_; rintro e w1 ⟨rfl, rfl⟩))
    go_ret
    exact ⟨rfl, Grown.refl _⟩
theorem order_any (x y z : Int) (hx : Wd.W x) (hy : Wd.W y) (hz : Wd.W z) (w : World) :
    Calls Try.prog 9 #[.int .i32 x, .int .i32 y, .int .i32 z] w fun e w' => e = .returned (.bool true) ∧ Grown w w' := by
  refine order_core x y z _ _ _ _ _ hx hy hz rfl rfl rfl rfl rfl ?_ ?_ ?_ ?_ ?_ ?_ w
  · rw [Wd.a19, Wd.a20, Wd.tr_eq0]; congr 1; by_cases h : x ≤ y <;> simp [h] <;> omega
  · rw [Wd.a21, Wd.a18, Wd.tr_eq0]; congr 1; by_cases h : y ≤ x <;> simp [h] <;> omega
  · rw [Wd.a17, Wd.a16, Wd.tr_eq0]; rfl
  · rw [Wd.a16, Wd.tr_eq1]; simp
  · rw [Wd.a18, Wd.a16, Wd.a20]
    rcases Int.lt_trichotomy x y with h | h | h
    · left; simp [Wd.tr]; omega
    · right; left; simp [Wd.tr]; omega
    · right; right; simp [Wd.tr]; omega
  · rw [Wd.a18, Wd.a18, Wd.a18]
    intro h
    have hxy : x < y := by
      by_cases hc : x < y
      · exact hc
      · simp [Wd.tr, hc] at h
    by_cases hyz : y < z
    · right; simp [Wd.tr, hyz]; omega
    · left; simp [Wd.tr, hyz]
end Go.Proofs.Ytgdinmlpogpadaa
