/-
  Contracts of the reference of layer 3: it returns what words compute.
-/
import Derived.Test.YtgochgcchkdlmaaDoorProg
import Derived.Test.YtgochgcchkdlmaaDoorRef03Plain
import Derived.Test.YtgochgcchkdlmaaDoorInBases
import Derived.LoopTactic
namespace Go.Proofs.YtgochgcchkdlmaaDoor
set_option linter.unusedVariables false
set_option linter.unusedSimpArgs false
open Go.RowKit
set_option maxRecDepth 100000

theorem refTruth_any (b : Bool) (w : World) : Calls Tryd.prog 75 #[.bool b] w fun e w' => e = .returned (.int .i32 (Wd.tr b)) ∧ w = w' := by
  cases b
  all_goals
    go_enter Tryd.func75, Tryd.ntmps75
    go_wp2
    go_ret
    exact ⟨rfl, rfl⟩

theorem refWrap_any (n : Int) (hn : -9223372036854775808 ≤ n ∧ n ≤ 9223372036854775807) (w : World) :
    Calls Tryd.prog 74 #[.int .i64 n] w fun e w' => e = .returned (.int .i32 (wrap32 n)) ∧ w = w' := by
  by_cases h : 0 ≤ n
  · have hm : 0 ≤ n % 4294967296 ∧ n % 4294967296 < 4294967296 := by omega
    go_enter Tryd.func74, Tryd.ntmps74
    go_wp2_with fail
    all_goals go_ret
    all_goals exact ⟨ret_int (by unfold wrap32; omega), rfl⟩
  · have e := Rf.tmod_neg n (by omega)
    have hm : 0 ≤ (-n) % 4294967296 ∧ (-n) % 4294967296 < 4294967296 := by omega
    obtain ⟨m, hmm⟩ : ∃ m, m = n.tmod 4294967296 := ⟨_, rfl⟩
    have E : Hid (m = -((-n) % 4294967296)) := by rw [hmm]; exact e
    have e' : n.tmod 4294967296 = m := hmm.symm
    have hm1 : -4294967296 < m ∧ m ≤ 0 := by have := E.out; omega
    clear e hmm
    go_enter Tryd.func74, Tryd.ntmps74
    go_wp2_with fail
    all_goals go_ret
    all_goals exact ⟨ret_int (by have := E.out; unfold wrap32; omega), rfl⟩

theorem refBit_any (x i : Int) (hx : Wd.W x) (hi : 0 ≤ i ∧ i ≤ 63) (w : World) :
    Calls Tryd.prog 99 #[.int .i32 x, .int .i64 i] w fun e w' => e = .returned (.int .i64 (Rf.bit x i.toNat)) ∧ w = w' := by
  obtain ⟨m, rfl⟩ := Int.eq_ofNat_of_zero_le hi.1
  rw [Int.toNat_natCast]
  unfold Wd.W at hx
  have hu : ∃ u : Int, 0 ≤ u ∧ u < 4294967296 ∧ x % 4294967296 = u := ⟨_, by omega, by omega, rfl⟩
  obtain ⟨u, hu0, hu1, hu2⟩ := hu
  have HU := Lib.hid hu2
  clear hu2
  have key : ∀ y : Int, (0 ≤ x → y = x) → (x < 0 → y = x + 4294967296) → y = u := by
    intro y h1 h2; have := HU.out; by_cases h : 0 ≤ x
    · rw [h1 h]; omega
    · rw [h2 (by omega)]; omega
  have KEY := Lib.hid key
  clear key
  by_cases hneg : x < 0
  all_goals
    go_enter Tryd.func99, Tryd.ntmps99
    go_wp2_with fail
    go_loop [1, 5] (fun i n => ∃ j : Nat, j ≤ m ∧ i = .int .i64 j ∧ n = .int .i64 (u / 2 ^ (m - j))) (fun i _ => (intOf i).toNat)
    case atStart =>
      refine ⟨m, Nat.le_refl _, rfl, ?_⟩
      have : (2 : Int) ^ (m - m) = 1 := by simp
      rw [this, Int.ediv_one]
      refine congrArg (Value.int .i64) (KEY.out _ ?_ ?_)
      all_goals (intro h; omega)
    case round =>
      obtain ⟨j, hj, rfl, rfl⟩ := hrel
      have hp : (0 : Int) < 2 ^ (m - j) := Int.pow_pos (by omega)
      have hd0 : 0 ≤ u / 2 ^ (m - j) := Int.ediv_nonneg hu0 (by omega)
      have hd1 : u / 2 ^ (m - j) ≤ 4294967295 := by have := Int.ediv_le_self (2 ^ (m - j)) hu0; omega
      by_cases hlt : 0 < j
      · have hs : Hid (u / 2 ^ (m - j) / 2 = u / 2 ^ (m - (j - 1))) := by
          show _ = _
          rw [Rf.shr_succ]; congr 2; omega
        go_wp2_with fail
        go_round
        case rel => exact ⟨j - 1, by omega, by go_num, by rw [← hs.out]⟩
        case measure => simp [intOf]; omega
      · go_wp2_with fail
        go_ret
        refine ⟨ret_int ?_, rfl⟩
        obtain rfl : j = 0 := by omega
        rw [Nat.sub_zero]; unfold Rf.bit; rw [HU.out]

set_option maxHeartbeats 1000000 in
theorem refBitsAnd (x y : Int) (hx : Wd.W x) (hy : Wd.W y) (w : World) :
    Calls Tryd.prog 76 #[.int .u8 11, .int .i32 x, .int .i32 y] w fun e w' => e = .returned (.int .i32 (Wd.apply 11 x y)) ∧ w = w' := by
  go_enter Tryd.func76, Tryd.ntmps76
  go_wp2_with fail
  go_loop [7, 8, 9] (fun n p i => ∃ j : Nat, j ≤ 32 ∧ i = .int .i64 j ∧ p = .int .i64 (2 ^ j) ∧ n = .int .i64 (Rf.acc 11 x y j)) (fun _ _ i => 32 - (intOf i).toNat)
  case atStart => exact ⟨0, by omega, rfl, rfl, rfl⟩
  case round =>
    obtain ⟨j, hj, rfl, rfl, rfl⟩ := hrel
    have ha := Rf.acc_le 11 x y j
    have hb1 := Rf.bit_01 x j
    have hb2 := Rf.bit_01 y j
    have hp : (2 : Int) ^ j ≤ 4294967296 := Rf.pow2_le j hj
    have hp0 : (0 : Int) < 2 ^ j := Int.pow_pos (by omega)
    have HP : Hid ((2 : Int) ^ (j + 1) = 2 * 2 ^ j) := by show _ = _; rw [Int.pow_succ, Int.mul_comm]
    have HA : Hid (Rf.acc 11 x y (j + 1) = Rf.acc 11 x y j + if Rf.hit 11 (Rf.bit x j + Rf.bit y j) then 2 ^ j else 0) := rfl
    by_cases hlt : j < 32
    · by_cases hs : Rf.bit x j + Rf.bit y j = 2
      · have hs1 : (Rf.bit x j + Rf.bit y j == 2) = true := by simpa using hs
        have HH : Hid (Rf.hit 11 (Rf.bit x j + Rf.bit y j) = true) := by show _ = _; simp [Rf.hit, hs]
        have HS := Lib.hid hs
        clear hs
        go_wp2_with fail
        refine (refBit_any _ _ hx ⟨by omega, by omega⟩ _).mono ?_
        rintro e w1 ⟨rfl, rfl⟩
        rw [Int.toNat_natCast]
        go_wp2_with fail
        refine (refBit_any _ _ hy ⟨by omega, by omega⟩ _).mono ?_
        rintro e w1 ⟨rfl, rfl⟩
        rw [Int.toNat_natCast]
        go_wp2_with fail
        go_round
        case rel => exact ⟨j + 1, by omega, by go_num, by rw [HP.out], by rw [HA.out, if_pos HH.out]⟩
        case measure => simp [intOf]; omega
      · have hs1 : (Rf.bit x j + Rf.bit y j == 2) = false := by simpa using hs
        have HH : Hid (¬ Rf.hit 11 (Rf.bit x j + Rf.bit y j) = true) := by show ¬ _; simpa [Rf.hit] using hs
        clear hs
        go_wp2_with fail
        refine (refBit_any _ _ hx ⟨by omega, by omega⟩ _).mono ?_
        rintro e w1 ⟨rfl, rfl⟩
        rw [Int.toNat_natCast]
        go_wp2_with fail
        refine (refBit_any _ _ hy ⟨by omega, by omega⟩ _).mono ?_
        rintro e w1 ⟨rfl, rfl⟩
        rw [Int.toNat_natCast]
        go_wp2_with fail
        go_round
        case rel => exact ⟨j + 1, by omega, by go_num, by rw [HP.out], by rw [HA.out, if_neg HH.out, Int.add_zero]⟩
        case measure => simp [intOf]; omega
    · obtain rfl : j = 32 := by omega
      go_wp2_with (go_at_call 74; refine (refWrap_any _ (by omega) _).mono ?_; rintro e w1 ⟨rfl, rfl⟩)
      go_ret
      exact ⟨ret_int (Rf.acc_and x y), rfl⟩

set_option maxHeartbeats 1000000 in
theorem refBitsOr (x y : Int) (hx : Wd.W x) (hy : Wd.W y) (w : World) :
    Calls Tryd.prog 76 #[.int .u8 12, .int .i32 x, .int .i32 y] w fun e w' => e = .returned (.int .i32 (Wd.apply 12 x y)) ∧ w = w' := by
  go_enter Tryd.func76, Tryd.ntmps76
  go_wp2_with fail
  go_loop [7, 8, 9] (fun n p i => ∃ j : Nat, j ≤ 32 ∧ i = .int .i64 j ∧ p = .int .i64 (2 ^ j) ∧ n = .int .i64 (Rf.acc 12 x y j)) (fun _ _ i => 32 - (intOf i).toNat)
  case atStart => exact ⟨0, by omega, rfl, rfl, rfl⟩
  case round =>
    obtain ⟨j, hj, rfl, rfl, rfl⟩ := hrel
    have ha := Rf.acc_le 12 x y j
    have hb1 := Rf.bit_01 x j
    have hb2 := Rf.bit_01 y j
    have hp : (2 : Int) ^ j ≤ 4294967296 := Rf.pow2_le j hj
    have hp0 : (0 : Int) < 2 ^ j := Int.pow_pos (by omega)
    have HP : Hid ((2 : Int) ^ (j + 1) = 2 * 2 ^ j) := by show _ = _; rw [Int.pow_succ, Int.mul_comm]
    have HA : Hid (Rf.acc 12 x y (j + 1) = Rf.acc 12 x y j + if Rf.hit 12 (Rf.bit x j + Rf.bit y j) then 2 ^ j else 0) := rfl
    by_cases hlt : j < 32
    · by_cases hs : 1 ≤ Rf.bit x j + Rf.bit y j
      · have hs1 : (decide (1 ≤ Rf.bit x j + Rf.bit y j)) = true := by simpa using hs
        have HH : Hid (Rf.hit 12 (Rf.bit x j + Rf.bit y j) = true) := by show _ = _; simp [Rf.hit, hs]
        have HS := Lib.hid hs
        clear hs
        go_wp2_with fail
        refine (refBit_any _ _ hx ⟨by omega, by omega⟩ _).mono ?_
        rintro e w1 ⟨rfl, rfl⟩
        rw [Int.toNat_natCast]
        go_wp2_with fail
        refine (refBit_any _ _ hy ⟨by omega, by omega⟩ _).mono ?_
        rintro e w1 ⟨rfl, rfl⟩
        rw [Int.toNat_natCast]
        go_wp2_with fail
        go_round
        case rel => exact ⟨j + 1, by omega, by go_num, by rw [HP.out], by rw [HA.out, if_pos HH.out]⟩
        case measure => simp [intOf]; omega
      · have hs1 : (decide (1 ≤ Rf.bit x j + Rf.bit y j)) = false := by simpa using hs
        have HH : Hid (¬ Rf.hit 12 (Rf.bit x j + Rf.bit y j) = true) := by show ¬ _; simpa [Rf.hit] using hs
        clear hs
        go_wp2_with fail
        refine (refBit_any _ _ hx ⟨by omega, by omega⟩ _).mono ?_
        rintro e w1 ⟨rfl, rfl⟩
        rw [Int.toNat_natCast]
        go_wp2_with fail
        refine (refBit_any _ _ hy ⟨by omega, by omega⟩ _).mono ?_
        rintro e w1 ⟨rfl, rfl⟩
        rw [Int.toNat_natCast]
        go_wp2_with fail
        go_round
        case rel => exact ⟨j + 1, by omega, by go_num, by rw [HP.out], by rw [HA.out, if_neg HH.out, Int.add_zero]⟩
        case measure => simp [intOf]; omega
    · obtain rfl : j = 32 := by omega
      go_wp2_with (go_at_call 74; refine (refWrap_any _ (by omega) _).mono ?_; rintro e w1 ⟨rfl, rfl⟩)
      go_ret
      exact ⟨ret_int (Rf.acc_or x y), rfl⟩

set_option maxHeartbeats 1000000 in
theorem refBitsXor (x y : Int) (hx : Wd.W x) (hy : Wd.W y) (w : World) :
    Calls Tryd.prog 76 #[.int .u8 13, .int .i32 x, .int .i32 y] w fun e w' => e = .returned (.int .i32 (Wd.apply 13 x y)) ∧ w = w' := by
  go_enter Tryd.func76, Tryd.ntmps76
  go_wp2_with fail
  go_loop [7, 8, 9] (fun n p i => ∃ j : Nat, j ≤ 32 ∧ i = .int .i64 j ∧ p = .int .i64 (2 ^ j) ∧ n = .int .i64 (Rf.acc 13 x y j)) (fun _ _ i => 32 - (intOf i).toNat)
  case atStart => exact ⟨0, by omega, rfl, rfl, rfl⟩
  case round =>
    obtain ⟨j, hj, rfl, rfl, rfl⟩ := hrel
    have ha := Rf.acc_le 13 x y j
    have hb1 := Rf.bit_01 x j
    have hb2 := Rf.bit_01 y j
    have hp : (2 : Int) ^ j ≤ 4294967296 := Rf.pow2_le j hj
    have hp0 : (0 : Int) < 2 ^ j := Int.pow_pos (by omega)
    have HP : Hid ((2 : Int) ^ (j + 1) = 2 * 2 ^ j) := by show _ = _; rw [Int.pow_succ, Int.mul_comm]
    have HA : Hid (Rf.acc 13 x y (j + 1) = Rf.acc 13 x y j + if Rf.hit 13 (Rf.bit x j + Rf.bit y j) then 2 ^ j else 0) := rfl
    by_cases hlt : j < 32
    · by_cases hs : Rf.bit x j + Rf.bit y j = 1
      · have hs1 : (Rf.bit x j + Rf.bit y j == 1) = true := by simpa using hs
        have HH : Hid (Rf.hit 13 (Rf.bit x j + Rf.bit y j) = true) := by show _ = _; simp [Rf.hit, hs]
        have HS := Lib.hid hs
        clear hs
        go_wp2_with fail
        refine (refBit_any _ _ hx ⟨by omega, by omega⟩ _).mono ?_
        rintro e w1 ⟨rfl, rfl⟩
        rw [Int.toNat_natCast]
        go_wp2_with fail
        refine (refBit_any _ _ hy ⟨by omega, by omega⟩ _).mono ?_
        rintro e w1 ⟨rfl, rfl⟩
        rw [Int.toNat_natCast]
        go_wp2_with fail
        go_round
        case rel => exact ⟨j + 1, by omega, by go_num, by rw [HP.out], by rw [HA.out, if_pos HH.out]⟩
        case measure => simp [intOf]; omega
      · have hs1 : (Rf.bit x j + Rf.bit y j == 1) = false := by simpa using hs
        have HH : Hid (¬ Rf.hit 13 (Rf.bit x j + Rf.bit y j) = true) := by show ¬ _; simpa [Rf.hit] using hs
        clear hs
        go_wp2_with fail
        refine (refBit_any _ _ hx ⟨by omega, by omega⟩ _).mono ?_
        rintro e w1 ⟨rfl, rfl⟩
        rw [Int.toNat_natCast]
        go_wp2_with fail
        refine (refBit_any _ _ hy ⟨by omega, by omega⟩ _).mono ?_
        rintro e w1 ⟨rfl, rfl⟩
        rw [Int.toNat_natCast]
        go_wp2_with fail
        go_round
        case rel => exact ⟨j + 1, by omega, by go_num, by rw [HP.out], by rw [HA.out, if_neg HH.out, Int.add_zero]⟩
        case measure => simp [intOf]; omega
    · obtain rfl : j = 32 := by omega
      go_wp2_with (go_at_call 74; refine (refWrap_any _ (by omega) _).mono ?_; rintro e w1 ⟨rfl, rfl⟩)
      go_ret
      exact ⟨ret_int (Rf.acc_xor x y), rfl⟩

theorem refCount_any (y : Int) (hy : Wd.W y) (w : World) :
    Calls Tryd.prog 78 #[.int .i32 y] w fun e w' => e = .returned (.int .i64 (y % 32)) ∧ w = w' := by
  unfold Wd.W at hy
  by_cases h : 0 ≤ y
  · go_enter Tryd.func78, Tryd.ntmps78
    go_wp2_with fail
    all_goals go_ret
    all_goals exact ⟨ret_int (by omega), rfl⟩
  · have e := Rf.tmod32_neg y (by omega)
    obtain ⟨m, hmm⟩ : ∃ m, m = y.tmod 32 := ⟨_, rfl⟩
    have E : Hid (m = -((-y) % 32)) := by rw [hmm]; exact e
    have e' : y.tmod 32 = m := hmm.symm
    have hm1 : -32 < m ∧ m ≤ 0 := by have := E.out; omega
    clear e hmm
    go_enter Tryd.func78, Tryd.ntmps78
    go_wp2_with fail
    all_goals go_ret
    all_goals exact ⟨ret_int (by have := E.out; omega), rfl⟩

set_option maxHeartbeats 1000000 in
theorem refShl_any (x c : Int) (hx : Wd.W x) (hc : 0 ≤ c ∧ c ≤ 63) (w : World) :
    Calls Tryd.prog 77 #[.int .i32 x, .int .i64 c, .bool true] w fun e w' => e = .returned (.int .i32 (wrap32 (x * 2 ^ c.toNat))) ∧ w = w' := by
  obtain ⟨m, rfl⟩ := Int.eq_ofNat_of_zero_le hc.1
  rw [Int.toNat_natCast]
  go_enter Tryd.func77, Tryd.ntmps77
  go_wp2_with fail
  go_loop [0, 7] (fun v i => ∃ j : Nat, j ≤ m ∧ i = .int .i64 j ∧ v = .int .i32 (wrap32 (x * 2 ^ j))) (fun _ i => m - (intOf i).toNat)
  case atStart => exact ⟨0, by omega, rfl, by rw [Int.pow_zero, Int.mul_one, Wd.wrap_in hx]⟩
  case round =>
    obtain ⟨j, hj, rfl, rfl⟩ := hrel
    have hs := Lib.hid (Rf.shl_succ x j)
    have hw := Wd.W_wrap (x * 2 ^ j)
    unfold Wd.W at hw
    by_cases hlt : j < m
    · go_wp2_with (go_at_call 74; refine (refWrap_any _ (by omega) _).mono ?_; rintro e w1 ⟨rfl, rfl⟩)
      go_round
      case rel => exact ⟨j + 1, by omega, by go_num, by rw [hs.out]⟩
      case measure => simp [intOf]; omega
    · obtain rfl : j = m := by omega
      go_wp2_with fail
      go_ret
      exact ⟨rfl, rfl⟩

set_option maxHeartbeats 1000000 in
theorem refShr_any (x c : Int) (hx : Wd.W x) (hc : 0 ≤ c ∧ c ≤ 63) (w : World) :
    Calls Tryd.prog 77 #[.int .i32 x, .int .i64 c, .bool false] w fun e w' => e = .returned (.int .i32 (x / 2 ^ c.toNat)) ∧ w = w' := by
  obtain ⟨m, rfl⟩ := Int.eq_ofNat_of_zero_le hc.1
  rw [Int.toNat_natCast]
  go_enter Tryd.func77, Tryd.ntmps77
  go_wp2_with fail
  go_loop [0, 7] (fun v i => ∃ j : Nat, j ≤ m ∧ i = .int .i64 j ∧ v = .int .i32 (x / 2 ^ j)) (fun _ i => m - (intOf i).toNat)
  case atStart => exact ⟨0, by omega, rfl, by rw [Int.pow_zero, Int.ediv_one]⟩
  case round =>
    obtain ⟨j, hj, rfl, rfl⟩ := hrel
    have hs := Lib.hid (Rf.shr_succ x j)
    have hh := Rf.half (x / 2 ^ j)
    have hw := Wd.W_shr hx j
    have hb := Rf.bit_01 (x / 2 ^ j) 0
    have WW := hw
    unfold Wd.W at hw
    by_cases hlt : j < m
    · go_wp2_with fail
      refine (refBit_any _ _ WW ⟨by omega, by omega⟩ _).mono ?_
      rintro e w1 ⟨rfl, rfl⟩
      rw [show (0 : Int).toNat = 0 from rfl]
      go_wp2_with fail
      go_round
      case rel => exact ⟨j + 1, by omega, by go_num, by rw [← hs.out]⟩
      case measure => simp [intOf]; omega
    · obtain rfl : j = m := by omega
      go_wp2_with fail
      go_ret
      exact ⟨rfl, rfl⟩

set_option maxHeartbeats 1000000 in
theorem rap6 (x y : Int) (hx : Wd.W x) (hy : Wd.W y) (w : World) :
    Calls Tryd.prog 52 #[.int .u8 6, .int .i32 x, .int .i32 y] w fun e w' => e = .returned (.tuple #[.int .i32 (wrap32 (x + y)), .int .i64 0]) ∧ w = w' := by
  unfold Wd.W at hx hy
  go_enter Tryd.func52, Tryd.ntmps52
  go_wp2_with (go_at_call 74; refine (refWrap_any _ (by omega) _).mono ?_; rintro e w1 ⟨rfl, rfl⟩)
  go_ret2
  exact ⟨ret2_int rfl rfl, rfl⟩

set_option maxHeartbeats 1000000 in
theorem rap7 (x y : Int) (hx : Wd.W x) (hy : Wd.W y) (w : World) :
    Calls Tryd.prog 52 #[.int .u8 7, .int .i32 x, .int .i32 y] w fun e w' => e = .returned (.tuple #[.int .i32 (wrap32 (x - y)), .int .i64 0]) ∧ w = w' := by
  unfold Wd.W at hx hy
  go_enter Tryd.func52, Tryd.ntmps52
  go_wp2_with (go_at_call 74; refine (refWrap_any _ (by omega) _).mono ?_; rintro e w1 ⟨rfl, rfl⟩)
  go_ret2
  exact ⟨ret2_int rfl rfl, rfl⟩

theorem mul_bd {x y : Int} (hx : Wd.W x) (hy : Wd.W y) : -4611686018427387904 ≤ x * y ∧ x * y ≤ 4611686018427387904 := by
  have h := Int.natAbs_mul x y
  unfold Wd.W at *
  have h1 : x.natAbs * y.natAbs ≤ 2147483648 * 2147483648 := Nat.mul_le_mul (by omega) (by omega)
  omega

set_option maxHeartbeats 1000000 in
theorem rap8 (x y : Int) (hx : Wd.W x) (hy : Wd.W y) (w : World) :
    Calls Tryd.prog 52 #[.int .u8 8, .int .i32 x, .int .i32 y] w fun e w' => e = .returned (.tuple #[.int .i32 (wrap32 (x * y)), .int .i64 0]) ∧ w = w' := by
  have hm := mul_bd hx hy
  unfold Wd.W at hx hy
  go_enter Tryd.func52, Tryd.ntmps52
  go_wp2_with (go_at_call 74; refine (refWrap_any _ (by omega) _).mono ?_; rintro e w1 ⟨rfl, rfl⟩)
  go_ret2
  exact ⟨ret2_int rfl rfl, rfl⟩

set_option maxHeartbeats 1000000 in
theorem rap9 (x y : Int) (hx : Wd.W x) (hy : Wd.W y) (h0 : (y == 0) = false) (h1 : ¬ y = 0) (w : World) :
    Calls Tryd.prog 52 #[.int .u8 9, .int .i32 x, .int .i32 y] w fun e w' => e = .returned (.tuple #[.int .i32 (wrap32 (x.tdiv y)), .int .i64 0]) ∧ w = w' := by
  have hd : -2147483648 ≤ x.tdiv y ∧ x.tdiv y ≤ 2147483648 := by
    have h1 : (x.tdiv y).natAbs = x.natAbs / y.natAbs := Int.natAbs_tdiv x y
    have h2 : x.natAbs / y.natAbs ≤ x.natAbs := Nat.div_le_self _ _
    unfold Wd.W at *
    omega
  unfold Wd.W at hx hy
  go_enter Tryd.func52, Tryd.ntmps52
  go_wp2_with (go_at_call 74; refine (refWrap_any _ (by omega) _).mono ?_; rintro e w1 ⟨rfl, rfl⟩)
  go_ret2
  exact ⟨ret2_int rfl rfl, rfl⟩

set_option maxHeartbeats 1000000 in
theorem rap9z (x y : Int) (hx : Wd.W x) (hy : Wd.W y) (h0 : (y == 0) = true) (w : World) :
    Calls Tryd.prog 52 #[.int .u8 9, .int .i32 x, .int .i32 y] w fun e w' => e = .returned (.tuple #[.int .i32 (0), .int .i64 9]) ∧ w = w' := by
  unfold Wd.W at hx hy
  go_enter Tryd.func52, Tryd.ntmps52
  go_wp2_with (go_at_call 74; refine (refWrap_any _ (by omega) _).mono ?_; rintro e w1 ⟨rfl, rfl⟩)
  go_ret2
  exact ⟨ret2_int rfl rfl, rfl⟩

set_option maxHeartbeats 1000000 in
theorem rap10 (x y : Int) (hx : Wd.W x) (hy : Wd.W y) (h0 : (y == 0) = false) (h1 : ¬ y = 0) (w : World) :
    Calls Tryd.prog 52 #[.int .u8 10, .int .i32 x, .int .i32 y] w fun e w' => e = .returned (.tuple #[.int .i32 (x.tmod y), .int .i64 0]) ∧ w = w' := by
  have hd : -2147483648 ≤ x.tdiv y ∧ x.tdiv y ≤ 2147483648 := by
    have h1 : (x.tdiv y).natAbs = x.natAbs / y.natAbs := Int.natAbs_tdiv x y
    have h2 : x.natAbs / y.natAbs ≤ x.natAbs := Nat.div_le_self _ _
    unfold Wd.W at *
    omega
  have hq := mul_bd (Wd.W_wrap (x.tdiv y)) hy
  have hr := Rf.ref_mod x y hx
  have hw := Wd.W_wrap (x.tdiv y)
  unfold Wd.W at hw
  unfold Wd.W at hx hy
  go_enter Tryd.func52, Tryd.ntmps52
  go_wp2_with fail
  refine (refWrap_any _ (by omega) _).mono ?_
  rintro e w1 ⟨rfl, rfl⟩
  go_wp2_with fail
  refine (refWrap_any _ (by omega) _).mono ?_
  rintro e w1 ⟨rfl, rfl⟩
  go_wp2_with fail
  go_ret2
  exact ⟨ret2_int rfl rfl, rfl⟩

set_option maxHeartbeats 1000000 in
theorem rap10z (x y : Int) (hx : Wd.W x) (hy : Wd.W y) (h0 : (y == 0) = true) (w : World) :
    Calls Tryd.prog 52 #[.int .u8 10, .int .i32 x, .int .i32 y] w fun e w' => e = .returned (.tuple #[.int .i32 (0), .int .i64 9]) ∧ w = w' := by
  unfold Wd.W at hx hy
  go_enter Tryd.func52, Tryd.ntmps52
  go_wp2_with (go_at_call 74; refine (refWrap_any _ (by omega) _).mono ?_; rintro e w1 ⟨rfl, rfl⟩)
  go_ret2
  exact ⟨ret2_int rfl rfl, rfl⟩

set_option maxHeartbeats 1000000 in
theorem rap11 (x y : Int) (hx : Wd.W x) (hy : Wd.W y) (w : World) :
    Calls Tryd.prog 52 #[.int .u8 11, .int .i32 x, .int .i32 y] w fun e w' => e = .returned (.tuple #[.int .i32 (Wd.apply 11 x y), .int .i64 0]) ∧ w = w' := by
  go_enter Tryd.func52, Tryd.ntmps52
  go_wp2_with (go_at_call 76; refine (refBitsAnd _ _ hx hy _).mono ?_; rintro e w1 ⟨rfl, rfl⟩)
  go_ret2
  exact ⟨ret2_int rfl rfl, rfl⟩

set_option maxHeartbeats 1000000 in
theorem rap12 (x y : Int) (hx : Wd.W x) (hy : Wd.W y) (w : World) :
    Calls Tryd.prog 52 #[.int .u8 12, .int .i32 x, .int .i32 y] w fun e w' => e = .returned (.tuple #[.int .i32 (Wd.apply 12 x y), .int .i64 0]) ∧ w = w' := by
  go_enter Tryd.func52, Tryd.ntmps52
  go_wp2_with (go_at_call 76; refine (refBitsOr _ _ hx hy _).mono ?_; rintro e w1 ⟨rfl, rfl⟩)
  go_ret2
  exact ⟨ret2_int rfl rfl, rfl⟩

set_option maxHeartbeats 1000000 in
theorem rap13 (x y : Int) (hx : Wd.W x) (hy : Wd.W y) (w : World) :
    Calls Tryd.prog 52 #[.int .u8 13, .int .i32 x, .int .i32 y] w fun e w' => e = .returned (.tuple #[.int .i32 (Wd.apply 13 x y), .int .i64 0]) ∧ w = w' := by
  go_enter Tryd.func52, Tryd.ntmps52
  go_wp2_with (go_at_call 76; refine (refBitsXor _ _ hx hy _).mono ?_; rintro e w1 ⟨rfl, rfl⟩)
  go_ret2
  exact ⟨ret2_int rfl rfl, rfl⟩

set_option maxHeartbeats 1000000 in
theorem rap14 (x y : Int) (hx : Wd.W x) (hy : Wd.W y) (w : World) :
    Calls Tryd.prog 52 #[.int .u8 14, .int .i32 x, .int .i32 y] w fun e w' => e = .returned (.tuple #[.int .i32 (wrap32 (x * 2 ^ (y % 32).toNat)), .int .i64 0]) ∧ w = w' := by
  go_enter Tryd.func52, Tryd.ntmps52
  go_wp2_with (first | (go_at_call 78; refine (refCount_any _ hy _).mono ?_; rintro e w1 ⟨rfl, rfl⟩) | (go_at_call 77; refine (refShl_any _ _ hx (by omega) _).mono ?_; rintro e w1 ⟨rfl, rfl⟩))
  go_ret2
  exact ⟨ret2_int rfl rfl, rfl⟩

set_option maxHeartbeats 1000000 in
theorem rap15 (x y : Int) (hx : Wd.W x) (hy : Wd.W y) (w : World) :
    Calls Tryd.prog 52 #[.int .u8 15, .int .i32 x, .int .i32 y] w fun e w' => e = .returned (.tuple #[.int .i32 (x / 2 ^ (y % 32).toNat), .int .i64 0]) ∧ w = w' := by
  go_enter Tryd.func52, Tryd.ntmps52
  go_wp2_with (first | (go_at_call 78; refine (refCount_any _ hy _).mono ?_; rintro e w1 ⟨rfl, rfl⟩) | (go_at_call 77; refine (refShr_any _ _ hx (by omega) _).mono ?_; rintro e w1 ⟨rfl, rfl⟩))
  go_ret2
  exact ⟨ret2_int rfl rfl, rfl⟩

set_option maxHeartbeats 1000000 in
theorem rap16 (x y : Int) (hx : Wd.W x) (hy : Wd.W y) (w : World) :
    Calls Tryd.prog 52 #[.int .u8 16, .int .i32 x, .int .i32 y] w fun e w' => e = .returned (.tuple #[.int .i32 (Wd.tr (x == y)), .int .i64 0]) ∧ w = w' := by
  unfold Wd.W at hx hy
  go_enter Tryd.func52, Tryd.ntmps52
  go_wp2_with (go_at_call 75; refine (refTruth_any _ _).mono ?_; rintro e w1 ⟨rfl, rfl⟩)
  go_ret2
  exact ⟨ret2_int rfl rfl, rfl⟩

set_option maxHeartbeats 1000000 in
theorem rap17 (x y : Int) (hx : Wd.W x) (hy : Wd.W y) (w : World) :
    Calls Tryd.prog 52 #[.int .u8 17, .int .i32 x, .int .i32 y] w fun e w' => e = .returned (.tuple #[.int .i32 (Wd.tr (x != y)), .int .i64 0]) ∧ w = w' := by
  unfold Wd.W at hx hy
  go_enter Tryd.func52, Tryd.ntmps52
  go_wp2_with (go_at_call 75; refine (refTruth_any _ _).mono ?_; rintro e w1 ⟨rfl, rfl⟩)
  go_ret2
  exact ⟨ret2_int rfl rfl, rfl⟩

set_option maxHeartbeats 1000000 in
theorem rap18 (x y : Int) (hx : Wd.W x) (hy : Wd.W y) (w : World) :
    Calls Tryd.prog 52 #[.int .u8 18, .int .i32 x, .int .i32 y] w fun e w' => e = .returned (.tuple #[.int .i32 (Wd.tr (decide (x < y))), .int .i64 0]) ∧ w = w' := by
  unfold Wd.W at hx hy
  go_enter Tryd.func52, Tryd.ntmps52
  go_wp2_with (go_at_call 75; refine (refTruth_any _ _).mono ?_; rintro e w1 ⟨rfl, rfl⟩)
  go_ret2
  exact ⟨ret2_int rfl rfl, rfl⟩

set_option maxHeartbeats 1000000 in
theorem rap19 (x y : Int) (hx : Wd.W x) (hy : Wd.W y) (w : World) :
    Calls Tryd.prog 52 #[.int .u8 19, .int .i32 x, .int .i32 y] w fun e w' => e = .returned (.tuple #[.int .i32 (Wd.tr (decide (x ≤ y))), .int .i64 0]) ∧ w = w' := by
  unfold Wd.W at hx hy
  go_enter Tryd.func52, Tryd.ntmps52
  go_wp2_with (go_at_call 75; refine (refTruth_any _ _).mono ?_; rintro e w1 ⟨rfl, rfl⟩)
  go_ret2
  exact ⟨ret2_int rfl rfl, rfl⟩

set_option maxHeartbeats 1000000 in
theorem rap20 (x y : Int) (hx : Wd.W x) (hy : Wd.W y) (w : World) :
    Calls Tryd.prog 52 #[.int .u8 20, .int .i32 x, .int .i32 y] w fun e w' => e = .returned (.tuple #[.int .i32 (Wd.tr (decide (y < x))), .int .i64 0]) ∧ w = w' := by
  unfold Wd.W at hx hy
  go_enter Tryd.func52, Tryd.ntmps52
  go_wp2_with (go_at_call 75; refine (refTruth_any _ _).mono ?_; rintro e w1 ⟨rfl, rfl⟩)
  go_ret2
  exact ⟨ret2_int rfl rfl, rfl⟩

set_option maxHeartbeats 1000000 in
theorem rap21 (x y : Int) (hx : Wd.W x) (hy : Wd.W y) (w : World) :
    Calls Tryd.prog 52 #[.int .u8 21, .int .i32 x, .int .i32 y] w fun e w' => e = .returned (.tuple #[.int .i32 (Wd.tr (decide (y ≤ x))), .int .i64 0]) ∧ w = w' := by
  unfold Wd.W at hx hy
  go_enter Tryd.func52, Tryd.ntmps52
  go_wp2_with (go_at_call 75; refine (refTruth_any _ _).mono ?_; rintro e w1 ⟨rfl, rfl⟩)
  go_ret2
  exact ⟨ret2_int rfl rfl, rfl⟩

set_option maxHeartbeats 400000 in
theorem rap22 (x y : Int) (hx : Wd.W x) (hy : Wd.W y) (w : World) :
    Calls Tryd.prog 52 #[.int .u8 22, .int .i32 x, .int .i32 y] w fun e w' => e = .returned (.tuple #[.int .i32 (Wd.tr (x != 0 && y != 0)), .int .i64 0]) ∧ w = w' := by
  unfold Wd.W at hx hy
  have key : ∀ b : Bool, b = (x != 0 && y != 0) → Calls Tryd.prog 52 #[.int .u8 22, .int .i32 x, .int .i32 y] w fun e w' => e = .returned (.tuple #[.int .i32 (Wd.tr b), .int .i64 0]) ∧ w = w' := by
    intro b hb
    have HB := Lib.hid hb
    clear hb
    by_cases hx0 : x = 0
    · subst hx0
      by_cases hy0 : y = 0
      · subst hy0
        go_enter Tryd.func52, Tryd.ntmps52
        go_wp2_with (go_at_call 75; refine (refTruth_any _ _).mono ?_; rintro e w1 ⟨rfl, rfl⟩)
        go_ret2
        exact ⟨ret2_int (congrArg Wd.tr (by rw [HB.out]; simp)) rfl, rfl⟩
      · have hy1 : (y != 0) = true := by simpa using hy0
        go_enter Tryd.func52, Tryd.ntmps52
        go_wp2_with (go_at_call 75; refine (refTruth_any _ _).mono ?_; rintro e w1 ⟨rfl, rfl⟩)
        go_ret2
        exact ⟨ret2_int (congrArg Wd.tr (by rw [HB.out]; simp [hy0])) rfl, rfl⟩
    · have hx1 : (x != 0) = true := by simpa using hx0
      by_cases hy0 : y = 0
      · subst hy0
        go_enter Tryd.func52, Tryd.ntmps52
        go_wp2_with (go_at_call 75; refine (refTruth_any _ _).mono ?_; rintro e w1 ⟨rfl, rfl⟩)
        go_ret2
        exact ⟨ret2_int (congrArg Wd.tr (by rw [HB.out]; simp [hx0])) rfl, rfl⟩
      · have hy1 : (y != 0) = true := by simpa using hy0
        go_enter Tryd.func52, Tryd.ntmps52
        go_wp2_with (go_at_call 75; refine (refTruth_any _ _).mono ?_; rintro e w1 ⟨rfl, rfl⟩)
        go_ret2
        exact ⟨ret2_int (congrArg Wd.tr (by rw [HB.out]; simp [hx0, hy0])) rfl, rfl⟩
  exact key _ rfl

set_option maxHeartbeats 400000 in
theorem rap23 (x y : Int) (hx : Wd.W x) (hy : Wd.W y) (w : World) :
    Calls Tryd.prog 52 #[.int .u8 23, .int .i32 x, .int .i32 y] w fun e w' => e = .returned (.tuple #[.int .i32 (Wd.tr (x != 0 || y != 0)), .int .i64 0]) ∧ w = w' := by
  unfold Wd.W at hx hy
  have key : ∀ b : Bool, b = (x != 0 || y != 0) → Calls Tryd.prog 52 #[.int .u8 23, .int .i32 x, .int .i32 y] w fun e w' => e = .returned (.tuple #[.int .i32 (Wd.tr b), .int .i64 0]) ∧ w = w' := by
    intro b hb
    have HB := Lib.hid hb
    clear hb
    by_cases hx0 : x = 0
    · subst hx0
      by_cases hy0 : y = 0
      · subst hy0
        go_enter Tryd.func52, Tryd.ntmps52
        go_wp2_with (go_at_call 75; refine (refTruth_any _ _).mono ?_; rintro e w1 ⟨rfl, rfl⟩)
        go_ret2
        exact ⟨ret2_int (congrArg Wd.tr (by rw [HB.out]; simp)) rfl, rfl⟩
      · have hy1 : (y != 0) = true := by simpa using hy0
        go_enter Tryd.func52, Tryd.ntmps52
        go_wp2_with (go_at_call 75; refine (refTruth_any _ _).mono ?_; rintro e w1 ⟨rfl, rfl⟩)
        go_ret2
        exact ⟨ret2_int (congrArg Wd.tr (by rw [HB.out]; simp [hy0])) rfl, rfl⟩
    · have hx1 : (x != 0) = true := by simpa using hx0
      by_cases hy0 : y = 0
      · subst hy0
        go_enter Tryd.func52, Tryd.ntmps52
        go_wp2_with (go_at_call 75; refine (refTruth_any _ _).mono ?_; rintro e w1 ⟨rfl, rfl⟩)
        go_ret2
        exact ⟨ret2_int (congrArg Wd.tr (by rw [HB.out]; simp [hx0])) rfl, rfl⟩
      · have hy1 : (y != 0) = true := by simpa using hy0
        go_enter Tryd.func52, Tryd.ntmps52
        go_wp2_with (go_at_call 75; refine (refTruth_any _ _).mono ?_; rintro e w1 ⟨rfl, rfl⟩)
        go_ret2
        exact ⟨ret2_int (congrArg Wd.tr (by rw [HB.out]; simp [hx0, hy0])) rfl, rfl⟩
  exact key _ rfl


set_option maxHeartbeats 400000 in
theorem rapElse (k x y : Int) (hk : 0 ≤ k ∧ k ≤ 255) (h : k < 6 ∨ 23 < k) (hx : Wd.W x) (hy : Wd.W y) (w : World) :
    Calls Tryd.prog 52 #[.int .u8 k, .int .i32 x, .int .i32 y] w fun e w' => e = .returned (.tuple #[.int .i32 0, .int .i64 1]) ∧ w = w' := by
  unfold Wd.W at hx hy
  rcases h with h | h
  all_goals
    go_enter Tryd.func52, Tryd.ntmps52
    go_wp2_with fail
    go_ret2
    exact ⟨rfl, rfl⟩

/-- ontimeref03.Apply, whatever the operator. -/
theorem refApply_any (k x y : Int) (hk : 0 ≤ k ∧ k ≤ 255) (hx : Wd.W x) (hy : Wd.W y) (w : World) :
    Calls Tryd.prog 52 #[.int .u8 k, .int .i32 x, .int .i32 y] w fun e w' => e = .returned (.tuple #[.int .i32 (Wd.apply k x y), .int .i64 (Wd.err k y)]) ∧ w = w' := by
  by_cases h : k < 6 ∨ 23 < k
  · rw [Wd.aelse k x y h, Wd.eelse k y h]; exact rapElse k x y hk h hx hy w
  · have hc : k = 6 ∨ k = 7 ∨ k = 8 ∨ k = 9 ∨ k = 10 ∨ k = 11 ∨ k = 12 ∨ k = 13 ∨ k = 14 ∨ k = 15 ∨ k = 16 ∨ k = 17 ∨ k = 18 ∨ k = 19 ∨ k = 20 ∨ k = 21 ∨ k = 22 ∨ k = 23 := by omega
    by_cases h2 : (k = 9 ∨ k = 10) ∧ y = 0
    · obtain ⟨h2, rfl⟩ := h2
      rcases h2 with rfl | rfl
      · exact rap9z x 0 hx hy rfl w
      · exact rap10z x 0 hx hy rfl w
    · rw [Wd.e0 k y (by omega) h2]
      rcases hc with rfl | rfl | rfl | rfl | rfl | rfl | rfl | rfl | rfl | rfl | rfl | rfl | rfl | rfl | rfl | rfl | rfl | rfl
      · exact rap6 x y hx hy w
      · exact rap7 x y hx hy w
      · exact rap8 x y hx hy w
      · have hy0 : ¬ y = 0 := fun h => h2 ⟨by omega, h⟩
        rw [Wd.a9, if_neg hy0]
        exact rap9 x y hx hy (by simpa using hy0) hy0 w
      · have hy0 : ¬ y = 0 := fun h => h2 ⟨by omega, h⟩
        rw [Wd.a10, if_neg hy0]
        exact rap10 x y hx hy (by simpa using hy0) hy0 w
      · exact rap11 x y hx hy w
      · exact rap12 x y hx hy w
      · exact rap13 x y hx hy w
      · exact rap14 x y hx hy w
      · exact rap15 x y hx hy w
      · exact rap16 x y hx hy w
      · exact rap17 x y hx hy w
      · exact rap18 x y hx hy w
      · exact rap19 x y hx hy w
      · exact rap20 x y hx hy w
      · exact rap21 x y hx hy w
      · exact rap22 x y hx hy w
      · exact rap23 x y hx hy w


theorem run4 (x : Int) (hx : Wd.W x) (w : World) :
    Calls Tryd.prog 51 #[.int .u8 4, .int .i32 x] w fun e w' => e = .returned (.tuple #[.int .i32 (wrap32 (-x)), .int .i64 0]) ∧ w = w' := by
  unfold Wd.W at hx
  go_enter Tryd.func51, Tryd.ntmps51
  go_wp2_with (go_at_call 74; refine (refWrap_any _ (by omega) _).mono ?_; rintro e w1 ⟨rfl, rfl⟩)
  go_ret2
  exact ⟨ret2_int (by first | rfl | (congr 1; omega)) rfl, rfl⟩
theorem run5 (x : Int) (hx : Wd.W x) (w : World) :
    Calls Tryd.prog 51 #[.int .u8 5, .int .i32 x] w fun e w' => e = .returned (.tuple #[.int .i32 (Wd.tr (x == 0)), .int .i64 0]) ∧ w = w' := by
  unfold Wd.W at hx
  go_enter Tryd.func51, Tryd.ntmps51
  go_wp2_with (go_at_call 75; refine (refTruth_any _ _).mono ?_; rintro e w1 ⟨rfl, rfl⟩)
  go_ret2
  exact ⟨ret2_int rfl rfl, rfl⟩
theorem runElse (k x : Int) (hk : 0 ≤ k ∧ k ≤ 255) (h : k < 4 ∨ 5 < k) (hx : Wd.W x) (w : World) :
    Calls Tryd.prog 51 #[.int .u8 k, .int .i32 x] w fun e w' => e = .returned (.tuple #[.int .i32 0, .int .i64 1]) ∧ w = w' := by
  unfold Wd.W at hx
  rcases h with h | h
  all_goals
    go_enter Tryd.func51, Tryd.ntmps51
    go_wp2_with fail
    go_ret2
    exact ⟨rfl, rfl⟩
/-- word.Unary, whatever the operator. -/
theorem refUnary_any (k x : Int) (hk : 0 ≤ k ∧ k ≤ 255) (hx : Wd.W x) (w : World) :
    Calls Tryd.prog 51 #[.int .u8 k, .int .i32 x] w fun e w' => e = .returned (.tuple #[.int .i32 (Wd.unary k x), .int .i64 (Wd.uerr k)]) ∧ w = w' := by
  by_cases h4 : k = 4
  · subst h4; exact run4 x hx w
  · by_cases h5 : k = 5
    · subst h5; exact run5 x hx w
    · have e1 : Wd.unary k x = 0 := by unfold Wd.unary; rw [if_neg h4, if_neg h5]
      have e2 : Wd.uerr k = 1 := by unfold Wd.uerr; rw [if_neg (by omega)]
      rw [e1, e2]
      exact runElse k x hk (by omega) hx w
end Go.Proofs.YtgochgcchkdlmaaDoor
