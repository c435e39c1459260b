/-
  Contracts: the first token of a text as far as names need it, and names (package lexer).
-/
import Derived.Test.YtkpdngfkdmllkaaDoorMg10
import Derived.WalkSpells
import Derived.Laws.Rows
namespace Go.Proofs.YtkpdngfkdmllkaaDoor
set_option linter.unusedVariables false
set_option linter.unusedSimpArgs false
open Go.RowKit
set_option maxRecDepth 100000

theorem Lx.run_drop (p : Int → Bool) (s : ByteArray) (j : Nat) (h : j < s.size) (hp : p s[j].toNat = true) : Lx.run p (s.toList.drop j) = 1 + Lx.run p (s.toList.drop (j + 1)) := by
  have e : s.toList.drop j = s[j] :: s.toList.drop (j + 1) := by
    rw [List.drop_eq_getElem_cons (by simpa [ByteArray.toList_eq] using h)]
    congr 1
    simp [ByteArray.toList_eq]; rfl
  rw [e, Lx.run, if_pos hp]
theorem Lx.run_stop (p : Int → Bool) (s : ByteArray) (j : Nat) (h : j < s.size) (hp : p s[j].toNat = false) : Lx.run p (s.toList.drop j) = 0 := by
  have e : s.toList.drop j = s[j] :: s.toList.drop (j + 1) := by
    rw [List.drop_eq_getElem_cons (by simpa [ByteArray.toList_eq] using h)]
    congr 1
    simp [ByteArray.toList_eq]; rfl
  rw [e, Lx.run, if_neg (by simp [hp])]


set_option maxHeartbeats 1000000 in
theorem countInner (b : Nat) (s : ByteArray) (w : World) (hs : s.size ≤ 9223372036854775807) (h1 : 1 ≤ s.size) (hc : w.cell? ⟨b, 0, none⟩ = some (.string s)) :
    Calls Tryd.prog 86 #[.func (.func 88) #[] #[], .pointer (some ⟨b, 0, none⟩)] w fun e w' => e = .returned (.int .i64 ((1 + Lx.run Lx.inner (s.toList.drop 1) : Nat) : Int)) ∧ w = w' := by
  obtain ⟨N, hN⟩ : ∃ N : Nat, 1 + Lx.run Lx.inner (s.toList.drop 1) = N := ⟨_, rfl⟩
  rw [hN]
  have HN := Lib.hid hN
  clear hN
  go_enter Tryd.func86, Tryd.ntmps86
  go_wp2_with fail
  go_loop [4] (fun n => ∃ j : Nat, 1 ≤ j ∧ j ≤ s.size ∧ n = .int .i64 j ∧ j + Lx.run Lx.inner (s.toList.drop j) = N) (fun n => s.size - (intOf n).toNat)
  case atStart => exact ⟨1, Nat.le_refl _, h1, rfl, HN.out⟩
  case round =>
    obtain ⟨j, hj1, hj, rfl, hrun⟩ := hrel
    have HR := Lib.hid hrun
    clear hrun
    by_cases hlt : j < s.size
    · cases hp : Lx.inner s[j].toNat with
      | true =>
        have HS := Lib.hid (Lx.run_drop Lx.inner s j hlt hp)
        go_wp2_with (go_at_call 88; refine (isInner_any _ _).mono ?_; rintro e w1 ⟨rfl, rfl⟩)
        go_round
        case rel => exact ⟨j + 1, by omega, by omega, by go_num, by have := HR.out; have := HS.out; omega⟩
        case measure => simp [intOf]; omega
      | false =>
        have HS := Lib.hid (Lx.run_stop Lx.inner s j hlt hp)
        go_wp2_with (go_at_call 88; refine (isInner_any _ _).mono ?_; rintro e w1 ⟨rfl, rfl⟩)
        go_ret
        exact ⟨congrArg (fun n : Nat => Ending.returned (.int .i64 (n : Int))) (by have := HR.out; have := HS.out; omega), rfl⟩
    · have e0 : Hid (Lx.run Lx.inner (s.toList.drop j) = 0) := by
        show _ = _
        rw [List.drop_eq_nil_of_le (by simp [ByteArray.toList_eq]; omega)]; rfl
      go_wp2_with fail
      go_ret
      exact ⟨congrArg (fun n : Nat => Ending.returned (.int .i64 (n : Int))) (by have := HR.out; have := e0.out; omega), rfl⟩

set_option maxHeartbeats 1000000 in
theorem countDigit (b : Nat) (s : ByteArray) (w : World) (hs : s.size ≤ 9223372036854775807) (h1 : 1 ≤ s.size) (hc : w.cell? ⟨b, 0, none⟩ = some (.string s)) :
    Calls Tryd.prog 86 #[.func (.func 89) #[] #[], .pointer (some ⟨b, 0, none⟩)] w fun e w' => e = .returned (.int .i64 ((1 + Lx.run Lx.digit (s.toList.drop 1) : Nat) : Int)) ∧ w = w' := by
  obtain ⟨N, hN⟩ : ∃ N : Nat, 1 + Lx.run Lx.digit (s.toList.drop 1) = N := ⟨_, rfl⟩
  rw [hN]
  have HN := Lib.hid hN
  clear hN
  go_enter Tryd.func86, Tryd.ntmps86
  go_wp2_with fail
  go_loop [4] (fun n => ∃ j : Nat, 1 ≤ j ∧ j ≤ s.size ∧ n = .int .i64 j ∧ j + Lx.run Lx.digit (s.toList.drop j) = N) (fun n => s.size - (intOf n).toNat)
  case atStart => exact ⟨1, Nat.le_refl _, h1, rfl, HN.out⟩
  case round =>
    obtain ⟨j, hj1, hj, rfl, hrun⟩ := hrel
    have HR := Lib.hid hrun
    clear hrun
    by_cases hlt : j < s.size
    · cases hp : Lx.digit s[j].toNat with
      | true =>
        have HS := Lib.hid (Lx.run_drop Lx.digit s j hlt hp)
        go_wp2_with (go_at_call 89; refine (isDigit_any _ _).mono ?_; rintro e w1 ⟨rfl, rfl⟩)
        go_round
        case rel => exact ⟨j + 1, by omega, by omega, by go_num, by have := HR.out; have := HS.out; omega⟩
        case measure => simp [intOf]; omega
      | false =>
        have HS := Lib.hid (Lx.run_stop Lx.digit s j hlt hp)
        go_wp2_with (go_at_call 89; refine (isDigit_any _ _).mono ?_; rintro e w1 ⟨rfl, rfl⟩)
        go_ret
        exact ⟨congrArg (fun n : Nat => Ending.returned (.int .i64 (n : Int))) (by have := HR.out; have := HS.out; omega), rfl⟩
    · have e0 : Hid (Lx.run Lx.digit (s.toList.drop j) = 0) := by
        show _ = _
        rw [List.drop_eq_nil_of_le (by simp [ByteArray.toList_eq]; omega)]; rfl
      go_wp2_with fail
      go_ret
      exact ⟨congrArg (fun n : Nat => Ending.returned (.int .i64 (n : Int))) (by have := HR.out; have := e0.out; omega), rfl⟩

set_option maxHeartbeats 1000000 in
theorem countSpace (b : Nat) (s : ByteArray) (w : World) (hs : s.size ≤ 9223372036854775807) (h1 : 1 ≤ s.size) (hc : w.cell? ⟨b, 0, none⟩ = some (.string s)) :
    Calls Tryd.prog 86 #[.func (.func 90) #[] #[], .pointer (some ⟨b, 0, none⟩)] w fun e w' => e = .returned (.int .i64 ((1 + Lx.run Lx.space (s.toList.drop 1) : Nat) : Int)) ∧ w = w' := by
  obtain ⟨N, hN⟩ : ∃ N : Nat, 1 + Lx.run Lx.space (s.toList.drop 1) = N := ⟨_, rfl⟩
  rw [hN]
  have HN := Lib.hid hN
  clear hN
  go_enter Tryd.func86, Tryd.ntmps86
  go_wp2_with fail
  go_loop [4] (fun n => ∃ j : Nat, 1 ≤ j ∧ j ≤ s.size ∧ n = .int .i64 j ∧ j + Lx.run Lx.space (s.toList.drop j) = N) (fun n => s.size - (intOf n).toNat)
  case atStart => exact ⟨1, Nat.le_refl _, h1, rfl, HN.out⟩
  case round =>
    obtain ⟨j, hj1, hj, rfl, hrun⟩ := hrel
    have HR := Lib.hid hrun
    clear hrun
    by_cases hlt : j < s.size
    · cases hp : Lx.space s[j].toNat with
      | true =>
        have HS := Lib.hid (Lx.run_drop Lx.space s j hlt hp)
        go_wp2_with (go_at_call 90; refine (isSpace_any _ _).mono ?_; rintro e w1 ⟨rfl, rfl⟩)
        go_round
        case rel => exact ⟨j + 1, by omega, by omega, by go_num, by have := HR.out; have := HS.out; omega⟩
        case measure => simp [intOf]; omega
      | false =>
        have HS := Lib.hid (Lx.run_stop Lx.space s j hlt hp)
        go_wp2_with (go_at_call 90; refine (isSpace_any _ _).mono ?_; rintro e w1 ⟨rfl, rfl⟩)
        go_ret
        exact ⟨congrArg (fun n : Nat => Ending.returned (.int .i64 (n : Int))) (by have := HR.out; have := HS.out; omega), rfl⟩
    · have e0 : Hid (Lx.run Lx.space (s.toList.drop j) = 0) := by
        show _ = _
        rw [List.drop_eq_nil_of_le (by simp [ByteArray.toList_eq]; omega)]; rfl
      go_wp2_with fail
      go_ret
      exact ⟨congrArg (fun n : Nat => Ending.returned (.int .i64 (n : Int))) (by have := HR.out; have := e0.out; omega), rfl⟩

set_option maxHeartbeats 1000000 in
theorem countOther (b : Nat) (s : ByteArray) (w : World) (hs : s.size ≤ 9223372036854775807) (h1 : 1 ≤ s.size) (hc : w.cell? ⟨b, 0, none⟩ = some (.string s)) :
    Calls Tryd.prog 86 #[.func (.func 91) #[] #[], .pointer (some ⟨b, 0, none⟩)] w fun e w' => e = .returned (.int .i64 ((1 + Lx.run Lx.other (s.toList.drop 1) : Nat) : Int)) ∧ w = w' := by
  obtain ⟨N, hN⟩ : ∃ N : Nat, 1 + Lx.run Lx.other (s.toList.drop 1) = N := ⟨_, rfl⟩
  rw [hN]
  have HN := Lib.hid hN
  clear hN
  go_enter Tryd.func86, Tryd.ntmps86
  go_wp2_with fail
  go_loop [4] (fun n => ∃ j : Nat, 1 ≤ j ∧ j ≤ s.size ∧ n = .int .i64 j ∧ j + Lx.run Lx.other (s.toList.drop j) = N) (fun n => s.size - (intOf n).toNat)
  case atStart => exact ⟨1, Nat.le_refl _, h1, rfl, HN.out⟩
  case round =>
    obtain ⟨j, hj1, hj, rfl, hrun⟩ := hrel
    have HR := Lib.hid hrun
    clear hrun
    by_cases hlt : j < s.size
    · cases hp : Lx.other s[j].toNat with
      | true =>
        have HS := Lib.hid (Lx.run_drop Lx.other s j hlt hp)
        go_wp2_with (go_at_call 91; refine (isOther_any _ _).mono ?_; rintro e w1 ⟨rfl, rfl⟩)
        go_round
        case rel => exact ⟨j + 1, by omega, by omega, by go_num, by have := HR.out; have := HS.out; omega⟩
        case measure => simp [intOf]; omega
      | false =>
        have HS := Lib.hid (Lx.run_stop Lx.other s j hlt hp)
        go_wp2_with (go_at_call 91; refine (isOther_any _ _).mono ?_; rintro e w1 ⟨rfl, rfl⟩)
        go_ret
        exact ⟨congrArg (fun n : Nat => Ending.returned (.int .i64 (n : Int))) (by have := HR.out; have := HS.out; omega), rfl⟩
    · have e0 : Hid (Lx.run Lx.other (s.toList.drop j) = 0) := by
        show _ = _
        rw [List.drop_eq_nil_of_le (by simp [ByteArray.toList_eq]; omega)]; rfl
      go_wp2_with fail
      go_ret
      exact ⟨congrArg (fun n : Nat => Ending.returned (.int .i64 (n : Int))) (by have := HR.out; have := e0.out; omega), rfl⟩

/-- some bool, and the world as it was -/
def SomeBool (w : World) (e : Ending) (w' : World) : Prop := ∃ b : Bool, e = .returned (.bool b) ∧ w = w'
theorem hasPrefix0_any (s p : ByteArray) (w : World) (_hs : s.size ≤ 9223372036854775807) (_hp : p.size ≤ 9223372036854775807) :
    Calls Tryd.prog 99 #[.string s, .string p] w (SomeBool w) := by
  by_cases h : p.size ≤ s.size
  all_goals
    go_enter Tryd.func99, Tryd.ntmps99
    go_wp2_with fail
    go_ret
    exact ⟨_, rfl, rfl⟩
theorem hasPrefix_any (s p : ByteArray) (w : World) (hs : s.size ≤ 9223372036854775807) (hp : p.size ≤ 9223372036854775807) :
    Calls Tryd.prog 92 #[.string s, .string p] w (SomeBool w) := by
  go_enter Tryd.func92, Tryd.ntmps92
  go_wp2_with fail
  refine (hasPrefix0_any _ _ _ hs hp).mono ?_
  rintro e w1 ⟨b, rfl, rfl⟩
  go_wp2_with fail
  go_ret
  exact ⟨_, rfl, rfl⟩
end Go.Proofs.YtkpdngfkdmllkaaDoor
