/-
  LexAll: several texts in one (Lex, LexName, LexFirst).
-/
import Derived.Test.YtgochgcchkdlmaaDoorProg
import Derived.WalkKit
import Derived.Lib.Hide
import Derived.LoopTactic
import Derived.BigGuardPart
import Derived.Outline
import Derived.WalkSpells
import Derived.Laws.Rows
import Derived.Below
/-
  Contracts: bytes, keywords and names (package lexer).
-/
namespace Go.Proofs.YtgochgcchkdlmaaDoor
set_option linter.unusedVariables false
set_option linter.unusedSimpArgs false
open Go.RowKit
set_option maxRecDepth 100000

namespace Lx
def letter (c : Int) : Bool := decide (97 ≤ c ∧ c ≤ 122)
def digit (c : Int) : Bool := decide (48 ≤ c ∧ c ≤ 57)
def inner (c : Int) : Bool := letter c || digit c
def space (c : Int) : Bool := decide (c = 32 ∨ c = 9 ∨ c = 13 ∨ c = 10)
def other (c : Int) : Bool := decide (¬ c = 10)
def kws : List (List UInt8) := [[97, 114, 114, 97, 121], [98, 111, 117, 110, 100], [101, 108, 115, 101], [102, 111, 114], [105, 102], [105, 110], [108, 111, 99, 107], [111, 117, 116], [112, 101, 114, 105, 111, 100], [115, 104, 97, 114, 101, 100], [116, 97, 115, 107], [118, 97, 114], [119, 104, 105, 108, 101]]
def keyword (l : List UInt8) : Bool := kws.contains l
/-- how many bytes at the head are of a kind -/
def run (p : Int → Bool) : List UInt8 → Nat
  | [] => 0
  | c :: r => if p c.toNat then 1 + run p r else 0
theorem run_le (p : Int → Bool) (l : List UInt8) : run p l ≤ l.length := by
  induction l with
  | nil => simp [run]
  | cons c r ih => simp only [run, List.length_cons]; split <;> omega
theorem run_all (p : Int → Bool) (l : List UInt8) : run p l = l.length ↔ l.all (fun c => p c.toNat) = true := by
  induction l with
  | nil => simp [run]
  | cons c r ih =>
    have := run_le p r
    simp only [run, List.length_cons, List.all_cons, Bool.and_eq_true]
    split
    · rename_i h; rw [← ih]; simp only [h, true_and]; omega
    · rename_i h; simp only [h]; simp
/-- a letter, then letters and digits -/
def startOk : List UInt8 → Bool
  | [] => false
  | c :: r => letter c.toNat && r.all (fun c => inner c.toNat)
/-- a name -/
def name (l : List UInt8) : Bool := decide (l.length ≤ 12) && !keyword l && startOk l
end Lx
theorem ret_bool' {a b : Bool} (h : a = b) : Ending.returned (.bool a) = .returned (.bool b) := by rw [h]

theorem isLetter_any (c : Int) (w : World) : Calls Tryd.prog 103 #[.int .u8 c] w fun e w' => e = .returned (.bool (Lx.letter c)) ∧ w = w' := by
  by_cases h1 : 97 ≤ c
  · by_cases h2 : c ≤ 122
    all_goals
      go_enter Tryd.func103, Tryd.ntmps103
      go_wp2_with fail
      go_ret
      exact ⟨ret_bool' (by simp [Lx.letter]; omega), rfl⟩
  · go_enter Tryd.func103, Tryd.ntmps103
    go_wp2_with fail
    go_ret
    exact ⟨ret_bool' (by simp [Lx.letter]; omega), rfl⟩

theorem isDigit_any (c : Int) (w : World) : Calls Tryd.prog 105 #[.int .u8 c] w fun e w' => e = .returned (.bool (Lx.digit c)) ∧ w = w' := by
  by_cases h1 : 48 ≤ c
  · by_cases h2 : c ≤ 57
    all_goals
      go_enter Tryd.func105, Tryd.ntmps105
      go_wp2_with fail
      go_ret
      exact ⟨ret_bool' (by simp [Lx.digit]; omega), rfl⟩
  · go_enter Tryd.func105, Tryd.ntmps105
    go_wp2_with fail
    go_ret
    exact ⟨ret_bool' (by simp [Lx.digit]; omega), rfl⟩

theorem isInner_any (c : Int) (w : World) : Calls Tryd.prog 104 #[.int .u8 c] w fun e w' => e = .returned (.bool (Lx.inner c)) ∧ w = w' := by
  have HI : Hid (Lx.inner c = (Lx.letter c || Lx.digit c)) := rfl
  cases hl : Lx.letter c with
  | true =>
    go_enter Tryd.func104, Tryd.ntmps104
    go_wp2_with (first | (go_at_call 103; refine (isLetter_any _ _).mono ?_; rintro e w1 ⟨rfl, rfl⟩) | (go_at_call 105; refine (isDigit_any _ _).mono ?_; rintro e w1 ⟨rfl, rfl⟩))
    go_ret
    exact ⟨ret_bool' (by rw [HI.out, hl]; rfl), rfl⟩
  | false =>
    go_enter Tryd.func104, Tryd.ntmps104
    go_wp2_with (first | (go_at_call 103; refine (isLetter_any _ _).mono ?_; rintro e w1 ⟨rfl, rfl⟩) | (go_at_call 105; refine (isDigit_any _ _).mono ?_; rintro e w1 ⟨rfl, rfl⟩))
    go_ret
    exact ⟨ret_bool' (by rw [HI.out, hl]; rfl), rfl⟩

theorem isSpace_any (c : Int) (w : World) : Calls Tryd.prog 106 #[.int .u8 c] w fun e w' => e = .returned (.bool (Lx.space c)) ∧ w = w' := by
  by_cases h : c = 32 ∨ c = 9 ∨ c = 13 ∨ c = 10
  · have HE : Hid (Lx.space c = true) := by show _ = _; simp [Lx.space, h]
    rcases h with rfl | rfl | rfl | rfl
    all_goals
      go_enter Tryd.func106, Tryd.ntmps106
      go_wp2_with fail
      go_ret
      exact ⟨rfl, rfl⟩
  · have HE : Hid (Lx.space c = false) := by show _ = _; simp only [Lx.space, decide_eq_false_iff_not]; exact h
    have d1 : (c == 32) = false := by simp; omega
    have d2 : (c == 9) = false := by simp; omega
    have d3 : (c == 13) = false := by simp; omega
    have d4 : (c == 10) = false := by simp; omega
    clear h
    go_enter Tryd.func106, Tryd.ntmps106
    go_wp2_with fail
    go_ret
    exact ⟨ret_bool' HE.out.symm, rfl⟩

theorem isOther_any (c : Int) (w : World) : Calls Tryd.prog 107 #[.int .u8 c] w fun e w' => e = .returned (.bool (Lx.other c)) ∧ w = w' := by
  go_enter Tryd.func107, Tryd.ntmps107
  go_wp2_with fail
  go_ret
  exact ⟨ret_bool' (by simp [Lx.other, bne]; rfl), rfl⟩

theorem keyword_0 (w : World) : Calls Tryd.prog 95 #[.string ⟨#[97, 114, 114, 97, 121]⟩] w fun e w' => e = .returned (.bool true) ∧ w = w' := by
  go_enter Tryd.func95, Tryd.ntmps95
  go_wp2_with fail
  go_ret
  exact ⟨rfl, rfl⟩

theorem keyword_1 (w : World) : Calls Tryd.prog 95 #[.string ⟨#[98, 111, 117, 110, 100]⟩] w fun e w' => e = .returned (.bool true) ∧ w = w' := by
  go_enter Tryd.func95, Tryd.ntmps95
  go_wp2_with fail
  go_ret
  exact ⟨rfl, rfl⟩

theorem keyword_2 (w : World) : Calls Tryd.prog 95 #[.string ⟨#[101, 108, 115, 101]⟩] w fun e w' => e = .returned (.bool true) ∧ w = w' := by
  go_enter Tryd.func95, Tryd.ntmps95
  go_wp2_with fail
  go_ret
  exact ⟨rfl, rfl⟩

theorem keyword_3 (w : World) : Calls Tryd.prog 95 #[.string ⟨#[102, 111, 114]⟩] w fun e w' => e = .returned (.bool true) ∧ w = w' := by
  go_enter Tryd.func95, Tryd.ntmps95
  go_wp2_with fail
  go_ret
  exact ⟨rfl, rfl⟩

theorem keyword_4 (w : World) : Calls Tryd.prog 95 #[.string ⟨#[105, 102]⟩] w fun e w' => e = .returned (.bool true) ∧ w = w' := by
  go_enter Tryd.func95, Tryd.ntmps95
  go_wp2_with fail
  go_ret
  exact ⟨rfl, rfl⟩

theorem keyword_5 (w : World) : Calls Tryd.prog 95 #[.string ⟨#[105, 110]⟩] w fun e w' => e = .returned (.bool true) ∧ w = w' := by
  go_enter Tryd.func95, Tryd.ntmps95
  go_wp2_with fail
  go_ret
  exact ⟨rfl, rfl⟩

theorem keyword_6 (w : World) : Calls Tryd.prog 95 #[.string ⟨#[108, 111, 99, 107]⟩] w fun e w' => e = .returned (.bool true) ∧ w = w' := by
  go_enter Tryd.func95, Tryd.ntmps95
  go_wp2_with fail
  go_ret
  exact ⟨rfl, rfl⟩

theorem keyword_7 (w : World) : Calls Tryd.prog 95 #[.string ⟨#[111, 117, 116]⟩] w fun e w' => e = .returned (.bool true) ∧ w = w' := by
  go_enter Tryd.func95, Tryd.ntmps95
  go_wp2_with fail
  go_ret
  exact ⟨rfl, rfl⟩

theorem keyword_8 (w : World) : Calls Tryd.prog 95 #[.string ⟨#[112, 101, 114, 105, 111, 100]⟩] w fun e w' => e = .returned (.bool true) ∧ w = w' := by
  go_enter Tryd.func95, Tryd.ntmps95
  go_wp2_with fail
  go_ret
  exact ⟨rfl, rfl⟩

theorem keyword_9 (w : World) : Calls Tryd.prog 95 #[.string ⟨#[115, 104, 97, 114, 101, 100]⟩] w fun e w' => e = .returned (.bool true) ∧ w = w' := by
  go_enter Tryd.func95, Tryd.ntmps95
  go_wp2_with fail
  go_ret
  exact ⟨rfl, rfl⟩

theorem keyword_10 (w : World) : Calls Tryd.prog 95 #[.string ⟨#[116, 97, 115, 107]⟩] w fun e w' => e = .returned (.bool true) ∧ w = w' := by
  go_enter Tryd.func95, Tryd.ntmps95
  go_wp2_with fail
  go_ret
  exact ⟨rfl, rfl⟩

theorem keyword_11 (w : World) : Calls Tryd.prog 95 #[.string ⟨#[118, 97, 114]⟩] w fun e w' => e = .returned (.bool true) ∧ w = w' := by
  go_enter Tryd.func95, Tryd.ntmps95
  go_wp2_with fail
  go_ret
  exact ⟨rfl, rfl⟩

theorem keyword_12 (w : World) : Calls Tryd.prog 95 #[.string ⟨#[119, 104, 105, 108, 101]⟩] w fun e w' => e = .returned (.bool true) ∧ w = w' := by
  go_enter Tryd.func95, Tryd.ntmps95
  go_wp2_with fail
  go_ret
  exact ⟨rfl, rfl⟩

theorem bytes_eq {s : ByteArray} {l : List UInt8} (h : s.toList = l) : s = ⟨l.toArray⟩ := by
  cases s with
  | mk d => have : d.toList = l := by rw [← h]; simp [ByteArray.toList_eq]
            subst this; rfl
theorem keyword_any (s : ByteArray) (w : World) : Calls Tryd.prog 95 #[.string s] w fun e w' => e = .returned (.bool (Lx.keyword s.toList)) ∧ w = w' := by
  by_cases h0 : s.toList = [97, 114, 114, 97, 121]
  · have e : s = ⟨#[97, 114, 114, 97, 121]⟩ := bytes_eq h0
    have e2 : Lx.keyword s.toList = true := by rw [h0]; decide
    rw [e2, e]; exact keyword_0 w
  by_cases h1 : s.toList = [98, 111, 117, 110, 100]
  · have e : s = ⟨#[98, 111, 117, 110, 100]⟩ := bytes_eq h1
    have e2 : Lx.keyword s.toList = true := by rw [h1]; decide
    rw [e2, e]; exact keyword_1 w
  by_cases h2 : s.toList = [101, 108, 115, 101]
  · have e : s = ⟨#[101, 108, 115, 101]⟩ := bytes_eq h2
    have e2 : Lx.keyword s.toList = true := by rw [h2]; decide
    rw [e2, e]; exact keyword_2 w
  by_cases h3 : s.toList = [102, 111, 114]
  · have e : s = ⟨#[102, 111, 114]⟩ := bytes_eq h3
    have e2 : Lx.keyword s.toList = true := by rw [h3]; decide
    rw [e2, e]; exact keyword_3 w
  by_cases h4 : s.toList = [105, 102]
  · have e : s = ⟨#[105, 102]⟩ := bytes_eq h4
    have e2 : Lx.keyword s.toList = true := by rw [h4]; decide
    rw [e2, e]; exact keyword_4 w
  by_cases h5 : s.toList = [105, 110]
  · have e : s = ⟨#[105, 110]⟩ := bytes_eq h5
    have e2 : Lx.keyword s.toList = true := by rw [h5]; decide
    rw [e2, e]; exact keyword_5 w
  by_cases h6 : s.toList = [108, 111, 99, 107]
  · have e : s = ⟨#[108, 111, 99, 107]⟩ := bytes_eq h6
    have e2 : Lx.keyword s.toList = true := by rw [h6]; decide
    rw [e2, e]; exact keyword_6 w
  by_cases h7 : s.toList = [111, 117, 116]
  · have e : s = ⟨#[111, 117, 116]⟩ := bytes_eq h7
    have e2 : Lx.keyword s.toList = true := by rw [h7]; decide
    rw [e2, e]; exact keyword_7 w
  by_cases h8 : s.toList = [112, 101, 114, 105, 111, 100]
  · have e : s = ⟨#[112, 101, 114, 105, 111, 100]⟩ := bytes_eq h8
    have e2 : Lx.keyword s.toList = true := by rw [h8]; decide
    rw [e2, e]; exact keyword_8 w
  by_cases h9 : s.toList = [115, 104, 97, 114, 101, 100]
  · have e : s = ⟨#[115, 104, 97, 114, 101, 100]⟩ := bytes_eq h9
    have e2 : Lx.keyword s.toList = true := by rw [h9]; decide
    rw [e2, e]; exact keyword_9 w
  by_cases h10 : s.toList = [116, 97, 115, 107]
  · have e : s = ⟨#[116, 97, 115, 107]⟩ := bytes_eq h10
    have e2 : Lx.keyword s.toList = true := by rw [h10]; decide
    rw [e2, e]; exact keyword_10 w
  by_cases h11 : s.toList = [118, 97, 114]
  · have e : s = ⟨#[118, 97, 114]⟩ := bytes_eq h11
    have e2 : Lx.keyword s.toList = true := by rw [h11]; decide
    rw [e2, e]; exact keyword_11 w
  by_cases h12 : s.toList = [119, 104, 105, 108, 101]
  · have e : s = ⟨#[119, 104, 105, 108, 101]⟩ := bytes_eq h12
    have e2 : Lx.keyword s.toList = true := by rw [h12]; decide
    rw [e2, e]; exact keyword_12 w
  have e2 : Hid (Lx.keyword s.toList = false) := by
    show _ = _
    simp [Lx.keyword, Lx.kws, h0, h1, h2, h3, h4, h5, h6, h7, h8, h9, h10, h11, h12]
  have b0 : (s.toList == [97, 114, 114, 97, 121]) = false := by simpa using h0
  clear h0
  have b1 : (s.toList == [98, 111, 117, 110, 100]) = false := by simpa using h1
  clear h1
  have b2 : (s.toList == [101, 108, 115, 101]) = false := by simpa using h2
  clear h2
  have b3 : (s.toList == [102, 111, 114]) = false := by simpa using h3
  clear h3
  have b4 : (s.toList == [105, 102]) = false := by simpa using h4
  clear h4
  have b5 : (s.toList == [105, 110]) = false := by simpa using h5
  clear h5
  have b6 : (s.toList == [108, 111, 99, 107]) = false := by simpa using h6
  clear h6
  have b7 : (s.toList == [111, 117, 116]) = false := by simpa using h7
  clear h7
  have b8 : (s.toList == [112, 101, 114, 105, 111, 100]) = false := by simpa using h8
  clear h8
  have b9 : (s.toList == [115, 104, 97, 114, 101, 100]) = false := by simpa using h9
  clear h9
  have b10 : (s.toList == [116, 97, 115, 107]) = false := by simpa using h10
  clear h10
  have b11 : (s.toList == [118, 97, 114]) = false := by simpa using h11
  clear h11
  have b12 : (s.toList == [119, 104, 105, 108, 101]) = false := by simpa using h12
  clear h12
  go_enter Tryd.func95, Tryd.ntmps95
  go_wp2_with fail
  go_ret
  exact ⟨ret_bool' e2.out.symm, rfl⟩
end Go.Proofs.YtgochgcchkdlmaaDoor

/-
  Contracts: the first token of a text as far as names need it, and names (package lexer).
-/
namespace Go.Proofs.YtgochgcchkdlmaaDoor
set_option linter.unusedVariables false
set_option linter.unusedSimpArgs false
open Go.RowKit
set_option maxRecDepth 100000

theorem Lx.run_drop (p : Int → Bool) (s : ByteArray) (j : Nat) (h : j < s.size) (hp : p s[j].toNat = true) : Lx.run p (s.toList.drop j) = 1 + Lx.run p (s.toList.drop (j + 1)) := by
  have e : s.toList.drop j = s[j] :: s.toList.drop (j + 1) := by
    rw [List.drop_eq_getElem_cons (by simpa [ByteArray.toList_eq] using h)]
    congr 1
    simp [ByteArray.toList_eq]; rfl
  rw [e, Lx.run, if_pos hp]
theorem Lx.run_stop (p : Int → Bool) (s : ByteArray) (j : Nat) (h : j < s.size) (hp : p s[j].toNat = false) : Lx.run p (s.toList.drop j) = 0 := by
  have e : s.toList.drop j = s[j] :: s.toList.drop (j + 1) := by
    rw [List.drop_eq_getElem_cons (by simpa [ByteArray.toList_eq] using h)]
    congr 1
    simp [ByteArray.toList_eq]; rfl
  rw [e, Lx.run, if_neg (by simp [hp])]


set_option maxHeartbeats 1000000 in
theorem countInner (b : Nat) (s : ByteArray) (w : World) (hs : s.size ≤ 9223372036854775807) (h1 : 1 ≤ s.size) (hc : w.cell? ⟨b, 0, none⟩ = some (.string s)) :
    Calls Tryd.prog 102 #[.func (.func 104) #[] #[], .pointer (some ⟨b, 0, none⟩)] w fun e w' => e = .returned (.int .i64 ((1 + Lx.run Lx.inner (s.toList.drop 1) : Nat) : Int)) ∧ w = w' := by
  obtain ⟨N, hN⟩ : ∃ N : Nat, 1 + Lx.run Lx.inner (s.toList.drop 1) = N := ⟨_, rfl⟩
  rw [hN]
  have HN := Lib.hid hN
  clear hN
  go_enter Tryd.func102, Tryd.ntmps102
  go_wp2_with fail
  go_loop [4] (fun n => ∃ j : Nat, 1 ≤ j ∧ j ≤ s.size ∧ n = .int .i64 j ∧ j + Lx.run Lx.inner (s.toList.drop j) = N) (fun n => s.size - (intOf n).toNat)
  case atStart => exact ⟨1, Nat.le_refl _, h1, rfl, HN.out⟩
  case round =>
    obtain ⟨j, hj1, hj, rfl, hrun⟩ := hrel
    have HR := Lib.hid hrun
    clear hrun
    by_cases hlt : j < s.size
    · cases hp : Lx.inner s[j].toNat with
      | true =>
        have HS := Lib.hid (Lx.run_drop Lx.inner s j hlt hp)
        go_wp2_with (go_at_call 104; refine (isInner_any _ _).mono ?_; rintro e w1 ⟨rfl, rfl⟩)
        go_round
        case rel => exact ⟨j + 1, by omega, by omega, by go_num, by have := HR.out; have := HS.out; omega⟩
        case measure => simp [intOf]; omega
      | false =>
        have HS := Lib.hid (Lx.run_stop Lx.inner s j hlt hp)
        go_wp2_with (go_at_call 104; refine (isInner_any _ _).mono ?_; rintro e w1 ⟨rfl, rfl⟩)
        go_ret
        exact ⟨congrArg (fun n : Nat => Ending.returned (.int .i64 (n : Int))) (by have := HR.out; have := HS.out; omega), rfl⟩
    · have e0 : Hid (Lx.run Lx.inner (s.toList.drop j) = 0) := by
        show _ = _
        rw [List.drop_eq_nil_of_le (by simp [ByteArray.toList_eq]; omega)]; rfl
      go_wp2_with fail
      go_ret
      exact ⟨congrArg (fun n : Nat => Ending.returned (.int .i64 (n : Int))) (by have := HR.out; have := e0.out; omega), rfl⟩

set_option maxHeartbeats 1000000 in
theorem countDigit (b : Nat) (s : ByteArray) (w : World) (hs : s.size ≤ 9223372036854775807) (h1 : 1 ≤ s.size) (hc : w.cell? ⟨b, 0, none⟩ = some (.string s)) :
    Calls Tryd.prog 102 #[.func (.func 105) #[] #[], .pointer (some ⟨b, 0, none⟩)] w fun e w' => e = .returned (.int .i64 ((1 + Lx.run Lx.digit (s.toList.drop 1) : Nat) : Int)) ∧ w = w' := by
  obtain ⟨N, hN⟩ : ∃ N : Nat, 1 + Lx.run Lx.digit (s.toList.drop 1) = N := ⟨_, rfl⟩
  rw [hN]
  have HN := Lib.hid hN
  clear hN
  go_enter Tryd.func102, Tryd.ntmps102
  go_wp2_with fail
  go_loop [4] (fun n => ∃ j : Nat, 1 ≤ j ∧ j ≤ s.size ∧ n = .int .i64 j ∧ j + Lx.run Lx.digit (s.toList.drop j) = N) (fun n => s.size - (intOf n).toNat)
  case atStart => exact ⟨1, Nat.le_refl _, h1, rfl, HN.out⟩
  case round =>
    obtain ⟨j, hj1, hj, rfl, hrun⟩ := hrel
    have HR := Lib.hid hrun
    clear hrun
    by_cases hlt : j < s.size
    · cases hp : Lx.digit s[j].toNat with
      | true =>
        have HS := Lib.hid (Lx.run_drop Lx.digit s j hlt hp)
        go_wp2_with (go_at_call 105; refine (isDigit_any _ _).mono ?_; rintro e w1 ⟨rfl, rfl⟩)
        go_round
        case rel => exact ⟨j + 1, by omega, by omega, by go_num, by have := HR.out; have := HS.out; omega⟩
        case measure => simp [intOf]; omega
      | false =>
        have HS := Lib.hid (Lx.run_stop Lx.digit s j hlt hp)
        go_wp2_with (go_at_call 105; refine (isDigit_any _ _).mono ?_; rintro e w1 ⟨rfl, rfl⟩)
        go_ret
        exact ⟨congrArg (fun n : Nat => Ending.returned (.int .i64 (n : Int))) (by have := HR.out; have := HS.out; omega), rfl⟩
    · have e0 : Hid (Lx.run Lx.digit (s.toList.drop j) = 0) := by
        show _ = _
        rw [List.drop_eq_nil_of_le (by simp [ByteArray.toList_eq]; omega)]; rfl
      go_wp2_with fail
      go_ret
      exact ⟨congrArg (fun n : Nat => Ending.returned (.int .i64 (n : Int))) (by have := HR.out; have := e0.out; omega), rfl⟩

set_option maxHeartbeats 1000000 in
theorem countSpace (b : Nat) (s : ByteArray) (w : World) (hs : s.size ≤ 9223372036854775807) (h1 : 1 ≤ s.size) (hc : w.cell? ⟨b, 0, none⟩ = some (.string s)) :
    Calls Tryd.prog 102 #[.func (.func 106) #[] #[], .pointer (some ⟨b, 0, none⟩)] w fun e w' => e = .returned (.int .i64 ((1 + Lx.run Lx.space (s.toList.drop 1) : Nat) : Int)) ∧ w = w' := by
  obtain ⟨N, hN⟩ : ∃ N : Nat, 1 + Lx.run Lx.space (s.toList.drop 1) = N := ⟨_, rfl⟩
  rw [hN]
  have HN := Lib.hid hN
  clear hN
  go_enter Tryd.func102, Tryd.ntmps102
  go_wp2_with fail
  go_loop [4] (fun n => ∃ j : Nat, 1 ≤ j ∧ j ≤ s.size ∧ n = .int .i64 j ∧ j + Lx.run Lx.space (s.toList.drop j) = N) (fun n => s.size - (intOf n).toNat)
  case atStart => exact ⟨1, Nat.le_refl _, h1, rfl, HN.out⟩
  case round =>
    obtain ⟨j, hj1, hj, rfl, hrun⟩ := hrel
    have HR := Lib.hid hrun
    clear hrun
    by_cases hlt : j < s.size
    · cases hp : Lx.space s[j].toNat with
      | true =>
        have HS := Lib.hid (Lx.run_drop Lx.space s j hlt hp)
        go_wp2_with (go_at_call 106; refine (isSpace_any _ _).mono ?_; rintro e w1 ⟨rfl, rfl⟩)
        go_round
        case rel => exact ⟨j + 1, by omega, by omega, by go_num, by have := HR.out; have := HS.out; omega⟩
        case measure => simp [intOf]; omega
      | false =>
        have HS := Lib.hid (Lx.run_stop Lx.space s j hlt hp)
        go_wp2_with (go_at_call 106; refine (isSpace_any _ _).mono ?_; rintro e w1 ⟨rfl, rfl⟩)
        go_ret
        exact ⟨congrArg (fun n : Nat => Ending.returned (.int .i64 (n : Int))) (by have := HR.out; have := HS.out; omega), rfl⟩
    · have e0 : Hid (Lx.run Lx.space (s.toList.drop j) = 0) := by
        show _ = _
        rw [List.drop_eq_nil_of_le (by simp [ByteArray.toList_eq]; omega)]; rfl
      go_wp2_with fail
      go_ret
      exact ⟨congrArg (fun n : Nat => Ending.returned (.int .i64 (n : Int))) (by have := HR.out; have := e0.out; omega), rfl⟩

set_option maxHeartbeats 1000000 in
theorem countOther (b : Nat) (s : ByteArray) (w : World) (hs : s.size ≤ 9223372036854775807) (h1 : 1 ≤ s.size) (hc : w.cell? ⟨b, 0, none⟩ = some (.string s)) :
    Calls Tryd.prog 102 #[.func (.func 107) #[] #[], .pointer (some ⟨b, 0, none⟩)] w fun e w' => e = .returned (.int .i64 ((1 + Lx.run Lx.other (s.toList.drop 1) : Nat) : Int)) ∧ w = w' := by
  obtain ⟨N, hN⟩ : ∃ N : Nat, 1 + Lx.run Lx.other (s.toList.drop 1) = N := ⟨_, rfl⟩
  rw [hN]
  have HN := Lib.hid hN
  clear hN
  go_enter Tryd.func102, Tryd.ntmps102
  go_wp2_with fail
  go_loop [4] (fun n => ∃ j : Nat, 1 ≤ j ∧ j ≤ s.size ∧ n = .int .i64 j ∧ j + Lx.run Lx.other (s.toList.drop j) = N) (fun n => s.size - (intOf n).toNat)
  case atStart => exact ⟨1, Nat.le_refl _, h1, rfl, HN.out⟩
  case round =>
    obtain ⟨j, hj1, hj, rfl, hrun⟩ := hrel
    have HR := Lib.hid hrun
    clear hrun
    by_cases hlt : j < s.size
    · cases hp : Lx.other s[j].toNat with
      | true =>
        have HS := Lib.hid (Lx.run_drop Lx.other s j hlt hp)
        go_wp2_with (go_at_call 107; refine (isOther_any _ _).mono ?_; rintro e w1 ⟨rfl, rfl⟩)
        go_round
        case rel => exact ⟨j + 1, by omega, by omega, by go_num, by have := HR.out; have := HS.out; omega⟩
        case measure => simp [intOf]; omega
      | false =>
        have HS := Lib.hid (Lx.run_stop Lx.other s j hlt hp)
        go_wp2_with (go_at_call 107; refine (isOther_any _ _).mono ?_; rintro e w1 ⟨rfl, rfl⟩)
        go_ret
        exact ⟨congrArg (fun n : Nat => Ending.returned (.int .i64 (n : Int))) (by have := HR.out; have := HS.out; omega), rfl⟩
    · have e0 : Hid (Lx.run Lx.other (s.toList.drop j) = 0) := by
        show _ = _
        rw [List.drop_eq_nil_of_le (by simp [ByteArray.toList_eq]; omega)]; rfl
      go_wp2_with fail
      go_ret
      exact ⟨congrArg (fun n : Nat => Ending.returned (.int .i64 (n : Int))) (by have := HR.out; have := e0.out; omega), rfl⟩

/-- some bool, and the world as it was -/
def SomeBool (w : World) (e : Ending) (w' : World) : Prop := ∃ b : Bool, e = .returned (.bool b) ∧ w = w'
theorem hasPrefix0_any (s p : ByteArray) (w : World) (_hs : s.size ≤ 9223372036854775807) (_hp : p.size ≤ 9223372036854775807) :
    Calls Tryd.prog 110 #[.string s, .string p] w (SomeBool w) := by
  by_cases h : p.size ≤ s.size
  all_goals
    go_enter Tryd.func110, Tryd.ntmps110
    go_wp2_with fail
    go_ret
    exact ⟨_, rfl, rfl⟩
theorem hasPrefix_any (s p : ByteArray) (w : World) (hs : s.size ≤ 9223372036854775807) (hp : p.size ≤ 9223372036854775807) :
    Calls Tryd.prog 108 #[.string s, .string p] w (SomeBool w) := by
  go_enter Tryd.func108, Tryd.ntmps108
  go_wp2_with fail
  refine (hasPrefix0_any _ _ _ hs hp).mono ?_
  rintro e w1 ⟨b, rfl, rfl⟩
  go_wp2_with fail
  go_ret
  exact ⟨_, rfl, rfl⟩
end Go.Proofs.YtgochgcchkdlmaaDoor

/-
  Contracts: the first token of a text as far as names need it, and names (package lexer).
-/
namespace Go.Proofs.YtgochgcchkdlmaaDoor
set_option linter.unusedVariables false
set_option linter.unusedSimpArgs false
open Go.RowKit
set_option maxRecDepth 100000

/-- the signs, as package lexer's table holds them -/
def signTab : List ByteArray := [⟨#[60, 60]⟩, ⟨#[62, 62]⟩, ⟨#[60, 61]⟩, ⟨#[62, 61]⟩, ⟨#[61, 61]⟩, ⟨#[33, 61]⟩, ⟨#[38, 38]⟩, ⟨#[124, 124]⟩, ⟨#[43]⟩, ⟨#[45]⟩, ⟨#[42]⟩, ⟨#[47]⟩, ⟨#[37]⟩, ⟨#[38]⟩, ⟨#[124]⟩, ⟨#[94]⟩, ⟨#[60]⟩, ⟨#[62]⟩, ⟨#[33]⟩, ⟨#[61]⟩, ⟨#[91]⟩, ⟨#[93]⟩, ⟨#[123]⟩, ⟨#[125]⟩, ⟨#[40]⟩, ⟨#[41]⟩, ⟨#[59]⟩, ⟨#[44]⟩]
def SG : Array Value := #[.string ⟨#[60, 60]⟩, .string ⟨#[62, 62]⟩, .string ⟨#[60, 61]⟩, .string ⟨#[62, 61]⟩, .string ⟨#[61, 61]⟩, .string ⟨#[33, 61]⟩, .string ⟨#[38, 38]⟩, .string ⟨#[124, 124]⟩, .string ⟨#[43]⟩, .string ⟨#[45]⟩, .string ⟨#[42]⟩, .string ⟨#[47]⟩, .string ⟨#[37]⟩, .string ⟨#[38]⟩, .string ⟨#[124]⟩, .string ⟨#[94]⟩, .string ⟨#[60]⟩, .string ⟨#[62]⟩, .string ⟨#[33]⟩, .string ⟨#[61]⟩, .string ⟨#[91]⟩, .string ⟨#[93]⟩, .string ⟨#[123]⟩, .string ⟨#[125]⟩, .string ⟨#[40]⟩, .string ⟨#[41]⟩, .string ⟨#[59]⟩, .string ⟨#[44]⟩]
def signAt (j : Nat) : ByteArray := signTab.getD j ⟨#[]⟩
theorem sign_size (j : Nat) : (signAt j).size ≤ 2 := by
  by_cases h : j < 28
  · have : ∀ j, j < 28 → (signAt j).size ≤ 2 := by decide
    exact this j h
  · unfold signAt; rw [List.getD_eq_getElem?_getD, List.getElem?_eq_none (by simp [signTab]; omega)]; decide
/-- the table lies in the memory -/
def SignsIn (w : World) : Prop := ∃ t fr, w.heap[0]? = some (.cells SG t fr)
theorem SignsIn.below {w w' : World} (h : SignsIn w) (hb : Below w.heap.size w w') : SignsIn w' := by
  obtain ⟨t, fr, h⟩ := h
  exact ⟨t, fr, (hb.block _ (Array.getElem?_eq_some_iff.1 h).1).trans h⟩
theorem sign_index0 (w : World) : (Instr.index 161 (.agg SG) (.int .i64 ((0 : Nat) : Int))).run Tryd.prog w = .ok (.string (signAt 0)) w := by kernel_rfl
theorem sign_index1 (w : World) : (Instr.index 161 (.agg SG) (.int .i64 ((1 : Nat) : Int))).run Tryd.prog w = .ok (.string (signAt 1)) w := by kernel_rfl
theorem sign_index2 (w : World) : (Instr.index 161 (.agg SG) (.int .i64 ((2 : Nat) : Int))).run Tryd.prog w = .ok (.string (signAt 2)) w := by kernel_rfl
theorem sign_index3 (w : World) : (Instr.index 161 (.agg SG) (.int .i64 ((3 : Nat) : Int))).run Tryd.prog w = .ok (.string (signAt 3)) w := by kernel_rfl
theorem sign_index4 (w : World) : (Instr.index 161 (.agg SG) (.int .i64 ((4 : Nat) : Int))).run Tryd.prog w = .ok (.string (signAt 4)) w := by kernel_rfl
theorem sign_index5 (w : World) : (Instr.index 161 (.agg SG) (.int .i64 ((5 : Nat) : Int))).run Tryd.prog w = .ok (.string (signAt 5)) w := by kernel_rfl
theorem sign_index6 (w : World) : (Instr.index 161 (.agg SG) (.int .i64 ((6 : Nat) : Int))).run Tryd.prog w = .ok (.string (signAt 6)) w := by kernel_rfl
theorem sign_index7 (w : World) : (Instr.index 161 (.agg SG) (.int .i64 ((7 : Nat) : Int))).run Tryd.prog w = .ok (.string (signAt 7)) w := by kernel_rfl
theorem sign_index8 (w : World) : (Instr.index 161 (.agg SG) (.int .i64 ((8 : Nat) : Int))).run Tryd.prog w = .ok (.string (signAt 8)) w := by kernel_rfl
theorem sign_index9 (w : World) : (Instr.index 161 (.agg SG) (.int .i64 ((9 : Nat) : Int))).run Tryd.prog w = .ok (.string (signAt 9)) w := by kernel_rfl
theorem sign_index10 (w : World) : (Instr.index 161 (.agg SG) (.int .i64 ((10 : Nat) : Int))).run Tryd.prog w = .ok (.string (signAt 10)) w := by kernel_rfl
theorem sign_index11 (w : World) : (Instr.index 161 (.agg SG) (.int .i64 ((11 : Nat) : Int))).run Tryd.prog w = .ok (.string (signAt 11)) w := by kernel_rfl
theorem sign_index12 (w : World) : (Instr.index 161 (.agg SG) (.int .i64 ((12 : Nat) : Int))).run Tryd.prog w = .ok (.string (signAt 12)) w := by kernel_rfl
theorem sign_index13 (w : World) : (Instr.index 161 (.agg SG) (.int .i64 ((13 : Nat) : Int))).run Tryd.prog w = .ok (.string (signAt 13)) w := by kernel_rfl
theorem sign_index14 (w : World) : (Instr.index 161 (.agg SG) (.int .i64 ((14 : Nat) : Int))).run Tryd.prog w = .ok (.string (signAt 14)) w := by kernel_rfl
theorem sign_index15 (w : World) : (Instr.index 161 (.agg SG) (.int .i64 ((15 : Nat) : Int))).run Tryd.prog w = .ok (.string (signAt 15)) w := by kernel_rfl
theorem sign_index16 (w : World) : (Instr.index 161 (.agg SG) (.int .i64 ((16 : Nat) : Int))).run Tryd.prog w = .ok (.string (signAt 16)) w := by kernel_rfl
theorem sign_index17 (w : World) : (Instr.index 161 (.agg SG) (.int .i64 ((17 : Nat) : Int))).run Tryd.prog w = .ok (.string (signAt 17)) w := by kernel_rfl
theorem sign_index18 (w : World) : (Instr.index 161 (.agg SG) (.int .i64 ((18 : Nat) : Int))).run Tryd.prog w = .ok (.string (signAt 18)) w := by kernel_rfl
theorem sign_index19 (w : World) : (Instr.index 161 (.agg SG) (.int .i64 ((19 : Nat) : Int))).run Tryd.prog w = .ok (.string (signAt 19)) w := by kernel_rfl
theorem sign_index20 (w : World) : (Instr.index 161 (.agg SG) (.int .i64 ((20 : Nat) : Int))).run Tryd.prog w = .ok (.string (signAt 20)) w := by kernel_rfl
theorem sign_index21 (w : World) : (Instr.index 161 (.agg SG) (.int .i64 ((21 : Nat) : Int))).run Tryd.prog w = .ok (.string (signAt 21)) w := by kernel_rfl
theorem sign_index22 (w : World) : (Instr.index 161 (.agg SG) (.int .i64 ((22 : Nat) : Int))).run Tryd.prog w = .ok (.string (signAt 22)) w := by kernel_rfl
theorem sign_index23 (w : World) : (Instr.index 161 (.agg SG) (.int .i64 ((23 : Nat) : Int))).run Tryd.prog w = .ok (.string (signAt 23)) w := by kernel_rfl
theorem sign_index24 (w : World) : (Instr.index 161 (.agg SG) (.int .i64 ((24 : Nat) : Int))).run Tryd.prog w = .ok (.string (signAt 24)) w := by kernel_rfl
theorem sign_index25 (w : World) : (Instr.index 161 (.agg SG) (.int .i64 ((25 : Nat) : Int))).run Tryd.prog w = .ok (.string (signAt 25)) w := by kernel_rfl
theorem sign_index26 (w : World) : (Instr.index 161 (.agg SG) (.int .i64 ((26 : Nat) : Int))).run Tryd.prog w = .ok (.string (signAt 26)) w := by kernel_rfl
theorem sign_index27 (w : World) : (Instr.index 161 (.agg SG) (.int .i64 ((27 : Nat) : Int))).run Tryd.prog w = .ok (.string (signAt 27)) w := by kernel_rfl
theorem sign_index : ∀ j, j < 28 → ∀ w : World, (Instr.index 161 (.agg SG) (.int .i64 (j : Nat))).run Tryd.prog w = .ok (.string (signAt j)) w := by
  intro j hj w
  have hc : j = 0 ∨ j = 1 ∨ j = 2 ∨ j = 3 ∨ j = 4 ∨ j = 5 ∨ j = 6 ∨ j = 7 ∨ j = 8 ∨ j = 9 ∨ j = 10 ∨ j = 11 ∨ j = 12 ∨ j = 13 ∨ j = 14 ∨ j = 15 ∨ j = 16 ∨ j = 17 ∨ j = 18 ∨ j = 19 ∨ j = 20 ∨ j = 21 ∨ j = 22 ∨ j = 23 ∨ j = 24 ∨ j = 25 ∨ j = 26 ∨ j = 27 := by omega
  rcases hc with rfl | rfl | rfl | rfl | rfl | rfl | rfl | rfl | rfl | rfl | rfl | rfl | rfl | rfl | rfl | rfl | rfl | rfl | rfl | rfl | rfl | rfl | rfl | rfl | rfl | rfl | rfl | rfl
  · exact sign_index0 w
  · exact sign_index1 w
  · exact sign_index2 w
  · exact sign_index3 w
  · exact sign_index4 w
  · exact sign_index5 w
  · exact sign_index6 w
  · exact sign_index7 w
  · exact sign_index8 w
  · exact sign_index9 w
  · exact sign_index10 w
  · exact sign_index11 w
  · exact sign_index12 w
  · exact sign_index13 w
  · exact sign_index14 w
  · exact sign_index15 w
  · exact sign_index16 w
  · exact sign_index17 w
  · exact sign_index18 w
  · exact sign_index19 w
  · exact sign_index20 w
  · exact sign_index21 w
  · exact sign_index22 w
  · exact sign_index23 w
  · exact sign_index24 w
  · exact sign_index25 w
  · exact sign_index26 w
  · exact sign_index27 w
theorem Tryd.signsInfo : (Tryd.prog.info? 161).map (·.size) = some SG.size := by kernel_rfl

set_option maxHeartbeats 1000000 in
theorem first_letter (s : ByteArray) (w : World) (hs : s.size ≤ 9223372036854775807) (h1 : 0 < s.size) (hl : Lx.letter s[0].toNat = true) :
    Calls Tryd.prog 96 #[.string s] w fun e w' => e = .returned (.tuple #[.int .u8 1, .int .i64 ((1 + Lx.run Lx.inner (s.toList.drop 1) : Nat) : Int)]) ∧ Below w.heap.size w w' := by
  obtain ⟨N, hN⟩ : ∃ N : Nat, 1 + Lx.run Lx.inner (s.toList.drop 1) = N := ⟨_, rfl⟩
  rw [hN]
  have HN := Lib.hid hN
  clear hN
  go_enter Tryd.func96, Tryd.ntmps96
  go_wp2_with (go_at_call 103; refine (isLetter_any _ _).mono ?_; rintro e w1 ⟨rfl, rfl⟩)
  refine (countInner _ s _ hs h1 (by go_simp)).mono ?_
  rintro e w1 ⟨rfl, rfl⟩
  rw [HN.out]
  go_wp2_with fail
  go_ret2
  exact ⟨rfl, (Below.refl _ _).alloc (Nat.le_refl _) _⟩

/-- a token that is no word -/
def NoWord (w : World) (e : Ending) (w' : World) : Prop := ∃ (k n : Int), e = .returned (.tuple #[.int .u8 k, .int .i64 n]) ∧ (k == 1) = false ∧ Below w.heap.size w w'

set_option maxHeartbeats 1000000 in
theorem first_other (s : ByteArray) (w : World) (hs : s.size ≤ 9223372036854775807) (h1 : 0 < s.size) (hl : Lx.letter s[0].toNat = false) (hg : SignsIn w) :
    Calls Tryd.prog 96 #[.string s] w (NoWord w) := by
  have hB0 : Below w.heap.size w (w.alloc (.cells #[.string s] 9)) := (Below.refl _ _).alloc (Nat.le_refl _) _
  obtain ⟨t, fr, hgg⟩ := hg.below hB0
  have HG := Lib.hid hgg
  clear hgg hg
  cases hd : Lx.digit s[0].toNat with
  | true =>
    go_enter Tryd.func96, Tryd.ntmps96
    go_wp2_with (first | (go_at_call 103; refine (isLetter_any _ _).mono ?_; rintro e w1 ⟨rfl, rfl⟩) | (go_at_call 105; refine (isDigit_any _ _).mono ?_; rintro e w1 ⟨rfl, rfl⟩))
    refine (countDigit _ s _ hs h1 (by go_simp)).mono ?_
    rintro e w1 ⟨rfl, rfl⟩
    go_wp2_with fail
    go_ret2
    exact ⟨_, _, rfl, rfl, hB0⟩
  | false =>
    cases hsp : Lx.space s[0].toNat with
    | true =>
      go_enter Tryd.func96, Tryd.ntmps96
      go_wp2_with (first | (go_at_call 103; refine (isLetter_any _ _).mono ?_; rintro e w1 ⟨rfl, rfl⟩) | (go_at_call 105; refine (isDigit_any _ _).mono ?_; rintro e w1 ⟨rfl, rfl⟩) | (go_at_call 106; refine (isSpace_any _ _).mono ?_; rintro e w1 ⟨rfl, rfl⟩))
      refine (countSpace _ s _ hs h1 (by go_simp)).mono ?_
      rintro e w1 ⟨rfl, rfl⟩
      go_wp2_with fail
      go_ret2
      exact ⟨_, _, rfl, rfl, hB0⟩
    | false =>
      cases hh : ((s[0].toNat : Int) == 35) with
      | true =>
        go_enter Tryd.func96, Tryd.ntmps96
        go_wp2_with (first | (go_at_call 103; refine (isLetter_any _ _).mono ?_; rintro e w1 ⟨rfl, rfl⟩) | (go_at_call 105; refine (isDigit_any _ _).mono ?_; rintro e w1 ⟨rfl, rfl⟩) | (go_at_call 106; refine (isSpace_any _ _).mono ?_; rintro e w1 ⟨rfl, rfl⟩))
        refine (countOther _ s _ hs h1 (by go_simp)).mono ?_
        rintro e w1 ⟨rfl, rfl⟩
        go_wp2_with fail
        go_ret2
        exact ⟨_, _, rfl, rfl, hB0⟩
      | false =>
        have hcell : (w.alloc (.cells #[.string s] 9)).cell? ⟨w.heap.size, 0, none⟩ = some (.string s) := by go_simp
        go_enter Tryd.func96, Tryd.ntmps96
        go_wp2_with (first | (go_at_call 103; refine (isLetter_any _ _).mono ?_; rintro e w1 ⟨rfl, rfl⟩) | (go_at_call 105; refine (isDigit_any _ _).mono ?_; rintro e w1 ⟨rfl, rfl⟩) | (go_at_call 106; refine (isSpace_any _ _).mono ?_; rintro e w1 ⟨rfl, rfl⟩) | (with_reducible refine wpList_load_row rfl 161 _ rfl 0 rfl t SG fr _ HG.out Tryd.underlying161 rfl Tryd.signsInfo ?_))
        go_loop [32] (fun i => ∃ j : Nat, j ≤ 28 ∧ i = .int .i64 j) (fun i => 28 - (intOf i).toNat)
        case atStart => exact ⟨0, by omega, rfl⟩
        case round =>
          obtain ⟨j, hj, rfl⟩ := hrel
          by_cases hlt : j < 28
          · have hix := sign_index j hlt
            have hsz := sign_size j
            go_wp2_with fail
            refine (hasPrefix_any _ _ _ hs (by omega)).mono ?_
            rintro e w1 ⟨b, rfl, rfl⟩
            cases b with
            | true =>
              go_wp2_with fail
              go_ret2
              exact ⟨_, _, rfl, rfl, hB0⟩
            | false =>
              go_wp2_with fail
              go_round
              case rel => exact ⟨j + 1, by omega, by go_num⟩
              case measure => simp [intOf]; omega
          · go_wp2_with fail
            go_ret2
            exact ⟨_, _, rfl, rfl, hB0⟩

theorem toList_cons (s : ByteArray) (h : 0 < s.size) : s.toList = s[0] :: s.toList.drop 1 := by
  have e : s.toList.drop 0 = s[0] :: s.toList.drop (0 + 1) := by
    rw [List.drop_eq_getElem_cons (by simpa [ByteArray.toList_eq] using h)]
    congr 1
    simp [ByteArray.toList_eq]; rfl
  simpa using e
theorem toList_len (s : ByteArray) : s.toList.length = s.size := by simp [ByteArray.toList_eq]

set_option maxHeartbeats 1000000 in
theorem name_any (s : ByteArray) (w : World) (hs : s.size ≤ 9223372036854775807) (hg : SignsIn w) :
    Calls Tryd.prog 61 #[.string s] w fun e w' => e = .returned (.bool (Lx.name s.toList)) ∧ Below w.heap.size w w' := by
  have HG := Lib.hid hg
  clear hg
  by_cases h0 : s.size = 0
  · have e : s = ⟨#[]⟩ := bytes_eq (by have := toList_len s; rw [h0] at this; exact List.length_eq_zero_iff.1 this)
    subst e
    clear h0
    go_enter Tryd.func61, Tryd.ntmps61
    go_wp2_with fail
    go_ret
    exact ⟨ret_bool' (by simp [ByteArray.toList_eq, Lx.name, Lx.startOk]), Below.refl _ _⟩
  · have h1 : 0 < s.size := by omega
    have hE := toList_cons s h1
    have hL := toList_len s
    have n1 : s.toList.isEmpty = false := by rw [hE]; rfl
    have n2 : (s.toList == []) = false := by rw [hE]; rfl
    have n3 : ¬ s.toList = [] := by rw [hE]; simp
    have HV : Hid (Lx.name s.toList = (decide (s.size ≤ 12) && !Lx.keyword s.toList && (Lx.letter s[0].toNat && (s.toList.drop 1).all (fun c => Lx.inner c.toNat)))) := by
      show _ = _
      rw [← hL]
      unfold Lx.name
      have : Lx.startOk s.toList = (Lx.letter s[0].toNat && (s.toList.drop 1).all (fun c => Lx.inner c.toNat)) := by
        conv => lhs; rw [hE]
        rfl
      rw [this]
    clear hE h0
    have HL := Lib.hid hL
    clear hL
    by_cases h12 : s.size ≤ 12
    · have d12 : decide ((12 : Int) < (s.size : Int)) = false := by simp; omega
      cases hk : Lx.keyword s.toList with
      | true =>
        go_enter Tryd.func61, Tryd.ntmps61
        go_wp2_with (go_at_call 95; refine (keyword_any _ _).mono ?_; rintro e w1 ⟨rfl, rfl⟩)
        go_ret
        exact ⟨ret_bool' (by rw [HV.out, hk]; simp), Below.refl _ _⟩
      | false =>
        cases hl : Lx.letter s[0].toNat with
        | true =>
          have HR := Lib.hid (Lx.run_all Lx.inner (s.toList.drop 1))
          have HD : Hid ((s.toList.drop 1).length = s.size - 1) := by show _ = _; rw [List.length_drop, HL.out]
          by_cases hr : 1 + Lx.run Lx.inner (s.toList.drop 1) = s.size
          · have HA : Hid ((s.toList.drop 1).all (fun c => Lx.inner c.toNat) = true) := HR.out.1 (by rw [HD.out]; omega)
            obtain ⟨N, hN⟩ : ∃ N : Nat, 1 + Lx.run Lx.inner (s.toList.drop 1) = N := ⟨_, rfl⟩
            have HN := Lib.hid hN
            rw [hN] at hr
            have q : ((N : Int) == (s.size : Int)) = true := by rw [hr]; simp
            clear hN
            have HQ := Lib.hid hr
            clear hr
            go_enter Tryd.func61, Tryd.ntmps61
            go_wp2_with (go_at_call 95; refine (keyword_any _ _).mono ?_; rintro e w1 ⟨rfl, rfl⟩)
            refine (first_letter s _ hs h1 hl).mono ?_
            rintro e w1 ⟨rfl, hB⟩
            rw [HN.out]
            go_wp2_with fail
            go_ret
            exact ⟨ret_bool' (by rw [HV.out, hk, hl, HA.out]; simp [h12]), hB⟩
          · have HA : Hid ((s.toList.drop 1).all (fun c => Lx.inner c.toNat) = false) := by
              show _ = _
              cases e : (s.toList.drop 1).all (fun c => Lx.inner c.toNat) with
              | false => rfl
              | true => have := HR.out.2 e; rw [HD.out] at this; omega
            obtain ⟨N, hN⟩ : ∃ N : Nat, 1 + Lx.run Lx.inner (s.toList.drop 1) = N := ⟨_, rfl⟩
            have HN := Lib.hid hN
            rw [hN] at hr
            have q : ((N : Int) == (s.size : Int)) = false := by simp; omega
            clear hN hr
            go_enter Tryd.func61, Tryd.ntmps61
            go_wp2_with (go_at_call 95; refine (keyword_any _ _).mono ?_; rintro e w1 ⟨rfl, rfl⟩)
            refine (first_letter s _ hs h1 hl).mono ?_
            rintro e w1 ⟨rfl, hB⟩
            rw [HN.out]
            go_wp2_with fail
            go_ret
            exact ⟨ret_bool' (by rw [HV.out, hk, hl, HA.out]; simp), hB⟩
        | false =>
          go_enter Tryd.func61, Tryd.ntmps61
          go_wp2_with (go_at_call 95; refine (keyword_any _ _).mono ?_; rintro e w1 ⟨rfl, rfl⟩)
          refine (first_other s _ hs h1 hl HG.out).mono ?_
          rintro e w1 ⟨k, n, rfl, hk1, hB⟩
          go_wp2_with fail
          go_ret
          exact ⟨ret_bool' (by rw [HV.out, hk, hl]; simp), hB⟩
    · have d : decide ((12 : Int) < (s.size : Int)) = true := by simp; omega
      go_enter Tryd.func61, Tryd.ntmps61
      go_wp2_with fail
      go_ret
      exact ⟨ret_bool' (by rw [HV.out]; simp [h12]), Below.refl _ _⟩
end Go.Proofs.YtgochgcchkdlmaaDoor
