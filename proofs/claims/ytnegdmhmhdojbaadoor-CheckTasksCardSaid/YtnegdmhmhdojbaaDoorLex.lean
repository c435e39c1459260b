/-
  Contracts: bytes, keywords and names (package lexer).
-/
import Derived.Test.YtnegdmhmhdojbaaDoorProg
import Derived.WalkKit
import Derived.Lib.Hide
import Derived.LoopTactic
import Derived.BigGuardPart
import Derived.Outline
namespace Go.Proofs.YtnegdmhmhdojbaaDoor
set_option linter.unusedVariables false
set_option linter.unusedSimpArgs false
open Go.RowKit
set_option maxRecDepth 100000

namespace Lx
def letter (c : Int) : Bool := decide (97 ≤ c ∧ c ≤ 122)
def digit (c : Int) : Bool := decide (48 ≤ c ∧ c ≤ 57)
def inner (c : Int) : Bool := letter c || digit c
def space (c : Int) : Bool := decide (c = 32 ∨ c = 9 ∨ c = 13 ∨ c = 10)
def other (c : Int) : Bool := decide (¬ c = 10)
def kws : List (List UInt8) := [[97, 114, 114, 97, 121], [98, 111, 117, 110, 100], [101, 108, 115, 101], [102, 111, 114], [105, 102], [105, 110], [108, 111, 99, 107], [111, 117, 116], [112, 101, 114, 105, 111, 100], [115, 104, 97, 114, 101, 100], [116, 97, 115, 107], [118, 97, 114], [119, 104, 105, 108, 101]]
def keyword (l : List UInt8) : Bool := kws.contains l
/-- how many bytes at the head are of a kind -/
def run (p : Int → Bool) : List UInt8 → Nat
  | [] => 0
  | c :: r => if p c.toNat then 1 + run p r else 0
theorem run_le (p : Int → Bool) (l : List UInt8) : run p l ≤ l.length := by
  induction l with
  | nil => simp [run]
  | cons c r ih => simp only [run, List.length_cons]; split <;> omega
theorem run_all (p : Int → Bool) (l : List UInt8) : run p l = l.length ↔ l.all (fun c => p c.toNat) = true := by
  induction l with
  | nil => simp [run]
  | cons c r ih =>
    have := run_le p r
    simp only [run, List.length_cons, List.all_cons, Bool.and_eq_true]
    split
    · rename_i h; rw [← ih]; simp only [h, true_and]; omega
    · rename_i h; simp only [h]; simp
/-- a letter, then letters and digits -/
def startOk : List UInt8 → Bool
  | [] => false
  | c :: r => letter c.toNat && r.all (fun c => inner c.toNat)
/-- a name -/
def name (l : List UInt8) : Bool := decide (l.length ≤ 12) && !keyword l && startOk l
end Lx
theorem ret_bool' {a b : Bool} (h : a = b) : Ending.returned (.bool a) = .returned (.bool b) := by rw [h]

theorem isLetter_any (c : Int) (w : World) : Calls Tryd.prog 83 #[.int .u8 c] w fun e w' => e = .returned (.bool (Lx.letter c)) ∧ w = w' := by
  by_cases h1 : 97 ≤ c
  · by_cases h2 : c ≤ 122
    all_goals
      go_enter Tryd.func83, Tryd.ntmps83
      go_wp2_with fail
      go_ret
      exact ⟨ret_bool' (by simp [Lx.letter]; omega), rfl⟩
  · go_enter Tryd.func83, Tryd.ntmps83
    go_wp2_with fail
    go_ret
    exact ⟨ret_bool' (by simp [Lx.letter]; omega), rfl⟩

theorem isDigit_any (c : Int) (w : World) : Calls Tryd.prog 85 #[.int .u8 c] w fun e w' => e = .returned (.bool (Lx.digit c)) ∧ w = w' := by
  by_cases h1 : 48 ≤ c
  · by_cases h2 : c ≤ 57
    all_goals
      go_enter Tryd.func85, Tryd.ntmps85
      go_wp2_with fail
      go_ret
      exact ⟨ret_bool' (by simp [Lx.digit]; omega), rfl⟩
  · go_enter Tryd.func85, Tryd.ntmps85
    go_wp2_with fail
    go_ret
    exact ⟨ret_bool' (by simp [Lx.digit]; omega), rfl⟩

theorem isInner_any (c : Int) (w : World) : Calls Tryd.prog 84 #[.int .u8 c] w fun e w' => e = .returned (.bool (Lx.inner c)) ∧ w = w' := by
  have HI : Hid (Lx.inner c = (Lx.letter c || Lx.digit c)) := rfl
  cases hl : Lx.letter c with
  | true =>
    go_enter Tryd.func84, Tryd.ntmps84
    go_wp2_with (first | (go_at_call 83; refine (isLetter_any _ _).mono ?_; rintro e w1 ⟨rfl, rfl⟩) | (go_at_call 85; refine (isDigit_any _ _).mono ?_; rintro e w1 ⟨rfl, rfl⟩))
    go_ret
    exact ⟨ret_bool' (by rw [HI.out, hl]; rfl), rfl⟩
  | false =>
    go_enter Tryd.func84, Tryd.ntmps84
    go_wp2_with (first | (go_at_call 83; refine (isLetter_any _ _).mono ?_; rintro e w1 ⟨rfl, rfl⟩) | (go_at_call 85; refine (isDigit_any _ _).mono ?_; rintro e w1 ⟨rfl, rfl⟩))
    go_ret
    exact ⟨ret_bool' (by rw [HI.out, hl]; rfl), rfl⟩

theorem isSpace_any (c : Int) (w : World) : Calls Tryd.prog 86 #[.int .u8 c] w fun e w' => e = .returned (.bool (Lx.space c)) ∧ w = w' := by
  by_cases h : c = 32 ∨ c = 9 ∨ c = 13 ∨ c = 10
  · have HE : Hid (Lx.space c = true) := by show _ = _; simp [Lx.space, h]
    rcases h with rfl | rfl | rfl | rfl
    all_goals
      go_enter Tryd.func86, Tryd.ntmps86
      go_wp2_with fail
      go_ret
      exact ⟨rfl, rfl⟩
  · have HE : Hid (Lx.space c = false) := by show _ = _; simp only [Lx.space, decide_eq_false_iff_not]; exact h
    have d1 : (c == 32) = false := by simp; omega
    have d2 : (c == 9) = false := by simp; omega
    have d3 : (c == 13) = false := by simp; omega
    have d4 : (c == 10) = false := by simp; omega
    clear h
    go_enter Tryd.func86, Tryd.ntmps86
    go_wp2_with fail
    go_ret
    exact ⟨ret_bool' HE.out.symm, rfl⟩

theorem isOther_any (c : Int) (w : World) : Calls Tryd.prog 87 #[.int .u8 c] w fun e w' => e = .returned (.bool (Lx.other c)) ∧ w = w' := by
  go_enter Tryd.func87, Tryd.ntmps87
  go_wp2_with fail
  go_ret
  exact ⟨ret_bool' (by simp [Lx.other, bne]; rfl), rfl⟩

theorem keyword_0 (w : World) : Calls Tryd.prog 76 #[.string ⟨#[97, 114, 114, 97, 121]⟩] w fun e w' => e = .returned (.bool true) ∧ w = w' := by
  go_enter Tryd.func76, Tryd.ntmps76
  go_wp2_with fail
  go_ret
  exact ⟨rfl, rfl⟩

theorem keyword_1 (w : World) : Calls Tryd.prog 76 #[.string ⟨#[98, 111, 117, 110, 100]⟩] w fun e w' => e = .returned (.bool true) ∧ w = w' := by
  go_enter Tryd.func76, Tryd.ntmps76
  go_wp2_with fail
  go_ret
  exact ⟨rfl, rfl⟩

theorem keyword_2 (w : World) : Calls Tryd.prog 76 #[.string ⟨#[101, 108, 115, 101]⟩] w fun e w' => e = .returned (.bool true) ∧ w = w' := by
  go_enter Tryd.func76, Tryd.ntmps76
  go_wp2_with fail
  go_ret
  exact ⟨rfl, rfl⟩

theorem keyword_3 (w : World) : Calls Tryd.prog 76 #[.string ⟨#[102, 111, 114]⟩] w fun e w' => e = .returned (.bool true) ∧ w = w' := by
  go_enter Tryd.func76, Tryd.ntmps76
  go_wp2_with fail
  go_ret
  exact ⟨rfl, rfl⟩

theorem keyword_4 (w : World) : Calls Tryd.prog 76 #[.string ⟨#[105, 102]⟩] w fun e w' => e = .returned (.bool true) ∧ w = w' := by
  go_enter Tryd.func76, Tryd.ntmps76
  go_wp2_with fail
  go_ret
  exact ⟨rfl, rfl⟩

theorem keyword_5 (w : World) : Calls Tryd.prog 76 #[.string ⟨#[105, 110]⟩] w fun e w' => e = .returned (.bool true) ∧ w = w' := by
  go_enter Tryd.func76, Tryd.ntmps76
  go_wp2_with fail
  go_ret
  exact ⟨rfl, rfl⟩

theorem keyword_6 (w : World) : Calls Tryd.prog 76 #[.string ⟨#[108, 111, 99, 107]⟩] w fun e w' => e = .returned (.bool true) ∧ w = w' := by
  go_enter Tryd.func76, Tryd.ntmps76
  go_wp2_with fail
  go_ret
  exact ⟨rfl, rfl⟩

theorem keyword_7 (w : World) : Calls Tryd.prog 76 #[.string ⟨#[111, 117, 116]⟩] w fun e w' => e = .returned (.bool true) ∧ w = w' := by
  go_enter Tryd.func76, Tryd.ntmps76
  go_wp2_with fail
  go_ret
  exact ⟨rfl, rfl⟩

theorem keyword_8 (w : World) : Calls Tryd.prog 76 #[.string ⟨#[112, 101, 114, 105, 111, 100]⟩] w fun e w' => e = .returned (.bool true) ∧ w = w' := by
  go_enter Tryd.func76, Tryd.ntmps76
  go_wp2_with fail
  go_ret
  exact ⟨rfl, rfl⟩

theorem keyword_9 (w : World) : Calls Tryd.prog 76 #[.string ⟨#[115, 104, 97, 114, 101, 100]⟩] w fun e w' => e = .returned (.bool true) ∧ w = w' := by
  go_enter Tryd.func76, Tryd.ntmps76
  go_wp2_with fail
  go_ret
  exact ⟨rfl, rfl⟩

theorem keyword_10 (w : World) : Calls Tryd.prog 76 #[.string ⟨#[116, 97, 115, 107]⟩] w fun e w' => e = .returned (.bool true) ∧ w = w' := by
  go_enter Tryd.func76, Tryd.ntmps76
  go_wp2_with fail
  go_ret
  exact ⟨rfl, rfl⟩

theorem keyword_11 (w : World) : Calls Tryd.prog 76 #[.string ⟨#[118, 97, 114]⟩] w fun e w' => e = .returned (.bool true) ∧ w = w' := by
  go_enter Tryd.func76, Tryd.ntmps76
  go_wp2_with fail
  go_ret
  exact ⟨rfl, rfl⟩

theorem keyword_12 (w : World) : Calls Tryd.prog 76 #[.string ⟨#[119, 104, 105, 108, 101]⟩] w fun e w' => e = .returned (.bool true) ∧ w = w' := by
  go_enter Tryd.func76, Tryd.ntmps76
  go_wp2_with fail
  go_ret
  exact ⟨rfl, rfl⟩

theorem bytes_eq {s : ByteArray} {l : List UInt8} (h : s.toList = l) : s = ⟨l.toArray⟩ := by
  cases s with
  | mk d => have : d.toList = l := by rw [← h]; simp [ByteArray.toList_eq]
            subst this; rfl
theorem keyword_any (s : ByteArray) (w : World) : Calls Tryd.prog 76 #[.string s] w fun e w' => e = .returned (.bool (Lx.keyword s.toList)) ∧ w = w' := by
  by_cases h0 : s.toList = [97, 114, 114, 97, 121]
  · have e : s = ⟨#[97, 114, 114, 97, 121]⟩ := bytes_eq h0
    have e2 : Lx.keyword s.toList = true := by rw [h0]; decide
    rw [e2, e]; exact keyword_0 w
  by_cases h1 : s.toList = [98, 111, 117, 110, 100]
  · have e : s = ⟨#[98, 111, 117, 110, 100]⟩ := bytes_eq h1
    have e2 : Lx.keyword s.toList = true := by rw [h1]; decide
    rw [e2, e]; exact keyword_1 w
  by_cases h2 : s.toList = [101, 108, 115, 101]
  · have e : s = ⟨#[101, 108, 115, 101]⟩ := bytes_eq h2
    have e2 : Lx.keyword s.toList = true := by rw [h2]; decide
    rw [e2, e]; exact keyword_2 w
  by_cases h3 : s.toList = [102, 111, 114]
  · have e : s = ⟨#[102, 111, 114]⟩ := bytes_eq h3
    have e2 : Lx.keyword s.toList = true := by rw [h3]; decide
    rw [e2, e]; exact keyword_3 w
  by_cases h4 : s.toList = [105, 102]
  · have e : s = ⟨#[105, 102]⟩ := bytes_eq h4
    have e2 : Lx.keyword s.toList = true := by rw [h4]; decide
    rw [e2, e]; exact keyword_4 w
  by_cases h5 : s.toList = [105, 110]
  · have e : s = ⟨#[105, 110]⟩ := bytes_eq h5
    have e2 : Lx.keyword s.toList = true := by rw [h5]; decide
    rw [e2, e]; exact keyword_5 w
  by_cases h6 : s.toList = [108, 111, 99, 107]
  · have e : s = ⟨#[108, 111, 99, 107]⟩ := bytes_eq h6
    have e2 : Lx.keyword s.toList = true := by rw [h6]; decide
    rw [e2, e]; exact keyword_6 w
  by_cases h7 : s.toList = [111, 117, 116]
  · have e : s = ⟨#[111, 117, 116]⟩ := bytes_eq h7
    have e2 : Lx.keyword s.toList = true := by rw [h7]; decide
    rw [e2, e]; exact keyword_7 w
  by_cases h8 : s.toList = [112, 101, 114, 105, 111, 100]
  · have e : s = ⟨#[112, 101, 114, 105, 111, 100]⟩ := bytes_eq h8
    have e2 : Lx.keyword s.toList = true := by rw [h8]; decide
    rw [e2, e]; exact keyword_8 w
  by_cases h9 : s.toList = [115, 104, 97, 114, 101, 100]
  · have e : s = ⟨#[115, 104, 97, 114, 101, 100]⟩ := bytes_eq h9
    have e2 : Lx.keyword s.toList = true := by rw [h9]; decide
    rw [e2, e]; exact keyword_9 w
  by_cases h10 : s.toList = [116, 97, 115, 107]
  · have e : s = ⟨#[116, 97, 115, 107]⟩ := bytes_eq h10
    have e2 : Lx.keyword s.toList = true := by rw [h10]; decide
    rw [e2, e]; exact keyword_10 w
  by_cases h11 : s.toList = [118, 97, 114]
  · have e : s = ⟨#[118, 97, 114]⟩ := bytes_eq h11
    have e2 : Lx.keyword s.toList = true := by rw [h11]; decide
    rw [e2, e]; exact keyword_11 w
  by_cases h12 : s.toList = [119, 104, 105, 108, 101]
  · have e : s = ⟨#[119, 104, 105, 108, 101]⟩ := bytes_eq h12
    have e2 : Lx.keyword s.toList = true := by rw [h12]; decide
    rw [e2, e]; exact keyword_12 w
  have e2 : Hid (Lx.keyword s.toList = false) := by
    show _ = _
    simp [Lx.keyword, Lx.kws, h0, h1, h2, h3, h4, h5, h6, h7, h8, h9, h10, h11, h12]
  have b0 : (s.toList == [97, 114, 114, 97, 121]) = false := by simpa using h0
  clear h0
  have b1 : (s.toList == [98, 111, 117, 110, 100]) = false := by simpa using h1
  clear h1
  have b2 : (s.toList == [101, 108, 115, 101]) = false := by simpa using h2
  clear h2
  have b3 : (s.toList == [102, 111, 114]) = false := by simpa using h3
  clear h3
  have b4 : (s.toList == [105, 102]) = false := by simpa using h4
  clear h4
  have b5 : (s.toList == [105, 110]) = false := by simpa using h5
  clear h5
  have b6 : (s.toList == [108, 111, 99, 107]) = false := by simpa using h6
  clear h6
  have b7 : (s.toList == [111, 117, 116]) = false := by simpa using h7
  clear h7
  have b8 : (s.toList == [112, 101, 114, 105, 111, 100]) = false := by simpa using h8
  clear h8
  have b9 : (s.toList == [115, 104, 97, 114, 101, 100]) = false := by simpa using h9
  clear h9
  have b10 : (s.toList == [116, 97, 115, 107]) = false := by simpa using h10
  clear h10
  have b11 : (s.toList == [118, 97, 114]) = false := by simpa using h11
  clear h11
  have b12 : (s.toList == [119, 104, 105, 108, 101]) = false := by simpa using h12
  clear h12
  go_enter Tryd.func76, Tryd.ntmps76
  go_wp2_with fail
  go_ret
  exact ⟨ret_bool' e2.out.symm, rfl⟩
end Go.Proofs.YtnegdmhmhdojbaaDoor
