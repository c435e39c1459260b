/-
  Contracts: names, by the reference of layer 11.
-/
import Derived.Test.YtfkegjdgbnkicaaDoorLexFirst
import Derived.Deep.QuietTactic
import Derived.BigQuiet
import Derived.Deep.Cut
import Derived.Deep.CutRange
import Derived.Deep.DeepCutAuto
namespace Go.Proofs.YtfkegjdgbnkicaaDoor
open Go.RowKit
set_option maxRecDepth 100000

def KW : Array Value := #[.string ⟨#[97, 114, 114, 97, 121]⟩, .string ⟨#[98, 111, 117, 110, 100]⟩, .string ⟨#[101, 108, 115, 101]⟩, .string ⟨#[102, 111, 114]⟩, .string ⟨#[105, 102]⟩, .string ⟨#[105, 110]⟩, .string ⟨#[108, 111, 99, 107]⟩, .string ⟨#[111, 117, 116]⟩, .string ⟨#[112, 101, 114, 105, 111, 100]⟩, .string ⟨#[115, 104, 97, 114, 101, 100]⟩, .string ⟨#[116, 97, 115, 107]⟩, .string ⟨#[118, 97, 114]⟩, .string ⟨#[119, 104, 105, 108, 101]⟩]
def kwAt (j : Nat) : ByteArray := ⟨(Lx.kws.getD j []).toArray⟩
theorem KW_at (j : Nat) (h : j < 13) : KW[j]? = some (.string (kwAt j)) := by
  have hc : j = 0 ∨ j = 1 ∨ j = 2 ∨ j = 3 ∨ j = 4 ∨ j = 5 ∨ j = 6 ∨ j = 7 ∨ j = 8 ∨ j = 9 ∨ j = 10 ∨ j = 11 ∨ j = 12 := by omega
  rcases hc with rfl | rfl | rfl | rfl | rfl | rfl | rfl | rfl | rfl | rfl | rfl | rfl | rfl <;> rfl
theorem SG_at (j : Nat) (h : j < 28) : SG[j]? = some (.string (signAt j)) := by
  have hc : j = 0 ∨ j = 1 ∨ j = 2 ∨ j = 3 ∨ j = 4 ∨ j = 5 ∨ j = 6 ∨ j = 7 ∨ j = 8 ∨ j = 9 ∨ j = 10 ∨ j = 11 ∨ j = 12 ∨ j = 13 ∨ j = 14 ∨ j = 15 ∨ j = 16 ∨ j = 17 ∨ j = 18 ∨ j = 19 ∨ j = 20 ∨ j = 21 ∨ j = 22 ∨ j = 23 ∨ j = 24 ∨ j = 25 ∨ j = 26 ∨ j = 27 := by omega
  rcases hc with rfl | rfl | rfl | rfl | rfl | rfl | rfl | rfl | rfl | rfl | rfl | rfl | rfl | rfl | rfl | rfl | rfl | rfl | rfl | rfl | rfl | rfl | rfl | rfl | rfl | rfl | rfl | rfl <;> rfl
theorem refKeywords_any (w : World) : Calls Tryd.prog 70 #[] w fun e w' => e = .returned (.slice (some ⟨w.heap.size, 0, none⟩) 13 13) ∧ w' = w.alloc (.cells KW 9) := by
  go_enter Tryd.func70, Tryd.ntmps70
  go_wp2_with fail
  go_ret
  exact ⟨rfl, rfl⟩
theorem refSigns_any (w : World) : Calls Tryd.prog 79 #[] w fun e w' => e = .returned (.slice (some ⟨w.heap.size, 0, none⟩) 28 28) ∧ w' = w.alloc (.cells SG 9) := by
  go_enter Tryd.func79, Tryd.ntmps79
  go_wp2_with fail
  go_ret
  exact ⟨rfl, rfl⟩

/-- whether one of the first strings is a string -/
def inTo (f : Nat → ByteArray) (s : ByteArray) : Nat → Bool
  | 0 => false
  | n + 1 => inTo f s n || ((f n).toList == s.toList)
theorem inTo_succ (f : Nat → ByteArray) (s : ByteArray) (n : Nat) : inTo f s (n + 1) = (inTo f s n || ((f n).toList == s.toList)) := rfl
theorem inTo_true {f : Nat → ByteArray} {s : ByteArray} {i n : Nat} (hi : i < n) (h : ((f i).toList == s.toList) = true) : inTo f s n = true := by
  induction n with
  | zero => omega
  | succ n ih =>
    rw [inTo_succ]
    by_cases e : i = n
    · subst e; rw [h]; simp
    · rw [ih (by omega)]; rfl

set_option maxHeartbeats 1000000 in
theorem refIn_any (f : Nat → ByteArray) (n b cap : Nat) (s : ByteArray) (w : World) (hn : n ≤ 1000) (hc : ∀ i, i < n → w.cell? ⟨b, i, none⟩ = some (.string (f i))) :
    Calls Tryd.prog 69 #[.slice (some ⟨b, 0, none⟩) n cap, .string s] w fun e w' => e = .returned (.bool (inTo f s n)) ∧ w = w' := by
  have HC := Lib.hid hc
  clear hc
  go_enter Tryd.func69, Tryd.ntmps69
  go_wp2_with fail
  go_loop [5] (fun i => ∃ j : Nat, j ≤ n ∧ i = .int .i64 j ∧ inTo f s j = false) (fun i => n - (intOf i).toNat)
  case atStart => exact ⟨0, Nat.zero_le _, rfl, rfl⟩
  case round =>
    obtain ⟨j, hj, rfl, hall⟩ := hrel
    have HA := Lib.hid hall
    clear hall
    by_cases hlt : j < n
    · have hcj := HC.out j hlt
      cases hq : ((f j).toList == s.toList) with
      | true =>
        have HT := Lib.hid (inTo_true hlt hq)
        have e : f j = s := by
          have e1 : (f j).toList = s.toList := by simpa using hq
          exact (bytes_eq e1).trans (bytes_eq (s := s) rfl).symm
        go_wp2_with fail
        go_ret
        exact ⟨ret_bool' HT.out.symm, rfl⟩
      | false =>
        have HN : Hid (inTo f s (j + 1) = false) := by show _ = _; rw [inTo_succ, HA.out, hq]; rfl
        go_wp2_with fail
        go_round
        case rel => exact ⟨j + 1, by omega, by go_num, HN.out⟩
        case measure => simp [intOf]; omega
    · obtain rfl : j = n := by omega
      go_wp2_with fail
      go_ret
      exact ⟨ret_bool' HA.out.symm, rfl⟩

theorem refLetter_any (c : Int) (w : World) : Calls Tryd.prog 76 #[.int .u8 c] w fun e w' => e = .returned (.bool (Lx.letter c)) ∧ w = w' := by
  by_cases h1 : 97 ≤ c
  · by_cases h2 : c ≤ 122
    all_goals
      go_enter Tryd.func76, Tryd.ntmps76
      go_wp2_with fail
      go_ret
      exact ⟨ret_bool' (by simp [Lx.letter]; omega), rfl⟩
  · go_enter Tryd.func76, Tryd.ntmps76
    go_wp2_with fail
    go_ret
    exact ⟨ret_bool' (by simp [Lx.letter]; omega), rfl⟩

theorem refDigit_any (c : Int) (w : World) : Calls Tryd.prog 77 #[.int .u8 c] w fun e w' => e = .returned (.bool (Lx.digit c)) ∧ w = w' := by
  by_cases h1 : 48 ≤ c
  · by_cases h2 : c ≤ 57
    all_goals
      go_enter Tryd.func77, Tryd.ntmps77
      go_wp2_with fail
      go_ret
      exact ⟨ret_bool' (by simp [Lx.digit]; omega), rfl⟩
  · go_enter Tryd.func77, Tryd.ntmps77
    go_wp2_with fail
    go_ret
    exact ⟨ret_bool' (by simp [Lx.digit]; omega), rfl⟩

theorem refSpace_any (c : Int) (w : World) : Calls Tryd.prog 78 #[.int .u8 c] w fun e w' => e = .returned (.bool (Lx.space c)) ∧ w = w' := by
  by_cases h : c = 32 ∨ c = 9 ∨ c = 13 ∨ c = 10
  · rcases h with rfl | rfl | rfl | rfl
    all_goals
      go_enter Tryd.func78, Tryd.ntmps78
      go_wp2_with fail
      go_ret
      exact ⟨rfl, rfl⟩
  · have HE : Hid (Lx.space c = false) := by show _ = _; simp only [Lx.space, decide_eq_false_iff_not]; exact h
    have d1 : (c == 32) = false := by simp; omega
    have d2 : (c == 9) = false := by simp; omega
    have d3 : (c == 13) = false := by simp; omega
    have d4 : (c == 10) = false := by simp; omega
    clear h
    go_enter Tryd.func78, Tryd.ntmps78
    go_wp2_with fail
    go_ret
    exact ⟨ret_bool' HE.out.symm, rfl⟩

/-- the word so far -/
def wordTo (s : ByteArray) (j : Nat) : Bool := (match s.toList with | [] => false | c :: _ => Lx.letter c.toNat) && (s.toList.take j).all (fun c => Lx.inner c.toNat)
theorem take_snoc' (s : ByteArray) (k : Nat) (h : k < s.size) : s.toList.take (k + 1) = s.toList.take k ++ [s[k]] := by
  rw [List.take_succ_eq_append_getElem (by simpa [ByteArray.toList_eq] using h)]; congr 2; simp [ByteArray.toList_eq]; rfl
theorem wordTo_succ (s : ByteArray) (j : Nat) (h : j < s.size) : wordTo s (j + 1) = (wordTo s j && Lx.inner s[j].toNat) := by
  unfold wordTo; rw [take_snoc' s j h, List.all_append, Bool.and_assoc]; simp
theorem wordTo_zero (s : ByteArray) (h : 0 < s.size) : wordTo s 0 = Lx.letter s[0].toNat := by
  unfold wordTo; rw [toList_cons s h]; simp
theorem wordTo_all (s : ByteArray) (h : 0 < s.size) : wordTo s s.size = Lx.startOk s.toList := by
  have hl := toList_len s
  unfold wordTo; rw [List.take_of_length_le (by omega), toList_cons s h]
  simp only [Lx.startOk, List.all_cons]
  cases hq : Lx.letter s[0].toNat
  · rfl
  · simp [Lx.inner, hq]

/-- a kind, 1 just for words -/
def KindIs (q : Bool) (w : World) (e : Ending) (w' : World) : Prop := ∃ k : Int, e = .returned (.int .u8 k) ∧ ((k == 1) = q) ∧ (0 ≤ k ∧ k ≤ 5) ∧ Below w.heap.size w w'
end Go.Proofs.YtfkegjdgbnkicaaDoor
