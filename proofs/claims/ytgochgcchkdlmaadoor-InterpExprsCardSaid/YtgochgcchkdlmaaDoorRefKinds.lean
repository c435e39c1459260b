/-
  RefKinds: several texts in one (Ref11, Ref11Kind).
-/
import Derived.Test.YtgochgcchkdlmaaDoorLexAll
import Derived.Deep.QuietTactic
import Derived.BigQuiet
import Derived.Deep.Cut
import Derived.Deep.CutRange
import Derived.Deep.DeepCutAuto
/-
  Contracts: names, by the reference of layer 11.
-/
namespace Go.Proofs.YtgochgcchkdlmaaDoor
set_option linter.unusedVariables false
set_option linter.unusedSimpArgs false
open Go.RowKit
set_option maxRecDepth 100000

def KW : Array Value := #[.string ⟨#[97, 114, 114, 97, 121]⟩, .string ⟨#[98, 111, 117, 110, 100]⟩, .string ⟨#[101, 108, 115, 101]⟩, .string ⟨#[102, 111, 114]⟩, .string ⟨#[105, 102]⟩, .string ⟨#[105, 110]⟩, .string ⟨#[108, 111, 99, 107]⟩, .string ⟨#[111, 117, 116]⟩, .string ⟨#[112, 101, 114, 105, 111, 100]⟩, .string ⟨#[115, 104, 97, 114, 101, 100]⟩, .string ⟨#[116, 97, 115, 107]⟩, .string ⟨#[118, 97, 114]⟩, .string ⟨#[119, 104, 105, 108, 101]⟩]
def kwAt (j : Nat) : ByteArray := ⟨(Lx.kws.getD j []).toArray⟩
theorem KW_at (j : Nat) (h : j < 13) : KW[j]? = some (.string (kwAt j)) := by
  have hc : j = 0 ∨ j = 1 ∨ j = 2 ∨ j = 3 ∨ j = 4 ∨ j = 5 ∨ j = 6 ∨ j = 7 ∨ j = 8 ∨ j = 9 ∨ j = 10 ∨ j = 11 ∨ j = 12 := by omega
  rcases hc with rfl | rfl | rfl | rfl | rfl | rfl | rfl | rfl | rfl | rfl | rfl | rfl | rfl <;> rfl
theorem SG_at (j : Nat) (h : j < 28) : SG[j]? = some (.string (signAt j)) := by
  have hc : j = 0 ∨ j = 1 ∨ j = 2 ∨ j = 3 ∨ j = 4 ∨ j = 5 ∨ j = 6 ∨ j = 7 ∨ j = 8 ∨ j = 9 ∨ j = 10 ∨ j = 11 ∨ j = 12 ∨ j = 13 ∨ j = 14 ∨ j = 15 ∨ j = 16 ∨ j = 17 ∨ j = 18 ∨ j = 19 ∨ j = 20 ∨ j = 21 ∨ j = 22 ∨ j = 23 ∨ j = 24 ∨ j = 25 ∨ j = 26 ∨ j = 27 := by omega
  rcases hc with rfl | rfl | rfl | rfl | rfl | rfl | rfl | rfl | rfl | rfl | rfl | rfl | rfl | rfl | rfl | rfl | rfl | rfl | rfl | rfl | rfl | rfl | rfl | rfl | rfl | rfl | rfl | rfl <;> rfl
/-- whether one of the first strings is a string -/
def inTo (f : Nat → ByteArray) (s : ByteArray) : Nat → Bool
  | 0 => false
  | n + 1 => inTo f s n || ((f n).toList == s.toList)
theorem inTo_succ (f : Nat → ByteArray) (s : ByteArray) (n : Nat) : inTo f s (n + 1) = (inTo f s n || ((f n).toList == s.toList)) := rfl
theorem inTo_true {f : Nat → ByteArray} {s : ByteArray} {i n : Nat} (hi : i < n) (h : ((f i).toList == s.toList) = true) : inTo f s n = true := by
  induction n with
  | zero => omega
  | succ n ih =>
    rw [inTo_succ]
    by_cases e : i = n
    · subst e; rw [h]; simp
    · rw [ih (by omega)]; rfl

/-- the word so far -/
def wordTo (s : ByteArray) (j : Nat) : Bool := (match s.toList with | [] => false | c :: _ => Lx.letter c.toNat) && (s.toList.take j).all (fun c => Lx.inner c.toNat)
theorem take_snoc' (s : ByteArray) (k : Nat) (h : k < s.size) : s.toList.take (k + 1) = s.toList.take k ++ [s[k]] := by
  rw [List.take_succ_eq_append_getElem (by simpa [ByteArray.toList_eq] using h)]; congr 2; simp [ByteArray.toList_eq]; rfl
theorem wordTo_succ (s : ByteArray) (j : Nat) (h : j < s.size) : wordTo s (j + 1) = (wordTo s j && Lx.inner s[j].toNat) := by
  unfold wordTo; rw [take_snoc' s j h, List.all_append, Bool.and_assoc]; simp
theorem wordTo_zero (s : ByteArray) (h : 0 < s.size) : wordTo s 0 = Lx.letter s[0].toNat := by
  unfold wordTo; rw [toList_cons s h]; simp
theorem wordTo_all (s : ByteArray) (h : 0 < s.size) : wordTo s s.size = Lx.startOk s.toList := by
  have hl := toList_len s
  unfold wordTo; rw [List.take_of_length_le (by omega), toList_cons s h]
  simp only [Lx.startOk, List.all_cons]
  cases hq : Lx.letter s[0].toNat
  · rfl
  · simp [Lx.inner, hq]

/-- a kind, 1 just for words -/
def KindIs (q : Bool) (w : World) (e : Ending) (w' : World) : Prop := ∃ k : Int, e = .returned (.int .u8 k) ∧ ((k == 1) = q) ∧ (0 ≤ k ∧ k ≤ 5) ∧ Below w.heap.size w w'
end Go.Proofs.YtgochgcchkdlmaaDoor

/-
  Contracts: the kind of a token, and names, by the reference of layer 11.
-/
namespace Go.Proofs.YtgochgcchkdlmaaDoor
set_option linter.unusedVariables false
set_option linter.unusedSimpArgs false
open Go.RowKit
set_option maxRecDepth 100000

theorem inTo_iff (f : Nat → ByteArray) (s : ByteArray) (n : Nat) : inTo f s n = true ↔ ∃ i, i < n ∧ (f i).toList = s.toList := by
  induction n with
  | zero => simp [inTo]
  | succ n ih =>
    rw [inTo_succ, Bool.or_eq_true, ih]
    constructor
    · rintro (⟨i, hi, h⟩ | h)
      · exact ⟨i, by omega, h⟩
      · exact ⟨n, by omega, by simpa using h⟩
    · rintro ⟨i, hi, h⟩
      by_cases e : i = n
      · subst e; exact .inr (by simpa using h)
      · exact .inl ⟨i, by omega, h⟩
theorem keyword_inTo (s : ByteArray) : inTo kwAt s 13 = Lx.keyword s.toList := by
  rw [Bool.eq_iff_iff, inTo_iff]
  unfold Lx.keyword
  rw [List.contains_iff_mem]
  constructor
  · rintro ⟨i, hi, h⟩
    rw [← h]
    have : ∀ i, i < 13 → Lx.kws.getD i [] ∈ Lx.kws := by decide
    have e : (kwAt i).toList = Lx.kws.getD i [] := by simp [kwAt, ByteArray.toList_eq]
    rw [e]; exact this i hi
  · intro h
    obtain ⟨i, hi⟩ := List.getElem?_of_mem h
    have hl : i < 13 := (List.getElem?_eq_some_iff.1 hi).1
    refine ⟨i, hl, ?_⟩
    have e : (kwAt i).toList = Lx.kws.getD i [] := by simp [kwAt, ByteArray.toList_eq]
    rw [e, List.getD_eq_getElem?_getD, hi]; rfl

end Go.Proofs.YtgochgcchkdlmaaDoor
