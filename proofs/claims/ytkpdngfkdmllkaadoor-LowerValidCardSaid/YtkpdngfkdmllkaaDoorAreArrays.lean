/-
  Contracts: declarations of arrays, small trees (package ast), declarations of arrays (package ontimeref12).
-/
import Derived.Test.YtkpdngfkdmllkaaDoorMg6
import Derived.Test.YtkpdngfkdmllkaaDoorLexFirst
import Derived.Test.YtkpdngfkdmllkaaDoorMg13
import Derived.Test.YtkpdngfkdmllkaaDoorMg5
namespace Go.Proofs.YtkpdngfkdmllkaaDoor
set_option linter.unusedVariables false
set_option linter.unusedSimpArgs false
open Go.RowKit
set_option maxRecDepth 100000

/-- names, and declarations of arrays -/
def nm (s : ByteArray) : Bool := Lx.name s.toList
def arrOk (x : Arr) : Bool := nm x.name && decide (1 ≤ x.len) && decide (x.len ≤ 32)

theorem noArray_any (x : Arr) (w : World) (h1 : x.name.size ≤ 9223372036854775807) (hg : SignsIn w) :
    Calls Tryd.prog 51 #[.agg #[.string x.name, .int .i64 x.len]] w fun e w' => e = .returned (.bool (!arrOk x)) ∧ Below w.heap.size w w' := by
  have hB0 : Below w.heap.size w (w.alloc (.cells #[.string x.name, .int .i64 x.len] 40)) := (Below.refl _ _).alloc (Nat.le_refl _) _
  have HG := Lib.hid (hg.below hB0)
  have HB0 := Lib.hid hB0
  clear hg hB0
  go_enter Tryd.func51, Tryd.ntmps51
  go_wp2_with fail
  refine (name_any x.name _ h1 HG.out).mono ?_
  rintro e w1 ⟨he, hB1⟩
  have HB1 := Lib.hid (HB0.out.trans (hB1.mono (by simp)))
  have f1 : w1.cell? ⟨w.heap.size, 1, none⟩ = some (.int .i64 x.len) := cell_below hB1 (World.cell?_alloc_new w _ _ 1)
  clear hB1
  cases hn : nm x.name with
  | false =>
    obtain rfl : e = .returned (.bool false) := by rw [he]; exact congrArg _ (congrArg _ hn)
    have HE : Hid (arrOk x = false) := by show _ = _; unfold arrOk; rw [hn]; rfl
    clear he hn
    go_wp2_with fail
    go_ret
    exact ⟨by rw [HE.out]; rfl, HB1.out⟩
  | true =>
    obtain rfl : e = .returned (.bool true) := by rw [he]; exact congrArg _ (congrArg _ hn)
    have HE : Hid (arrOk x = (decide (1 ≤ x.len) && decide (x.len ≤ 32))) := by show _ = _; unfold arrOk; rw [hn]; rfl
    clear he hn
    by_cases h2 : x.len < 1
    · have HE2 : Hid (arrOk x = false) := by have := HE.out; show _ = _; rw [this, decide_eq_false (by omega)]; rfl
      go_wp2_with fail
      go_ret
      exact ⟨by rw [HE2.out]; rfl, HB1.out⟩
    · have h2' : 1 ≤ x.len := by omega
      have h2d : decide (x.len < 1) = false := by simpa using h2'
      clear h2
      by_cases h3 : 32 < x.len
      · have h3d : decide (32 < x.len) = true := by simpa using h3
        have HE2 : Hid (arrOk x = false) := by have := HE.out; show _ = _; rw [this, decide_eq_false (p := x.len ≤ 32) (by omega)]; simp
        go_wp2_with fail
        go_ret
        exact ⟨by rw [HE2.out]; rfl, HB1.out⟩
      · have h3' : x.len ≤ 32 := by omega
        have h3d : decide (32 < x.len) = false := by simpa using h3'
        clear h3
        have HE2 : Hid (arrOk x = true) := by have := HE.out; show _ = _; rw [this, decide_eq_true (p := x.len ≤ 32) (by omega), decide_eq_true (by omega)]; rfl
        go_wp2_with fail
        go_ret
        exact ⟨by rw [HE2.out]; rfl, HB1.out⟩

set_option maxHeartbeats 1000000 in
theorem indexArray_any (l : List Arr) (w : World) (a : Option Addr) (c : Nat) (hl : ArrsAt w a l) (hg : SignsIn w) :
    Calls Tryd.prog 70 #[.slice a l.length c, .func (.func 51) #[] #[]] w (SomeIndex (l.all arrOk) w) := by
  have HL := Lib.hid hl.2
  have hlen := hl.1
  have HG := Lib.hid hg
  clear hl hg
  go_enter Tryd.func70, Tryd.ntmps70
  go_wp2_with fail
  go_loopw [8] (fun i wr => ∃ j : Nat, j ≤ l.length ∧ i = .int .i64 j ∧ (l.take j).all arrOk = true ∧ Below w.heap.size w wr) (fun i _ => l.length - (intOf i).toNat)
  case atStart => exact ⟨0, Nat.zero_le _, rfl, rfl, Below.refl _ _⟩
  case round =>
    obtain ⟨j, hj, rfl, hall, hB⟩ := hrel
    have HA := Lib.hid hall
    clear hall
    have hsz := hB.size
    by_cases hlt : j < l.length
    · obtain ⟨b, off, rfl, q1, q2, q3, q4⟩ := HL.out j hlt
      obtain ⟨x, hx⟩ : ∃ x, l.getD j Arr.none = x := ⟨_, rfl⟩
      rw [hx] at q1 q2 q3 q4
      have f1 := (hB.cell (p := ⟨b, off + j * 2, none⟩) (World.block_lt_of_cell? w _ q1)).trans q1
      have f2 := (hB.cell (p := ⟨b, off + j * 2 + 1, none⟩) (World.block_lt_of_cell? w _ q2)).trans q2
      have HX := Lib.hid hx
      clear hx q1 q2 q4
      go_wp2_with fail
      refine (noArray_any x _ q3 (HG.out.below hB)).mono ?_
      rintro e w1 ⟨rfl, hB1⟩
      have hB2 := hB.trans (hB1.mono hsz)
      clear hB1 f1 f2
      cases hv : arrOk x with
      | true =>
        have HN : Hid ((l.take (j + 1)).all arrOk = true) := by show _ = _; rw [all_next arrOk l Arr.none j hlt, HA.out, HX.out, hv]; rfl
        go_wp2_with fail
        go_roundw
        case rel => exact ⟨j + 1, by omega, by go_num, HN.out, hB2⟩
        case measure => simp [intOf]; omega
      | false =>
        have HN : Hid (l.all arrOk = false) := all_stop arrOk l Arr.none j hlt (by rw [HX.out, hv])
        go_wp2_with fail
        go_ret
        exact ⟨_, rfl, by rw [HN.out]; simp, hB2⟩
    · obtain rfl : j = l.length := by omega
      go_wp2_with fail
      go_ret
      exact ⟨_, rfl, by have := HA.out; rw [List.take_length] at this; rw [this]; rfl, hB⟩
theorem containsArray_any (l : List Arr) (w : World) (a : Option Addr) (c : Nat) (hl : ArrsAt w a l) (hg : SignsIn w) :
    Calls Tryd.prog 50 #[.slice a l.length c, .func (.func 51) #[] #[]] w fun e w' => e = .returned (.bool (!l.all arrOk)) ∧ Below w.heap.size w w' := by
  go_enter Tryd.func50, Tryd.ntmps50
  go_wp2_with fail
  refine (indexArray_any l _ a c hl hg).mono ?_
  rintro e w1 ⟨r, rfl, hq, hB1⟩
  have HQ := Lib.hid hq
  clear hq
  go_wp2_with fail
  go_ret
  exact ⟨ret_bool' HQ.out, hB1⟩
theorem areArrays_any (l : List Arr) (w : World) (a : Option Addr) (c : Nat) (hl : ArrsAt w a l) (hg : SignsIn w) :
    Calls Tryd.prog 43 #[.slice a l.length c] w fun e w' => e = .returned (.bool (l.all arrOk)) ∧ Below w.heap.size w w' := by
  go_enter Tryd.func43, Tryd.ntmps43
  go_wp2_with fail
  refine (containsArray_any l _ a c hl hg).mono ?_
  rintro e w1 ⟨rfl, hB1⟩
  go_wp2_with fail
  go_ret
  exact ⟨by simp, hB1⟩
end Go.Proofs.YtkpdngfkdmllkaaDoor
