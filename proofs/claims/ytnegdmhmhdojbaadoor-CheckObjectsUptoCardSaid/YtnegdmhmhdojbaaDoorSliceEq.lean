/-
  Contracts: equal rows of strings and of arrays (slices.Equal, package ontimeref12).
-/
import Derived.Test.YtnegdmhmhdojbaaDoorPrgValid
import Derived.Deep.QuietTactic
import Derived.BigQuiet
namespace Go.Proofs.YtnegdmhmhdojbaaDoor
set_option linter.unusedVariables false
set_option linter.unusedSimpArgs false
open Go.RowKit
set_option maxRecDepth 100000

/-- whether two things are equal -/
noncomputable def eqC {α : Type} (x y : α) : Bool := @decide (x = y) (Classical.propDecidable _)
theorem eqC_true {α : Type} {x y : α} : eqC x y = true ↔ x = y := by unfold eqC; exact @decide_eq_true_iff _ (Classical.propDecidable _)
theorem eqC_false {α : Type} {x y : α} : eqC x y = false ↔ x ≠ y := by unfold eqC; exact @decide_eq_false_iff_not _ (Classical.propDecidable _)
theorem eqC_self {α : Type} (x : α) : eqC x x = true := eqC_true.2 rfl
theorem eqC_comm {α : Type} (x y : α) : eqC x y = eqC y x := by
  cases h : eqC x y with
  | true => exact (eqC_true.2 (eqC_true.1 h).symm).symm
  | false => exact (eqC_false.2 (fun e => eqC_false.1 h e.symm)).symm
theorem take_eq_next {α : Type} {l m : List α} {d : α} {j : Nat} (h1 : j < l.length) (h2 : j < m.length) (h : l.take j = m.take j) (he : l.getD j d = m.getD j d) : l.take (j + 1) = m.take (j + 1) := by
  rw [List.take_succ_eq_append_getElem h1, List.take_succ_eq_append_getElem h2, h]
  have e1 : l.getD j d = l[j] := by simp [h1]
  have e2 : m.getD j d = m[j] := by simp [h2]
  rw [← e1, ← e2, he]
theorem bytes_eq_iff {a b : ByteArray} : a.toList = b.toList ↔ a = b := by
  constructor
  · intro h; rw [ByteArray.toList_eq, ByteArray.toList_eq] at h; exact ByteArray.ext (Array.toList_inj.1 h)
  · intro h; rw [h]

theorem below_drews {B : Nat} {a w : World} (h : Below B a w) (n : Nat) : Below B a (w.drewN n) := ⟨h.os, h.tape, h.output, h.size, h.block⟩

set_option maxHeartbeats 1000000 in
theorem equalStrs_any (l m : List ByteArray) (w : World) (a a' : Option Addr) (c c' : Nat) (hl : StrsAt w a l) (hm : StrsAt w a' m) :
    Calls Tryd.prog 25 #[.slice a l.length c, .slice a' m.length c'] w fun e w' => e = .returned (.bool (eqC l m)) ∧ Below w.heap.size w w' := by
  have HL := Lib.hid hl.2
  have HM := Lib.hid hm.2
  have hll := hl.1
  have hml := hm.1
  clear hl hm
  by_cases hlen : l.length = m.length
  · have q0 : ((l.length : Int) != (m.length : Int)) = false := by simp [hlen]
    have HLEN := Lib.hid hlen
    have hle : l.length ≤ m.length := by omega
    clear hlen
    go_enter Tryd.func25, Tryd.ntmps25
    go_wp2_with fail
    go_loopw [5, 13] (fun _ i wr => ∃ j : Nat, j ≤ l.length ∧ i = .int .i64 j ∧ l.take j = m.take j ∧ Below w.heap.size w wr) (fun _ i _ => l.length - (intOf i).toNat)
    case atStart => exact ⟨0, Nat.zero_le _, rfl, rfl, Below.refl _ _⟩
    case round =>
      obtain ⟨j, hj, rfl, htk, hB⟩ := hrel
      have HTK := Lib.hid htk
      clear htk
      by_cases hlt : j < l.length
      · have hlm : j < m.length := by omega
        obtain ⟨b, off, rfl, q1, _⟩ := HL.out j hlt
        obtain ⟨b', off', rfl, q2, _⟩ := HM.out j hlm
        obtain ⟨s, hs⟩ : ∃ s, l.getD j ⟨#[]⟩ = s := ⟨_, rfl⟩
        obtain ⟨s', hs'⟩ : ∃ s, m.getD j ⟨#[]⟩ = s := ⟨_, rfl⟩
        rw [hs] at q1
        rw [hs'] at q2
        have f1 := cell_below hB q1
        have f2 := cell_below hB q2
        have HS := Lib.hid hs
        have HS' := Lib.hid hs'
        have hj0 : (0 : Int) ≤ (j : Int) := by omega
        have hj1 : (j : Int) < (l.length : Int) := by omega
        have hj2 : (j : Int) < (m.length : Int) := by omega
        clear hs hs' q1 q2
        by_cases he : s = s'
        · subst he
          have HN := Lib.hid (take_eq_next (d := ⟨#[]⟩) hlt hlm HTK.out (HS.out.trans HS'.out.symm))
          go_wp2_with fail
          go_quiet (fail)
          have hBq := below_drews hB
          go_wp2_with fail
          go_roundw
          case rel => exact ⟨j + 1, by omega, by go_num, HN.out, hBq _⟩
          case measure => simp [intOf]; omega
        · have hne : ¬ s.toList = s'.toList := fun h => he (bytes_eq_iff.1 h)
          have e1 : (s.toList == s'.toList) = false := by simpa using hne
          have e2 : (s.toList != s'.toList) = true := by simpa using hne
          have HE : Hid (eqC l m = false) := eqC_false.2 (fun e => he (by rw [← HS.out, ← HS'.out, e]))
          clear he
          go_wp2_with fail
          go_quiet (fail)
          have hBq := below_drews hB
          go_wp2_with fail
          go_ret
          exact ⟨by rw [HE.out]; rfl, hBq _⟩
      · obtain rfl : j = l.length := by omega
        have HE : Hid (eqC l m = true) := eqC_true.2 (by have := HTK.out; rw [List.take_length, HLEN.out, List.take_length] at this; exact this)
        go_wp2_with fail
        go_ret
        exact ⟨by rw [HE.out]; rfl, hB⟩
  · have q0 : ((l.length : Int) != (m.length : Int)) = true := by simp; omega
    have HE : Hid (eqC l m = false) := eqC_false.2 (fun e => hlen (by rw [e]))
    clear hlen
    go_enter Tryd.func25, Tryd.ntmps25
    go_wp2_with fail
    go_ret
    exact ⟨by rw [HE.out]; rfl, Below.refl _ _⟩
end Go.Proofs.YtnegdmhmhdojbaaDoor
