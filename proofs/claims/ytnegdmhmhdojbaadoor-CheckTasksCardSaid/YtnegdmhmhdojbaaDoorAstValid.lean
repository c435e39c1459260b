/-
  Contracts: which trees are valid (package ast).
-/
import Derived.Test.YtnegdmhmhdojbaaDoorAstForm
import Derived.StillTailTactics
import Derived.Deep.RegionWith
namespace Go.Proofs.YtnegdmhmhdojbaaDoor
set_option linter.unusedVariables false
set_option linter.unusedSimpArgs false
open Go.RowKit
set_option maxRecDepth 100000

/-- what isValid does at a tree -/
def ValidAt (t : Tree) : Prop := ∀ (w : World) (a : Option Addr) (c : Nat) (k : Int), Rep w t a → Fm.cat k → SignsIn w →
  Calls Tryd.prog 78 #[t.val a c, .int .u8 k] w fun e w' => e = .returned (.bool (t.vld k)) ∧ Below w.heap.size w w'

theorem isStmt_of {t : Tree} (H : ValidAt t) (w : World) (a : Option Addr) (c : Nat) (hr : Rep w t a) (hg : SignsIn w) :
    Calls Tryd.prog 92 #[t.val a c] w fun e w' => e = .returned (.bool (t.vld 115)) ∧ Below w.heap.size w w' := by
  have hB0 : Below w.heap.size w (w.alloc (.cells #[.int .u8 t.kind, .int .i64 t.num, .string t.name, .slice a t.len c] 43)) := (Below.refl _ _).alloc (Nat.le_refl _) _
  have HR := Lib.hid (hr.below hB0)
  have HG := Lib.hid (hg.below hB0)
  clear hr hg
  go_enter Tryd.func92, Tryd.ntmps92
  go_wp2_with fail
  refine (H _ a c 115 HR.out (by unfold Fm.cat; omega) HG.out).mono ?_
  rintro e w1 ⟨rfl, hB1⟩
  have hB2 := hB0.trans (hB1.mono (by simp))
  clear hB1
  go_wp2_with fail
  go_ret
  exact ⟨rfl, hB2⟩
theorem noStmt_of {t : Tree} (H : ValidAt t) (w : World) (a : Option Addr) (c : Nat) (hr : Rep w t a) (hg : SignsIn w) :
    Calls Tryd.prog 91 #[t.val a c] w fun e w' => e = .returned (.bool (!t.vld 115)) ∧ Below w.heap.size w w' := by
  have hB0 : Below w.heap.size w (w.alloc (.cells #[.int .u8 t.kind, .int .i64 t.num, .string t.name, .slice a t.len c] 43)) := (Below.refl _ _).alloc (Nat.le_refl _) _
  have HR := Lib.hid (hr.below hB0)
  have HG := Lib.hid (hg.below hB0)
  clear hr hg
  go_enter Tryd.func91, Tryd.ntmps91
  go_wp2_with fail
  refine (isStmt_of H _ a c HR.out HG.out).mono ?_
  rintro e w1 ⟨rfl, hB1⟩
  have hB2 := hB0.trans (hB1.mono (by simp))
  clear hB1
  go_wp2_with fail
  go_ret
  exact ⟨rfl, hB2⟩

/-- an index, not negative just where something is not all -/
def SomeIndex (q : Bool) (w : World) (e : Ending) (w' : World) : Prop := ∃ r : Int, e = .returned (.int .i64 r) ∧ (decide (0 ≤ r) = !q) ∧ Below w.heap.size w w'

set_option maxHeartbeats 1000000 in
theorem indexStmt_of {t : Tree} (H : ∀ i, i < t.len → ValidAt (t.kid i)) (w : World) (a : Option Addr) (c : Nat) (hr : Rep w t a) (hg : SignsIn w) :
    Calls Tryd.prog 95 #[.slice a t.len c, .func (.func 91) #[] #[]] w (SomeIndex (Tree.allTo (fun i => (t.kid i).vld 115) t.len) w) := by
  have HH := Lib.hid H
  clear H
  have hl := hr.fits.len
  have HK := Lib.hid hr.kids
  have HG := Lib.hid hg
  clear hr hg
  go_enter Tryd.func95, Tryd.ntmps95
  go_wp2_with fail
  go_loopw [8] (fun i wr => ∃ j : Nat, j ≤ t.len ∧ i = .int .i64 j ∧ Tree.allTo (fun i => (t.kid i).vld 115) j = true ∧ Below w.heap.size w wr) (fun i _ => t.len - (intOf i).toNat)
  case atStart => exact ⟨0, Nat.zero_le _, rfl, rfl, Below.refl _ _⟩
  case round =>
    obtain ⟨j, hj, rfl, hall, hB⟩ := hrel
    have HA := Lib.hid hall
    clear hall
    have hsz := hB.size
    by_cases hlt : j < t.len
    · rcases HK.out with h0 | ⟨b, off, rfl, hc⟩
      · omega
      obtain ⟨ai, ci, hn, hr⟩ := hc j hlt
      obtain ⟨f0, f1, f2, f3⟩ := hn.below hB hn.lt
      clear hc hn
      go_wp2_with fail
      refine (noStmt_of (HH.out j hlt) _ ai ci (hr.below hB) (HG.out.below hB)).mono ?_
      rintro e w1 ⟨rfl, hB1⟩
      have hB2 := hB.trans (hB1.mono hsz)
      clear hB1 hr f0 f1 f2 f3
      cases hv : (t.kid j).vld 115 with
      | true =>
        have HN : Hid (Tree.allTo (fun i => (t.kid i).vld 115) (j + 1) = true) := by show _ = _; rw [Tree.allTo_succ, HA.out, hv]; rfl
        go_wp2_with fail
        go_roundw
        case rel => exact ⟨j + 1, by omega, by go_num, HN.out, hB2⟩
        case measure => simp [intOf]; omega
      | false =>
        have HN : Hid (Tree.allTo (fun i => (t.kid i).vld 115) t.len = false) := Tree.allTo_false hlt hv
        go_wp2_with fail
        go_ret
        exact ⟨_, rfl, by rw [HN.out]; simp, hB2⟩
    · obtain rfl : j = t.len := by omega
      go_wp2_with fail
      go_ret
      exact ⟨_, rfl, by rw [HA.out]; rfl, hB⟩

theorem containsStmt_of {t : Tree} (H : ∀ i, i < t.len → ValidAt (t.kid i)) (w : World) (a : Option Addr) (c : Nat) (hr : Rep w t a) (hg : SignsIn w) :
    Calls Tryd.prog 90 #[.slice a t.len c, .func (.func 91) #[] #[]] w fun e w' => e = .returned (.bool (!Tree.allTo (fun i => (t.kid i).vld 115) t.len)) ∧ Below w.heap.size w w' := by
  go_enter Tryd.func90, Tryd.ntmps90
  go_wp2_with fail
  refine (indexStmt_of H _ a c hr hg).mono ?_
  rintro e w1 ⟨r, rfl, hq, hB1⟩
  have HQ := Lib.hid hq
  clear hq H
  go_wp2_with fail
  go_ret
  exact ⟨ret_bool' HQ.out, hB1⟩
end Go.Proofs.YtnegdmhmhdojbaaDoor
