/-
  Contract: slices.ContainsFunc over declarations of arrays, with any closure that answers.
-/
import Derived.Test.YtnegdmhmhdojbaaDoorAreArrays
import Derived.Test.YtnegdmhmhdojbaaDoorMemSet
namespace Go.Proofs.YtnegdmhmhdojbaaDoor
set_option linter.unusedVariables false
set_option linter.unusedSimpArgs false
open Go.RowKit
set_option maxRecDepth 100000

/-- a closure that answers for each declaration -/
def Answers (f : Arr → Bool) (gf : Nat) (lb : Array Value) (W0 : World) : Prop :=
  ∀ (x : Arr) (W : World), Below W0.heap.size W0 W → Calls Tryd.prog gf (#[.agg #[.string x.name, .int .i64 x.len]] ++ lb) W fun e W' => e = .returned (.bool (f x)) ∧ Below W.heap.size W W'
set_option maxHeartbeats 1000000 in
theorem hasIdx_any (f : Arr → Bool) (gf : Nat) (lb : Array Value) (eg : ∀ args w, (callFunc gf args).run Tryd.prog w = .ok (.enter gf args) w) (l : List Arr) (w : World) (a : Option Addr) (c : Nat) (hl : ArrsAt w a l) (hG : Answers f gf lb w) :
    Calls Tryd.prog 57 #[.slice a l.length c, .func (.func gf) #[] lb] w (SomeIndex (l.all (fun x => !f x)) w) := by
  have HL := Lib.hid hl.2
  have hlen := hl.1
  have HG := Lib.hid hG
  clear hl hG
  go_enter Tryd.func57, Tryd.ntmps57
  go_wp2_with fail
  go_loopw [8] (fun i wr => ∃ j : Nat, j ≤ l.length ∧ i = .int .i64 j ∧ (l.take j).all (fun x => !f x) = true ∧ Below w.heap.size w wr) (fun i _ => l.length - (intOf i).toNat)
  case atStart => exact ⟨0, Nat.zero_le _, rfl, rfl, Below.refl _ _⟩
  case round =>
    obtain ⟨j, hj, rfl, hall, hB⟩ := hrel
    have HA := Lib.hid hall
    clear hall
    have hsz := hB.size
    by_cases hlt : j < l.length
    · obtain ⟨b, off, rfl, q1, q2, q3, q4⟩ := HL.out j hlt
      obtain ⟨x, hx⟩ : ∃ x, l.getD j Arr.none = x := ⟨_, rfl⟩
      rw [hx] at q1 q2 q3 q4
      have f1 := (hB.cell (p := ⟨b, off + j * 2, none⟩) (World.block_lt_of_cell? w _ q1)).trans q1
      have f2 := (hB.cell (p := ⟨b, off + j * 2 + 1, none⟩) (World.block_lt_of_cell? w _ q2)).trans q2
      have HX := Lib.hid hx
      clear hx q1 q2 q4
      go_wp2_with fail
      refine (HG.out x _ hB).mono ?_
      rintro e w1 ⟨rfl, hB1⟩
      have hB2 := hB.trans (hB1.mono hsz)
      clear hB1 f1 f2
      cases hv : f x with
      | false =>
        have HN : Hid ((l.take (j + 1)).all (fun x => !f x) = true) := by show _ = _; rw [all_next (fun x => !f x) l Arr.none j hlt, HA.out, HX.out, hv]; rfl
        go_wp2_with fail
        go_roundw
        case rel => exact ⟨j + 1, by omega, by go_num, HN.out, hB2⟩
        case measure => simp [intOf]; omega
      | true =>
        have HN : Hid (l.all (fun x => !f x) = false) := all_stop (fun x => !f x) l Arr.none j hlt (by rw [HX.out, hv]; rfl)
        go_wp2_with fail
        go_ret
        exact ⟨_, rfl, by rw [HN.out]; simp, hB2⟩
    · obtain rfl : j = l.length := by omega
      go_wp2_with fail
      go_ret
      exact ⟨_, rfl, by have := HA.out; rw [List.take_length] at this; rw [this]; rfl, hB⟩
theorem has_any (f : Arr → Bool) (gf : Nat) (lb : Array Value) (eg : ∀ args w, (callFunc gf args).run Tryd.prog w = .ok (.enter gf args) w) (l : List Arr) (w : World) (a : Option Addr) (c : Nat) (hl : ArrsAt w a l) (hG : Answers f gf lb w) :
    Calls Tryd.prog 27 #[.slice a l.length c, .func (.func gf) #[] lb] w fun e w' => e = .returned (.bool (l.any f)) ∧ Below w.heap.size w w' := by
  have HE : Hid ((!l.all (fun x => !f x)) = l.any f) := by
    show _ = _
    rw [List.not_all_eq_any_not]
    congr 1
    funext x
    simp
  have hlen := hl.1
  have HL := Lib.hid hl
  have HG := Lib.hid hG
  clear hl hG
  go_enter Tryd.func27, Tryd.ntmps27
  go_wp2_with fail
  refine (hasIdx_any f gf lb eg l _ a c HL.out HG.out).mono ?_
  rintro e w1 ⟨r, rfl, hq, hB1⟩
  have HQ := Lib.hid hq
  clear hq
  go_wp2_with fail
  go_ret
  exact ⟨(ret_bool' HQ.out).trans (by rw [HE.out]), hB1⟩
end Go.Proofs.YtnegdmhmhdojbaaDoor
