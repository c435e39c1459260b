/-
  Contract: Size (package ast), of a tree of any size: the number goes round.
-/
import Derived.Test.YtnegdmhmhdojbaaDoorAstSize
import Derived.IntWalk
namespace Go.Proofs.YtnegdmhmhdojbaaDoor
set_option linter.unusedVariables false
set_option linter.unusedSimpArgs false
open Go.RowKit
set_option maxRecDepth 100000

theorem wrap64_two (a b : Int) : wrap64 (wrap64 a + wrap64 b) = wrap64 (a + b) := by unfold wrap64; omega
theorem wrap64_of (n : Nat) (h : n ≤ 9223372036854775807) : wrap64 (n : Int) = (n : Int) := IntWalk.wrap64_in _ (by omega)
set_option maxHeartbeats 1000000 in
theorem sizeW_any : ∀ (t : Tree) (w : World) (a : Option Addr) (c : Nat), Rep w t a →
    Calls Tryd.prog 23 #[t.val a c] w fun e w' => e = .returned (.int .i64 (wrap64 (t.size : Nat))) ∧ Below w.heap.size w w' := by
  intro t
  induction t using Tree.ind with
  | h t ih =>
    intro w a c hv
    have IH := Lib.hid ih
    clear ih
    have hl := hv.fits.len
    have HK := Lib.hid hv.kids
    clear hv
    have HV := Lib.hid t.size_eq
    go_enter Tryd.func23, Tryd.ntmps23
    go_wp2_with fail
    go_loopw [3, 9] (fun sz i wr => ∃ j : Nat, j ≤ t.len ∧ i = .int .i64 j ∧ sz = .int .i64 (wrap64 ((1 + Tree.sumTo (fun i => (t.kid i).size) j : Nat) : Int)) ∧ Below (w.heap.size + 1) (w.alloc (.cells #[.int .u8 t.kind, .int .i64 t.num, .string t.name, .slice a t.len c] 43)) wr) (fun _ i _ => t.len - (intOf i).toNat)
    case atStart => exact ⟨0, Nat.zero_le _, rfl, by rw [wrap64_of _ (by simp [Tree.sumTo])]; rfl, Below.refl _ _⟩
    case round =>
      obtain ⟨j, hj, rfl, rfl, hBx⟩ := hrel
      have hB := ofBox hBx
      have hsz := box_size hBx
      have bx0 := box_cell hBx 0
      have bx3 := box_cell hBx 3
      simp only [List.getElem?_toArray, List.getElem?_cons_zero, List.getElem?_cons_succ] at bx0 bx3
      by_cases hlt : j < t.len
      · rcases HK.out with h0 | ⟨b, off, rfl, hc⟩
        · omega
        obtain ⟨ai, ci, hn, hr⟩ := hc j hlt
        obtain ⟨f0, f1, f2, f3⟩ := hn.below hB hn.lt
        have HSS := Lib.hid (Tree.sumTo_succ (fun i => (t.kid i).size) j)
        have HI := Lib.hid (IH.out j hlt)
        clear hc hn
        go_wp2_with fail
        refine (HI.out _ ai ci (hr.below (hB.alloc (by omega) _))).mono ?_
        rintro e w1 ⟨rfl, hB1⟩
        have hB2 : Below (w.heap.size + 1) (w.alloc (.cells #[.int .u8 t.kind, .int .i64 t.num, .string t.name, .slice (some ⟨b, off, none⟩) t.len c] 43)) w1 := (hBx.alloc hsz _).trans (hB1.mono (by simp; omega))
        clear hB1 hr f0 f1 f2 f3
        go_wp2_with fail
        all_goals
          go_roundw
          case rel => exact ⟨j + 1, by omega, by go_num, by rw [wrap64_two, HSS.out]; refine congrArg _ (congrArg _ ?_); omega, hB2⟩
          case measure => simp [intOf]; omega
      · obtain rfl : j = t.len := by omega
        go_wp2_with fail
        go_ret
        exact ⟨ret_int (by rw [HV.out]), hB⟩

end Go.Proofs.YtnegdmhmhdojbaaDoor
