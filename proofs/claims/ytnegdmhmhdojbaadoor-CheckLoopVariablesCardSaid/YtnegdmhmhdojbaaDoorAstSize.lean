/-
  Contracts: the measures of trees (package ast and its reference), and the statements' count.
-/
import Derived.Test.YtnegdmhmhdojbaaDoorProg
import Derived.Test.YtnegdmhmhdojbaaDoorTreeBase
import Derived.Lib.Hide
import Derived.LoopTactic
import Derived.BigGuardPart
import Derived.Outline
namespace Go.Proofs.YtnegdmhmhdojbaaDoor
set_option linter.unusedVariables false
set_option linter.unusedSimpArgs false
open Go.RowKit
set_option maxRecDepth 100000

theorem ret_int {k : IntKind} {a b : Int} (h : a = b) : Ending.returned (.int k a) = .returned (.int k b) := by rw [h]

set_option maxHeartbeats 1000000 in
theorem size_any : ∀ (t : Tree) (w : World) (a : Option Addr) (c : Nat), Rep w t a → t.size ≤ 1000000 →
    Calls Tryd.prog 23 #[t.val a c] w fun e w' => e = .returned (.int .i64 (t.size : Nat)) ∧ Below w.heap.size w w' := by
  intro t
  induction t using Tree.ind with
  | h t ih =>
    intro w a c hv hs
    have IH := Lib.hid ih
    clear ih
    have hl := hv.fits.len
    have HK := Lib.hid hv.kids
    clear hv
    have HV := Lib.hid t.size_eq
    go_enter Tryd.func23, Tryd.ntmps23
    go_wp2_with fail
    go_loopw [3, 9] (fun sz i wr => ∃ j : Nat, j ≤ t.len ∧ i = .int .i64 j ∧ sz = .int .i64 ((1 + Tree.sumTo (fun i => (t.kid i).size) j : Nat) : Int) ∧ Below (w.heap.size + 1) (w.alloc (.cells #[.int .u8 t.kind, .int .i64 t.num, .string t.name, .slice a t.len c] 43)) wr) (fun _ i _ => t.len - (intOf i).toNat)
    case atStart => exact ⟨0, Nat.zero_le _, rfl, rfl, Below.refl _ _⟩
    case round =>
      obtain ⟨j, hj, rfl, rfl, hBx⟩ := hrel
      have hB := ofBox hBx
      have hsz := box_size hBx
      have bx0 := box_cell hBx 0
      have bx3 := box_cell hBx 3
      simp only [List.getElem?_toArray, List.getElem?_cons_zero, List.getElem?_cons_succ] at bx0 bx3
      by_cases hlt : j < t.len
      · rcases HK.out with h0 | ⟨b, off, rfl, hc⟩
        · omega
        obtain ⟨ai, ci, hn, hr⟩ := hc j hlt
        obtain ⟨f0, f1, f2, f3⟩ := hn.below hB hn.lt
        have HSS := Lib.hid (Tree.sumTo_succ (fun i => (t.kid i).size) j)
        have hs1 := Tree.sumTo_le (f := fun i => (t.kid i).size) (show j + 1 ≤ t.len by omega)
        have hs2 : Tree.sumTo (fun i => (t.kid i).size) j + (t.kid j).size ≤ 1000000 := by have := HSS.out; have := HV.out; omega
        clear hs1
        have HI := Lib.hid (IH.out j hlt)
        clear hc hn
        go_wp2_with fail
        refine (HI.out _ ai ci (hr.below (hB.alloc (by omega) _)) (by omega)).mono ?_
        rintro e w1 ⟨rfl, hB1⟩
        have hB2 : Below (w.heap.size + 1) (w.alloc (.cells #[.int .u8 t.kind, .int .i64 t.num, .string t.name, .slice (some ⟨b, off, none⟩) t.len c] 43)) w1 := (hBx.alloc hsz _).trans (hB1.mono (by simp; omega))
        clear hB1 hr f0 f1 f2 f3
        go_wp2_with fail
        all_goals
          go_roundw
          case rel => exact ⟨j + 1, by omega, by go_num, by rw [HSS.out]; go_num, hB2⟩
          case measure => simp [intOf]; omega
      · obtain rfl : j = t.len := by omega
        go_wp2_with fail
        go_ret
        exact ⟨ret_int (by rw [HV.out]), hB⟩

set_option maxHeartbeats 1000000 in
theorem nest_any : ∀ (t : Tree) (w : World) (a : Option Addr) (c : Nat), Rep w t a → t.nest ≤ 1000000 →
    Calls Tryd.prog 68 #[t.val a c] w fun e w' => e = .returned (.int .i64 (t.nest : Nat)) ∧ Below w.heap.size w w' := by
  intro t
  induction t using Tree.ind with
  | h t ih =>
    intro w a c hv hs
    have IH := Lib.hid ih
    clear ih
    have hl := hv.fits.len
    have HK := Lib.hid hv.kids
    clear hv
    have HV := Lib.hid t.nest_eq
    go_enter Tryd.func68, Tryd.ntmps68
    go_wp2_with fail
    go_loopw [3, 9] (fun sz i wr => ∃ j : Nat, j ≤ t.len ∧ i = .int .i64 j ∧ sz = .int .i64 ((Tree.maxTo (fun i => (t.kid i).nest) j : Nat) : Int) ∧ Below (w.heap.size + 1) (w.alloc (.cells #[.int .u8 t.kind, .int .i64 t.num, .string t.name, .slice a t.len c] 43)) wr) (fun _ i _ => t.len - (intOf i).toNat)
    case atStart => exact ⟨0, Nat.zero_le _, rfl, rfl, Below.refl _ _⟩
    case round =>
      obtain ⟨j, hj, rfl, rfl, hBx⟩ := hrel
      have hB := ofBox hBx
      have hsz := box_size hBx
      have bx0 := box_cell hBx 0
      have bx3 := box_cell hBx 3
      simp only [List.getElem?_toArray, List.getElem?_cons_zero, List.getElem?_cons_succ] at bx0 bx3
      have hmx : Tree.maxTo (fun i => (t.kid i).nest) j ≤ 1000000 := by have := Tree.maxTo_le (f := fun i => (t.kid i).nest) hj; have := HV.out; omega
      by_cases hlt : j < t.len
      · rcases HK.out with h0 | ⟨b, off, rfl, hc⟩
        · omega
        obtain ⟨ai, ci, hn, hr⟩ := hc j hlt
        obtain ⟨f0, f1, f2, f3⟩ := hn.below hB hn.lt
        have HSS := Lib.hid (Tree.maxTo_succ (fun i => (t.kid i).nest) j)
        have hs1 := Tree.maxTo_le (f := fun i => (t.kid i).nest) (show j + 1 ≤ t.len by omega)
        have hs2 : Tree.maxTo (fun i => (t.kid i).nest) j ≤ 1000000 ∧ (t.kid j).nest ≤ 1000000 := by have := HSS.out; have := HV.out; omega
        clear hs1
        have HI := Lib.hid (IH.out j hlt)
        clear hc hn
        go_wp2_with fail
        refine (HI.out _ ai ci (hr.below (hB.alloc (by omega) _)) (by omega)).mono ?_
        rintro e w1 ⟨rfl, hB1⟩
        have hB2 : Below (w.heap.size + 1) (w.alloc (.cells #[.int .u8 t.kind, .int .i64 t.num, .string t.name, .slice (some ⟨b, off, none⟩) t.len c] 43)) w1 := (hBx.alloc hsz _).trans (hB1.mono (by simp; omega))
        clear hB1 hr f0 f1 f2 f3
        go_wp2_with fail
        all_goals
          go_roundw
          case rel => exact ⟨j + 1, by omega, by go_num, congrArg (Value.int .i64) (by rw [HSS.out]; omega), hB2⟩
          case measure => simp [intOf]; omega
      · obtain rfl : j = t.len := by omega
        by_cases k42 : t.kind = 42
        · have q : (t.kind == 42) = true := by simpa using k42
          have HE : Hid (t.nest = Tree.maxTo (fun i => (t.kid i).nest) t.len + 1) := by show _ = _; rw [HV.out, if_pos (Or.inl k42)]
          clear k42
          go_wp2_with fail
          go_ret
          exact ⟨ret_int (by rw [HE.out]; rfl), hB⟩
        · have q : (t.kind == 42) = false := by simpa using k42
          by_cases k43 : t.kind = 43
          · have q' : (t.kind == 43) = true := by simpa using k43
            have HE : Hid (t.nest = Tree.maxTo (fun i => (t.kid i).nest) t.len + 1) := by show _ = _; rw [HV.out, if_pos (Or.inr k43)]
            clear k42 k43
            go_wp2_with fail
            go_ret
            exact ⟨ret_int (by rw [HE.out]; rfl), hB⟩
          · have q' : (t.kind == 43) = false := by simpa using k43
            have HE : Hid (t.nest = Tree.maxTo (fun i => (t.kid i).nest) t.len) := by show _ = _; rw [HV.out, if_neg (by omega)]; rfl
            clear k42 k43
            go_wp2_with fail
            go_ret
            exact ⟨ret_int (by rw [HE.out]), hB⟩

end Go.Proofs.YtnegdmhmhdojbaaDoor
