/-
  AstSizes: several texts in one (AstSize, AstEqual, RefEqual).
-/
import Derived.Test.YtgochgcchkdlmaaDoorProg
import Derived.Test.YtgochgcchkdlmaaDoorTreeBase
import Derived.Lib.Hide
import Derived.LoopTactic
import Derived.BigGuardPart
import Derived.Outline
import Derived.Deep.RegionHeld3
import Derived.StillTailTactics
import Derived.Deep.RegionWith
/-
  Contracts: the measures of trees (package ast and its reference), and the statements' count.
-/
namespace Go.Proofs.YtgochgcchkdlmaaDoor
set_option linter.unusedVariables false
set_option linter.unusedSimpArgs false
open Go.RowKit
set_option maxRecDepth 100000

theorem ret_int {k : IntKind} {a b : Int} (h : a = b) : Ending.returned (.int k a) = .returned (.int k b) := by rw [h]

set_option maxHeartbeats 1000000 in
theorem nest_any : ∀ (t : Tree) (w : World) (a : Option Addr) (c : Nat), Rep w t a → t.nest ≤ 1000000 →
    Calls Tryd.prog 63 #[t.val a c] w fun e w' => e = .returned (.int .i64 (t.nest : Nat)) ∧ Below w.heap.size w w' := by
  intro t
  induction t using Tree.ind with
  | h t ih =>
    intro w a c hv hs
    have IH := Lib.hid ih
    clear ih
    have hl := hv.fits.len
    have HK := Lib.hid hv.kids
    clear hv
    have HV := Lib.hid t.nest_eq
    go_enter Tryd.func63, Tryd.ntmps63
    go_wp2_with fail
    go_loopw [3, 9] (fun sz i wr => ∃ j : Nat, j ≤ t.len ∧ i = .int .i64 j ∧ sz = .int .i64 ((Tree.maxTo (fun i => (t.kid i).nest) j : Nat) : Int) ∧ Below (w.heap.size + 1) (w.alloc (.cells #[.int .u8 t.kind, .int .i64 t.num, .string t.name, .slice a t.len c] 50)) wr) (fun _ i _ => t.len - (intOf i).toNat)
    case atStart => exact ⟨0, Nat.zero_le _, rfl, rfl, Below.refl _ _⟩
    case round =>
      obtain ⟨j, hj, rfl, rfl, hBx⟩ := hrel
      have hB := ofBox hBx
      have hsz := box_size hBx
      have bx0 := box_cell hBx 0
      have bx3 := box_cell hBx 3
      simp only [List.getElem?_toArray, List.getElem?_cons_zero, List.getElem?_cons_succ] at bx0 bx3
      have hmx : Tree.maxTo (fun i => (t.kid i).nest) j ≤ 1000000 := by have := Tree.maxTo_le (f := fun i => (t.kid i).nest) hj; have := HV.out; omega
      by_cases hlt : j < t.len
      · rcases HK.out with h0 | ⟨b, off, rfl, hc⟩
        · omega
        obtain ⟨ai, ci, hn, hr⟩ := hc j hlt
        obtain ⟨f0, f1, f2, f3⟩ := hn.below hB hn.lt
        have HSS := Lib.hid (Tree.maxTo_succ (fun i => (t.kid i).nest) j)
        have hs1 := Tree.maxTo_le (f := fun i => (t.kid i).nest) (show j + 1 ≤ t.len by omega)
        have hs2 : Tree.maxTo (fun i => (t.kid i).nest) j ≤ 1000000 ∧ (t.kid j).nest ≤ 1000000 := by have := HSS.out; have := HV.out; omega
        clear hs1
        have HI := Lib.hid (IH.out j hlt)
        clear hc hn
        go_wp2_with fail
        refine (HI.out _ ai ci (hr.below (hB.alloc (by omega) _)) (by omega)).mono ?_
        rintro e w1 ⟨rfl, hB1⟩
        have hB2 : Below (w.heap.size + 1) (w.alloc (.cells #[.int .u8 t.kind, .int .i64 t.num, .string t.name, .slice (some ⟨b, off, none⟩) t.len c] 50)) w1 := (hBx.alloc hsz _).trans (hB1.mono (by simp; omega))
        clear hB1 hr f0 f1 f2 f3
        go_wp2_with fail
        all_goals
          go_roundw
          case rel => exact ⟨j + 1, by omega, by go_num, congrArg (Value.int .i64) (by rw [HSS.out]; omega), hB2⟩
          case measure => simp [intOf]; omega
      · obtain rfl : j = t.len := by omega
        by_cases k42 : t.kind = 42
        · have q : (t.kind == 42) = true := by simpa using k42
          have HE : Hid (t.nest = Tree.maxTo (fun i => (t.kid i).nest) t.len + 1) := by show _ = _; rw [HV.out, if_pos (Or.inl k42)]
          clear k42
          go_wp2_with fail
          go_ret
          exact ⟨ret_int (by rw [HE.out]; rfl), hB⟩
        · have q : (t.kind == 42) = false := by simpa using k42
          by_cases k43 : t.kind = 43
          · have q' : (t.kind == 43) = true := by simpa using k43
            have HE : Hid (t.nest = Tree.maxTo (fun i => (t.kid i).nest) t.len + 1) := by show _ = _; rw [HV.out, if_pos (Or.inr k43)]
            clear k42 k43
            go_wp2_with fail
            go_ret
            exact ⟨ret_int (by rw [HE.out]; rfl), hB⟩
          · have q' : (t.kind == 43) = false := by simpa using k43
            have HE : Hid (t.nest = Tree.maxTo (fun i => (t.kid i).nest) t.len) := by show _ = _; rw [HV.out, if_neg (by omega)]; rfl
            clear k42 k43
            go_wp2_with fail
            go_ret
            exact ⟨ret_int (by rw [HE.out]), hB⟩

set_option maxHeartbeats 1000000 in
theorem count_any : ∀ (d : Nat) (t : Tree) (w : World) (a : Option Addr) (c : Nat) (x : Int), Rep w t a → d ≤ 1000 → x = d →
    Calls Tryd.prog 46 #[t.val a c, .int .i64 x] w fun e w' => e = .returned (.int .i64 (Tree.cnt d t : Nat)) ∧ Below w.heap.size w w' := by
  intro d
  induction d with
  | zero =>
    intro t w a c x hv hd hx
    subst hx
    go_enter Tryd.func46, Tryd.ntmps46
    go_wp2_with fail
    go_ret
    exact ⟨rfl, (Below.refl _ _).alloc (Nat.le_refl _) _⟩
  | succ d ih =>
    intro t w a c x hv hd hx
    have HX := Lib.hid hx
    have hx1 : 1 ≤ x ∧ x ≤ 1000 := by omega
    clear hx
    have IH := Lib.hid ih
    clear ih
    have hl := hv.fits.len
    have HK := Lib.hid hv.kids
    clear hv
    have HV := Lib.hid (Tree.cnt_succ d t)
    go_enter Tryd.func46, Tryd.ntmps46
    go_wp2_with fail
    go_loopw [5, 13] (fun sz i wr => ∃ j : Nat, j ≤ t.len ∧ i = .int .i64 j ∧ sz = .int .i64 ((1 + Tree.sumTo (fun i => Tree.cnt d (t.kid i)) j : Nat) : Int) ∧ 1 + Tree.sumTo (fun i => Tree.cnt d (t.kid i)) j < 1000 ∧ Below w.heap.size w wr) (fun _ i _ => t.len - (intOf i).toNat)
    case atStart => exact ⟨0, Nat.zero_le _, rfl, rfl, by simp [Tree.sumTo], (Below.refl _ _).alloc (Nat.le_refl _) _⟩
    case round =>
      obtain ⟨j, hj, rfl, rfl, hsm, hB⟩ := hrel
      have hsz := hB.size
      by_cases hlt : j < t.len
      · rcases HK.out with h0 | ⟨b, off, rfl, hc⟩
        · omega
        obtain ⟨ai, ci, hn, hr⟩ := hc j hlt
        obtain ⟨f0, f1, f2, f3⟩ := hn.below hB hn.lt
        have HSS := Lib.hid (Tree.sumTo_succ (fun i => Tree.cnt d (t.kid i)) j)
        have hs2 := Tree.cnt_le d (t.kid j)
        have HBIG : Hid (1000 ≤ 1 + (Tree.sumTo (fun i => Tree.cnt d (t.kid i)) j + Tree.cnt d (t.kid j)) → Tree.cnt (d + 1) t = 1000) := by
          intro h
          have h1 := Tree.sumTo_le (f := fun i => Tree.cnt d (t.kid i)) (show j + 1 ≤ t.len by omega)
          have := HSS.out
          have := HV.out
          omega
        have HI := Lib.hid (IH.out (t.kid j))
        clear hc hn
        go_wp2_with fail
        refine (HI.out _ ai ci _ (hr.below (hB.alloc hsz _)) (by omega) (by have := HX.out; omega)).mono ?_
        rintro e w1 ⟨rfl, hB1⟩
        have hB2 : Below w.heap.size w w1 := (hB.alloc hsz _).trans (hB1.mono (by simp; omega))
        clear hB1 hr f0 f1 f2 f3
        by_cases hbig : 1000 ≤ 1 + (Tree.sumTo (fun i => Tree.cnt d (t.kid i)) j + Tree.cnt d (t.kid j))
        · go_wp2_with fail
          go_ret
          exact ⟨ret_int (by rw [HBIG.out hbig]; rfl), hB2⟩
        · go_wp2_with fail
          go_roundw
          case rel => exact ⟨j + 1, by omega, by go_num, by rw [HSS.out]; go_num, by rw [HSS.out]; omega, hB2⟩
          case measure => simp [intOf]; omega
      · obtain rfl : j = t.len := by omega
        go_wp2_with fail
        go_ret
        exact ⟨ret_int (by rw [HV.out]; omega), hB⟩

/-- ontimelaw12.Big -/
theorem big_yes (t : Tree) (w : World) (a : Option Addr) (c : Nat) (hr : Rep w t a) (h : t.big) :
    Calls Tryd.prog 27 #[t.val a c] w fun e w' => e = .returned (.int .i64 1) ∧ Below w.heap.size w w' := by
  unfold Tree.big at h
  have hB0 : Below w.heap.size w (w.alloc (.cells #[.int .u8 t.kind, .int .i64 t.num, .string t.name, .slice a t.len c] 50)) := (Below.refl _ _).alloc (Nat.le_refl _) _
  have HR := Lib.hid (hr.below hB0)
  clear hr
  go_enter Tryd.func27, Tryd.ntmps27
  go_wp2_with fail
  refine (count_any 40 t _ a c 40 HR.out (by omega) rfl).mono ?_
  rintro e w1 ⟨rfl, hB1⟩
  have hB2 := hB0.trans (hB1.mono (by simp))
  clear hB1
  go_wp2_with fail
  go_ret
  exact ⟨rfl, hB2⟩
theorem big_no (t : Tree) (w : World) (a : Option Addr) (c : Nat) (hr : Rep w t a) (h : ¬ t.big) :
    Calls Tryd.prog 27 #[t.val a c] w fun e w' => e = .returned (.int .i64 0) ∧ Below w.heap.size w w' := by
  unfold Tree.big at h
  have hB0 : Below w.heap.size w (w.alloc (.cells #[.int .u8 t.kind, .int .i64 t.num, .string t.name, .slice a t.len c] 50)) := (Below.refl _ _).alloc (Nat.le_refl _) _
  have HR := Lib.hid (hr.below hB0)
  clear hr
  go_enter Tryd.func27, Tryd.ntmps27
  go_wp2_with fail
  refine (count_any 40 t _ a c 40 HR.out (by omega) rfl).mono ?_
  rintro e w1 ⟨rfl, hB1⟩
  have hB2 := hB0.trans (hB1.mono (by simp))
  clear hB1
  go_wp2_with fail
  go_ret
  exact ⟨rfl, hB2⟩
end Go.Proofs.YtgochgcchkdlmaaDoor

/-
  Contracts: when trees are equal (packages ast and ontimeref12).
-/
namespace Go.Proofs.YtgochgcchkdlmaaDoor
set_option linter.unusedVariables false
set_option linter.unusedSimpArgs false
open Go.RowKit
set_option maxRecDepth 100000

end Go.Proofs.YtgochgcchkdlmaaDoor

/-
  Contract: when trees are equal (package ontimeref12).
-/
namespace Go.Proofs.YtgochgcchkdlmaaDoor
set_option linter.unusedVariables false
set_option linter.unusedSimpArgs false
open Go.RowKit
set_option maxRecDepth 100000

end Go.Proofs.YtgochgcchkdlmaaDoor
