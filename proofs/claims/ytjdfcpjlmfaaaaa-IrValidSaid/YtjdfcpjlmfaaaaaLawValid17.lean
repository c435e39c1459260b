/-
  IrValid (package ontimelaw17): Valid answers as the reference does.
-/
import Derived.Test.YtjdfcpjlmfaaaaaLawFns17
import Derived.Test.YtjdfcpjlmfaaaaaIrAwake
import Derived.Deep.RegionHeld3
namespace Go.Proofs.Ytjdfcpjlmfaaaaa
set_option linter.unusedVariables false
set_option linter.unusedSimpArgs false
open Go.RowKit
set_option maxRecDepth 100000
set_option maxHeartbeats 16000000

theorem irValid_any (f : Fn) (shared : List (ByteArray × Int)) (aa ba sa : Option Addr) (ac bc sc : Nat) (w : World) (hf : FnAt w f aa ba) (hs : ArrsAt w sa shared) :
    Calls Try.prog 3 #[fnVal f.name f.regs aa f.arrays.length ac ba f.blocks.length bc, .slice sa shared.length sc] w fun e w' => e = .returned (.bool true) ∧ Below w.heap.size w w' := by
  have HF := Lib.hid hf
  have HS := Lib.hid hs
  have ls := hs.fits
  clear hf hs
  obtain ⟨W, hW⟩ : ∃ W : World, w.alloc (.cells #[.string f.name, .int .i64 f.regs, .slice aa f.arrays.length ac, .slice ba f.blocks.length bc] 25) = W := ⟨_, rfl⟩
  have hWs : W.heap.size = w.heap.size + 1 := by rw [← hW]; simp
  have HBW : Hid (Below w.heap.size w W) := by show Below _ _ _; rw [← hW]; exact (Below.refl _ _).alloc (Nat.le_refl _) _
  have x0 : W.cell? ⟨w.heap.size, 0, none⟩ = some (.string f.name) := by rw [← hW]; simp
  have x1 : W.cell? ⟨w.heap.size, 1, none⟩ = some (.int .i64 f.regs) := by rw [← hW]; simp
  have x2 : W.cell? ⟨w.heap.size, 2, none⟩ = some (.slice aa f.arrays.length ac) := by rw [← hW]; simp
  have x3 : W.cell? ⟨w.heap.size, 3, none⟩ = some (.slice ba f.blocks.length bc) := by rw [← hW]; simp
  have HX := Lib.hid (And.intro x0 (And.intro x1 (And.intro x2 x3)))
  have HFW := Lib.hid (HF.out.below HBW.out)
  have HSW := Lib.hid (HS.out.below HBW.out)
  clear x0 x1 x2 x3
  go_enter Try.func3, Try.ntmps3
  go_wp2_with fail
  clear hW
  refine (awake_any W).mono ?_
  rintro e w1 ⟨rfl, hB1⟩
  have HB1 := Lib.hid hB1
  clear hB1
  obtain ⟨y0, y1, y2, y3, _⟩ := fb_cells (by omega) HX.out HB1.out
  go_wp2_with fail
  refine (small_any f aa ba ac bc w1 (HFW.out.below HB1.out)).mono ?_
  rintro e w2 ⟨rfl, hB2⟩
  have HB2 := Lib.hid (below_next HB1.out hB2)
  clear hB2 y0 y1 y2 y3
  cases hsm : smallOk f with
  | false =>
    simp only [bit01, cond_false]
    go_wp2_with fail
    go_ret
    exact ⟨rfl, HBW.out.trans (HB2.out.mono (by omega))⟩
  | true =>
  simp only [bit01, cond_true]
  by_cases hl : 12 < shared.length
  · have hl' : (12 : Int) < (shared.length : Int) := by omega
    go_wp2_with fail
    go_ret
    exact ⟨rfl, HBW.out.trans (HB2.out.mono (by omega))⟩
  have hl' : decide ((12 : Int) < (shared.length : Int)) = false := by simp; omega
  have HSM := Lib.hid (small_blocks hsm)
  have hl3 : shared.length ≤ 12 := by omega
  clear hsm hl
  have gB := HB2.out
  obtain ⟨y0, y1, y2, y3, _⟩ := fb_cells (by omega) HX.out HB2.out
  obtain ⟨v, hv⟩ : ∃ v, fnOk f shared = v := ⟨_, rfl⟩
  have HVa : Hid (∀ W', Below W.heap.size W W' → Calls Try.prog 12 #[fnVal f.name f.regs aa f.arrays.length ac ba f.blocks.length bc, .slice sa shared.length sc] W' fun e w' => e = .returned (.bool v) ∧ Below W'.heap.size W' w') := fun W' h => by
    rw [← hv]; exact valid_any f shared aa ba sa ac bc sc W' (HFW.out.below h) (HSW.out.below h) (by omega)
  have HVb : Hid (∀ W' (ba' : Option Addr) (bc' : Nat), FnAt W' f aa ba' → Below W.heap.size W W' → Calls Try.prog 13 #[fnVal f.name f.regs aa f.arrays.length ac ba' f.blocks.length bc', .slice sa shared.length sc] W' fun e w' => e = .returned (.bool v) ∧ Below W'.heap.size W' w') := fun W' ba' bc' hf h => by
    rw [← hv]; exact refValid_is f shared aa ba' sa ac bc' sc W' hf (HSW.out.below h)
  have HVp : Hid (∀ W', Below W.heap.size W W' → Calls Try.prog 14 #[fnVal f.name f.regs aa f.arrays.length ac ba f.blocks.length bc] W' fun e w' => ∃ ba' bc', e = .returned (fnVal f.name f.regs aa f.arrays.length ac ba' f.blocks.length bc') ∧ FnAt w' f aa ba' ∧ Below W'.heap.size W' w') := fun W' h =>
    plain_any f aa ba ac bc W' (HFW.out.below h) (by have := HSM.out.1; omega) (fun b hb => by have := HSM.out.2 b hb; omega)
  clear hv
  go_wp2_with fail
  have hnW : w.heap.size < W.heap.size := by omega
  go_region_held3 (fun w' => w'.cell? ⟨w.heap.size, 0, none⟩ = some (.string f.name) ∧ w'.cell? ⟨w.heap.size, 1, none⟩ = some (.int .i64 f.regs) ∧ w'.cell? ⟨w.heap.size, 2, none⟩ = some (.slice aa f.arrays.length ac) ∧ w'.cell? ⟨w.heap.size, 3, none⟩ = some (.slice ba f.blocks.length bc) ∧ Below W.heap.size W w')
    (first | (go_split_ands; exact fb_cells hnW HX.out (below_next (by assumption) hB9)) | (go_split_ands; exact fb_cells hnW HX.out (below_drawn (by assumption))) | (go_split_ands; exact fb_cells hnW HX.out (by assumption)))
    (first
      | (go_at_call 12; go_split_ands; refine (HVa.out _ (by assumption)).mono ?_; rintro e w9 ⟨rfl, hB9⟩)
      | (go_at_call 14; go_split_ands; refine (HVp.out _ (by assumption)).mono ?_; rintro e w9 ⟨ba9, bc9, rfl, hfn9, hB9⟩)
      | (go_at_call 13; go_split_ands; refine (HVb.out _ ba9 bc9 (by first | exact hfn9 | exact hfn9.below hB9) (by assumption)).mono ?_; rintro e w9 ⟨rfl, hB9⟩))
  all_goals
    go_split_ands
    go_wp2_with fail
    go_ret
    exact ⟨rfl, HBW.out.trans (Below.mono (by assumption) (by omega))⟩
end Go.Proofs.Ytjdfcpjlmfaaaaa
