/-
  The statements AstKinds and AstMeasures, walked (package ontimelaw12), over the contract of awake.
-/
import Derived.Test.YtfkegjdgbnkicaaDoorKinds
import Derived.Test.YtfkegjdgbnkicaaDoorKeepBox
import Derived.Test.YtfkegjdgbnkicaaDoorAstSize
import Derived.Deep.RegionHeld3
import Derived.Outline
namespace Go.Proofs.YtfkegjdgbnkicaaDoor
open Go.RowKit
set_option maxRecDepth 100000

/-- what awake does -/
def AwakeAt : Prop := ∀ w : World, SignsIn w → Calls Tryd.prog 12 #[] w fun e w' => e = .returned (.bool true) ∧ Below w.heap.size w w'

set_option maxHeartbeats 2000000 in
theorem astKinds_of (HW : AwakeAt) (t : Tree) (w : World) (a : Option Addr) (c : Nat) (hr : Rep w t a) (hg : SignsIn w) :
    Calls Tryd.prog 3 #[t.val a c] w fun e w' => e = .returned (.bool true) ∧ Below w.heap.size w w' := by
  have HR := Lib.hid hr
  have HG := Lib.hid hg
  have HB0 : Hid (Below (w.heap.size + 1) (w.alloc (.cells #[.int .u8 t.kind, .int .i64 t.num, .string t.name, .slice a t.len c] 24)) (w.alloc (.cells #[.int .u8 t.kind, .int .i64 t.num, .string t.name, .slice a t.len c] 24))) := Below.refl _ _
  clear hr hg
  go_enter Tryd.func3, Tryd.ntmps3
  go_wp2_with fail
  refine (HW _ (HG.out.below (ofBox HB0.out))).mono ?_
  rintro e w1 ⟨rfl, hB1⟩
  have HB1 := Lib.hid (HB0.out.trans (hB1.mono (by simp)))
  obtain ⟨f0, f1, f2, f3, _⟩ := keep_box hB1 HB0.out
  clear hB1
  go_wp2_with fail
  by_cases hbig : t.big
  · refine (big_yes t _ a c (HR.out.below (ofBox HB1.out)) hbig).mono ?_
    rintro e w2 ⟨rfl, hB2⟩
    have HB2 := Lib.hid (HB1.out.trans (hB2.mono (box_size HB1.out)))
    clear hB2
    go_wp2_with fail
    go_ret
    exact ⟨rfl, ofBox HB2.out⟩
  · refine (big_no t _ a c (HR.out.below (ofBox HB1.out)) hbig).mono ?_
    rintro e w2 ⟨rfl, hB2⟩
    have HB2 := Lib.hid (HB1.out.trans (hB2.mono (box_size HB1.out)))
    obtain ⟨g0, g1, g2, g3, gB⟩ := keep_box hB2 HB1.out
    clear hB2 f0 f1 f2 f3
    go_wp2_with fail
    go_region_held3 (fun w' => w'.cell? ⟨w.heap.size, 0, none⟩ = some (.int .u8 t.kind) ∧ w'.cell? ⟨w.heap.size, 1, none⟩ = some (.int .i64 t.num) ∧ w'.cell? ⟨w.heap.size, 2, none⟩ = some (.string t.name) ∧ w'.cell? ⟨w.heap.size, 3, none⟩ = some (.slice a t.len c) ∧
        Below (w.heap.size + 1) (w.alloc (.cells #[.int .u8 t.kind, .int .i64 t.num, .string t.name, .slice a t.len c] 24)) w')
      (first | (go_split_ands; exact keep_box (by assumption) (by assumption)) | (go_split_ands; exact keep_box_drew (by assumption)) | (go_split_ands; exact ⟨by assumption, by assumption, by assumption, by assumption, by assumption⟩))
      (first
        | (go_at_call 14; go_split_ands; refine (isExpr_any t _ a c (HR.out.below (ofBox (by assumption))) (HG.out.below (ofBox (by assumption)))).mono ?_; rintro e w3 ⟨rfl, hB3⟩)
        | (go_at_call 16; go_split_ands; refine (isStmt_any t _ a c (HR.out.below (ofBox (by assumption))) (HG.out.below (ofBox (by assumption)))).mono ?_; rintro e w3 ⟨rfl, hB3⟩)
        | (go_at_call 18; go_split_ands; refine (isBlock_any t _ a c (HR.out.below (ofBox (by assumption))) (HG.out.below (ofBox (by assumption)))).mono ?_; rintro e w3 ⟨rfl, hB3⟩)
        | (go_at_call 15; go_split_ands; refine (refExpr_any t _ a c (HR.out.below (ofBox (by assumption)))).mono ?_; rintro e w3 ⟨rfl, hB3⟩)
        | (go_at_call 17; go_split_ands; refine (refStmt_any t _ a c (HR.out.below (ofBox (by assumption)))).mono ?_; rintro e w3 ⟨rfl, hB3⟩)
        | (go_at_call 19; go_split_ands; refine (refBlock_any t _ a c (HR.out.below (ofBox (by assumption)))).mono ?_; rintro e w3 ⟨rfl, hB3⟩))
    go_split_ands
    go_wp2_with fail
    go_ret
    exact ⟨rfl, ofBox (by assumption)⟩
set_option maxHeartbeats 2000000 in
theorem astMeasures_of (HW : AwakeAt) (t : Tree) (w : World) (a : Option Addr) (c : Nat) (hr : Rep w t a) (hg : SignsIn w) :
    Calls Tryd.prog 4 #[t.val a c] w fun e w' => e = .returned (.bool true) ∧ Below w.heap.size w w' := by
  have HR := Lib.hid hr
  have HG := Lib.hid hg
  have HB0 : Hid (Below (w.heap.size + 1) (w.alloc (.cells #[.int .u8 t.kind, .int .i64 t.num, .string t.name, .slice a t.len c] 24)) (w.alloc (.cells #[.int .u8 t.kind, .int .i64 t.num, .string t.name, .slice a t.len c] 24))) := Below.refl _ _
  clear hr hg
  go_enter Tryd.func4, Tryd.ntmps4
  go_wp2_with fail
  refine (HW _ (HG.out.below (ofBox HB0.out))).mono ?_
  rintro e w1 ⟨rfl, hB1⟩
  have HB1 := Lib.hid (HB0.out.trans (hB1.mono (by simp)))
  obtain ⟨f0, f1, f2, f3, _⟩ := keep_box hB1 HB0.out
  clear hB1
  go_wp2_with fail
  by_cases hbig : t.big
  · refine (big_yes t _ a c (HR.out.below (ofBox HB1.out)) hbig).mono ?_
    rintro e w2 ⟨rfl, hB2⟩
    have HB2 := Lib.hid (HB1.out.trans (hB2.mono (box_size HB1.out)))
    clear hB2
    go_wp2_with fail
    go_ret
    exact ⟨rfl, ofBox HB2.out⟩
  · refine (big_no t _ a c (HR.out.below (ofBox HB1.out)) hbig).mono ?_
    rintro e w2 ⟨rfl, hB2⟩
    have HB2 := Lib.hid (HB1.out.trans (hB2.mono (box_size HB1.out)))
    obtain ⟨g0, g1, g2, g3, gB⟩ := keep_box hB2 HB1.out
    clear hB2 f0 f1 f2 f3
    have HM : Hid (t.size ≤ 1000000 ∧ t.depth ≤ 1000000 ∧ t.nest ≤ 1000000) := by
      have := Tree.small hbig; have := Tree.nest_le_depth t
      exact ⟨by omega, by omega, by omega⟩
    go_wp2_with fail
    go_region_held3 (fun w' => w'.cell? ⟨w.heap.size, 0, none⟩ = some (.int .u8 t.kind) ∧ w'.cell? ⟨w.heap.size, 1, none⟩ = some (.int .i64 t.num) ∧ w'.cell? ⟨w.heap.size, 2, none⟩ = some (.string t.name) ∧ w'.cell? ⟨w.heap.size, 3, none⟩ = some (.slice a t.len c) ∧
        Below (w.heap.size + 1) (w.alloc (.cells #[.int .u8 t.kind, .int .i64 t.num, .string t.name, .slice a t.len c] 24)) w')
      (first | (go_split_ands; exact keep_box (by assumption) (by assumption)) | (go_split_ands; exact keep_box_drew (by assumption)) | (go_split_ands; exact ⟨by assumption, by assumption, by assumption, by assumption, by assumption⟩))
      (first
        | (go_at_call 20; go_split_ands; refine (size_any t _ a c (HR.out.below (ofBox (by assumption))) HM.out.1).mono ?_; rintro e w3 ⟨rfl, hB3⟩)
        | (go_at_call 21; go_split_ands; refine (refSize_any t _ a c (HR.out.below (ofBox (by assumption))) HM.out.1).mono ?_; rintro e w3 ⟨rfl, hB3⟩)
        | (go_at_call 22; go_split_ands; refine (depth_any t _ a c (HR.out.below (ofBox (by assumption))) HM.out.2.1).mono ?_; rintro e w3 ⟨rfl, hB3⟩)
        | (go_at_call 23; go_split_ands; refine (refDepth_any t _ a c (HR.out.below (ofBox (by assumption))) HM.out.2.1).mono ?_; rintro e w3 ⟨rfl, hB3⟩)
        | (go_at_call 24; go_split_ands; refine (nest_any t _ a c (HR.out.below (ofBox (by assumption))) HM.out.2.2).mono ?_; rintro e w3 ⟨rfl, hB3⟩)
        | (go_at_call 25; go_split_ands; refine (refNest_any t _ a c (HR.out.below (ofBox (by assumption))) HM.out.2.2).mono ?_; rintro e w3 ⟨rfl, hB3⟩))
    go_split_ands
    go_wp2_with fail
    go_ret
    exact ⟨rfl, ofBox (by assumption)⟩
end Go.Proofs.YtfkegjdgbnkicaaDoor
