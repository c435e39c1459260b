/-
  The statement AstValid, walked (package ontimelaw12), over the contract of awake.
-/
import Derived.Test.YtfkegjdgbnkicaaDoorLawKinds
import Derived.Test.YtfkegjdgbnkicaaDoorRefValid
import Derived.Test.YtfkegjdgbnkicaaDoorRefSame
namespace Go.Proofs.YtfkegjdgbnkicaaDoor
open Go.RowKit
set_option maxRecDepth 100000

theorem pp_trans {w W W' : World} {o o' : Obj} (h : Below (w.heap.size + 1 + 1) ((w.alloc o).alloc o') W) (h1 : Below W.heap.size W W') : Below (w.heap.size + 1 + 1) ((w.alloc o).alloc o') W' := h.trans (h1.mono (bb_size h))
theorem pp_cells {w W : World} {x0 x1 y0 y1 : Value} {T : TypeId} (h : Below (w.heap.size + 1 + 1) ((w.alloc (.cells #[x0, x1] T)).alloc (.cells #[y0, y1] T)) W) :
    W.cell? ⟨w.heap.size, 0, none⟩ = some x0 ∧ W.cell? ⟨w.heap.size, 1, none⟩ = some x1 ∧ W.cell? ⟨w.heap.size + 1, 0, none⟩ = some y0 ∧ W.cell? ⟨w.heap.size + 1, 1, none⟩ = some y1 ∧
    Below (w.heap.size + 1 + 1) ((w.alloc (.cells #[x0, x1] T)).alloc (.cells #[y0, y1] T)) W :=
  ⟨bb_cell h 0, bb_cell h 1, bb_cell' h 0, bb_cell' h 1, h⟩
theorem pp_drew {w W : World} {o o' : Obj} (h : Below (w.heap.size + 1 + 1) ((w.alloc o).alloc o') W) : Below (w.heap.size + 1 + 1) ((w.alloc o).alloc o') W.drew := h.drew

theorem small_of {p : Prg} (h : prgGreat p = false) : ∀ i, i < p.tasks.length → ¬ (p.tasks.getD i Tsk.none).body.big := by
  intro i hi hb
  have : p.tasks.any tskGreat = true := any_hit tskGreat p.tasks Tsk.none i hi (by
    have : @decide (p.tasks.getD i Tsk.none).body.big (Classical.propDecidable _) = true := @decide_eq_true _ (Classical.propDecidable _) hb
    unfold tskGreat; rw [this]; simp)
  unfold prgGreat at h
  rw [this] at h
  simp at h
theorem greatN_yes {p : Prg} (h : prgGreat p = true) : greatN p = 1 := by unfold greatN; rw [h]; rfl
theorem greatN_no {p : Prg} (h : prgGreat p = false) : greatN p = 0 := by unfold greatN; rw [h]; rfl

set_option maxHeartbeats 4000000 in
theorem astValid_of (HW : AwakeAt) (p q : Prg) (w : World) (sa ta sa' ta' : Option Addr) (sc tc sc' tc' : Nat) (hp : PrgAt w p sa ta) (hq : PrgAt w q sa' ta') (hg : SignsIn w) :
    Calls Tryd.prog 11 #[p.val sa sc ta tc, q.val sa' sc' ta' tc'] w fun e w' => e = .returned (.bool true) ∧ Below w.heap.size w w' := by
  have HP := Lib.hid hp
  have HQ := Lib.hid hq
  have HG := Lib.hid hg
  clear hp hq hg
  have HB0 : Hid (Below (w.heap.size + 1 + 1) (wPP w p q sa ta sa' ta' sc tc sc' tc') (wPP w p q sa ta sa' ta' sc tc sc' tc')) := Below.refl _ _
  go_enter Tryd.func11, Tryd.ntmps11
  go_wp2_with fail
  refine (HW _ (HG.out.below two_alloc)).mono ?_
  rintro e w1 ⟨rfl, hB1⟩
  have HB1 := Lib.hid (pp_trans HB0.out hB1)
  obtain ⟨x0, x1, y0, y1, _⟩ := pp_cells HB1.out
  clear hB1
  go_wp2_with fail
  refine (great_any p _ sa ta sc tc (HP.out.below (ofBB HB1.out))).mono ?_
  rintro e w2 ⟨he, hB2⟩
  have HB2 := Lib.hid (pp_trans HB1.out hB2)
  clear hB2 x0 x1 y0 y1
  obtain ⟨x0, x1, y0, y1, _⟩ := pp_cells HB2.out
  cases hp1 : prgGreat p with
  | true =>
    rw [greatN_yes hp1] at he
    subst he
    clear hp1
    go_wp2_with fail
    go_ret
    exact ⟨rfl, ofBB HB2.out⟩
  | false =>
  rw [greatN_no hp1] at he
  subst he
  have HSM := Lib.hid (small_of hp1)
  clear hp1
  go_wp2_with fail
  refine (great_any q _ sa' ta' sc' tc' (HQ.out.below (ofBB HB2.out))).mono ?_
  rintro e w3 ⟨he, hB3⟩
  have HB3 := Lib.hid (pp_trans HB2.out hB3)
  clear hB3 x0 x1 y0 y1
  obtain ⟨x0, x1, y0, y1, gB⟩ := pp_cells HB3.out
  cases hp1 : prgGreat q with
  | true =>
    rw [greatN_yes hp1] at he
    subst he
    clear hp1
    go_wp2_with fail
    go_ret
    exact ⟨rfl, ofBB HB3.out⟩
  | false =>
  rw [greatN_no hp1] at he
  subst he
  clear hp1
  have hpp := eqC_self p
  obtain ⟨v, hv⟩ : ∃ v, prgOk p = v := ⟨_, rfl⟩
  obtain ⟨s, hs⟩ : ∃ s, eqC p q = s := ⟨_, rfl⟩
  have hs' : eqC q p = s := (eqC_comm q p).trans hs
  go_wp2_with fail
  go_region_held3 (fun w' => w'.cell? ⟨w.heap.size, 0, none⟩ = some (.slice sa p.shared.length sc) ∧ w'.cell? ⟨w.heap.size, 1, none⟩ = some (.slice ta p.tasks.length tc) ∧ w'.cell? ⟨w.heap.size + 1, 0, none⟩ = some (.slice sa' q.shared.length sc') ∧ w'.cell? ⟨w.heap.size + 1, 1, none⟩ = some (.slice ta' q.tasks.length tc') ∧
      Below (w.heap.size + 1 + 1) (wPP w p q sa ta sa' ta' sc tc sc' tc') w')
    (first | (go_split_ands; exact pp_cells (pp_trans (by assumption) hB9)) | (go_split_ands; exact pp_cells (pp_drew (by assumption))) | (go_split_ands; exact pp_cells (by assumption)))
    (first
      | (go_at_call 37; go_split_ands; refine (valid_any p _ sa ta sc tc (HP.out.below (ofBB (by assumption))) (HG.out.below (ofBB (by assumption)))).mono ?_; rw [hv]; rintro e w9 ⟨rfl, hB9⟩)
      | (go_at_call 38; go_split_ands; refine (refValid_any p _ sa ta sc tc (HP.out.below (ofBB (by assumption))) HSM.out).mono ?_; rw [hv]; rintro e w9 ⟨rfl, hB9⟩)
      | (go_at_call 39; go_split_ands; refine (same_any _ _ _ _ _ _ _ _ _ _ _ (by first | exact HP.out.below (ofBB (by assumption)) | exact HQ.out.below (ofBB (by assumption))) (by first | exact HP.out.below (ofBB (by assumption)) | exact HQ.out.below (ofBB (by assumption)))).mono ?_; (first | rw [hs] | rw [hs'] | rw [hpp]); rintro e w9 ⟨rfl, hB9⟩)
      | (go_at_call 40; go_split_ands; refine (refSame_any p q _ sa ta sa' ta' sc tc sc' tc' (HP.out.below (ofBB (by assumption))) (HQ.out.below (ofBB (by assumption)))).mono ?_; rw [hs]; rintro e w9 ⟨rfl, hB9⟩))
  go_split_ands
  go_wp2_with fail
  go_ret
  exact ⟨rfl, ofBB (by assumption)⟩
end Go.Proofs.YtfkegjdgbnkicaaDoor
