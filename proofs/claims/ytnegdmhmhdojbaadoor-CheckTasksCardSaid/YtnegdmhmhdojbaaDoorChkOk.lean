/-
  Contracts: OK (package check), small and clean (package ontimelaw15).
-/
import Derived.Test.YtnegdmhmhdojbaaDoorChkCheck
import Derived.Test.YtnegdmhmhdojbaaDoorAstSize
namespace Go.Proofs.YtnegdmhmhdojbaaDoor
set_option linter.unusedVariables false
set_option linter.unusedSimpArgs false
open Go.RowKit
set_option maxRecDepth 100000
set_option maxHeartbeats 4000000

/-- a program without faults -/
def okP (p : Prg) : Bool := prgOk p && (checkE p).isEmpty
theorem ok15_any (p : Prg) (w : World) (sa ta : Option Addr) (sc tc : Nat) (hp : PrgAt w p sa ta) (hg : SignsIn w) :
    Calls Tryd.prog 16 #[p.val sa sc ta tc] w fun e w' => e = .returned (.bool (okP p)) ∧ Below w.heap.size w w' := by
  obtain ⟨W, hW⟩ : ∃ W : World, w.alloc (prgObj p sa sc ta tc) = W := ⟨_, rfl⟩
  have HBW : Hid (Below w.heap.size w W) := by show Below _ _ _; rw [← hW]; exact mem_alloc _ _
  have HBX : Hid (W.heap[w.heap.size]? = some (prgObj p sa sc ta tc)) := by show _ = _; rw [← hW]; exact mem_new _ _
  have y0 : W.cell? ⟨w.heap.size, 0, none⟩ = some (.slice sa p.shared.length sc) := mem_cell HBX.out 0
  have y1 : W.cell? ⟨w.heap.size, 1, none⟩ = some (.slice ta p.tasks.length tc) := mem_cell HBX.out 1
  have HP := Lib.hid (hp.below HBW.out)
  have HG := Lib.hid (hg.below HBW.out)
  clear hp hg
  go_enter Tryd.func16, Tryd.ntmps16
  go_wp2_with fail
  clear hW y0 y1
  refine (valid_any p W sa ta sc tc HP.out HG.out).mono ?_
  rintro e w1 ⟨rfl, hB1⟩
  have HBX1 : Hid (w1.heap[w.heap.size]? = some (prgObj p sa sc ta tc)) := mem_keep HBX.out hB1
  have HP1 := Lib.hid (HP.out.below hB1)
  have HG1 := Lib.hid (HG.out.below hB1)
  have HB1 : Hid (Below w.heap.size w w1) := HBW.out.trans (hB1.mono HBW.out.size)
  clear hB1 HP HG HBW HBX
  cases hv : prgOk p with
  | false =>
    have HE : Hid (okP p = false) := by show _ = _; unfold okP; rw [hv]; rfl
    clear hv
    go_wp2_with fail
    go_ret
    exact ⟨by rw [HE.out]; rfl, HB1.out⟩
  | true =>
    have HV := Lib.hid hv
    clear hv
    have y0 : w1.cell? ⟨w.heap.size, 0, none⟩ = some (.slice sa p.shared.length sc) := mem_cell HBX1.out 0
    have y1 : w1.cell? ⟨w.heap.size, 1, none⟩ = some (.slice ta p.tasks.length tc) := mem_cell HBX1.out 1
    go_wp2_with fail
    clear y0 y1
    refine (check_any p w1 sa ta sc tc HP1.out HG1.out).mono ?_
    rintro e w2 ⟨v, L, rfl, hL, hF, hlen, hB2⟩
    obtain ⟨va, vc, rfl⟩ := own_val hL.ro
    have HB2 : Hid (Below w.heap.size w w2) := HB1.out.trans (hB2.mono HB1.out.size)
    have HF := Lib.hid hF
    clear hL hF hB2
    cases L with
    | nil =>
      have HE : Hid (okP p = true) := by show _ = _; unfold okP; rw [HV.out, ← HF.out]; rfl
      go_wp2_with fail
      go_ret
      exact ⟨by rw [HE.out]; rfl, HB2.out⟩
    | cons f L =>
      have HE : Hid (okP p = false) := by show _ = _; unfold okP; rw [HV.out, ← HF.out]; rfl
      have hz : (((L.length + 1 : Nat) : Int) == 0) = false := by simp; omega
      rw [List.length_cons]
      go_wp2_with fail
      go_ret
      exact ⟨by rw [HE.out]; rfl, HB2.out⟩
end Go.Proofs.YtnegdmhmhdojbaaDoor
