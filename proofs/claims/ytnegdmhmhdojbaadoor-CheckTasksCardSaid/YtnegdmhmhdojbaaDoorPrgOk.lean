/-
  Contract: valid programs (package ast).
-/
import Derived.Test.YtnegdmhmhdojbaaDoorIsTask
namespace Go.Proofs.YtnegdmhmhdojbaaDoor
set_option linter.unusedVariables false
set_option linter.unusedSimpArgs false
open Go.RowKit
set_option maxRecDepth 100000

/-- a valid program -/
def prgOk (p : Prg) : Bool := decide (p.shared.length ≤ 4) && (decide (p.tasks.length ≤ 8) && (p.shared.all arrOk && p.tasks.all tskOk))
/-- the box of a program -/
abbrev prgObj (p : Prg) (sa : Option Addr) (sc : Nat) (ta : Option Addr) (tc : Nat) : Obj := .cells #[.slice sa p.shared.length sc, .slice ta p.tasks.length tc] 25
/-- a task's cells in a later world -/
theorem tsk_cells {w wr : World} {b o : Nat} {t : Tsk} {p : TskPlace} (hB : Below w.heap.size w wr) (h : ∀ i, i < 8 → w.cell? ⟨b, o + i, none⟩ = (t.cells p)[i]?) :
    (wr.cell? ⟨b, o, none⟩ = some (.string t.name) ∧ wr.cell? ⟨b, o + 1, none⟩ = some (.int .i64 t.period) ∧ wr.cell? ⟨b, o + 2, none⟩ = some (.slice p.va t.vars.length p.vc) ∧ wr.cell? ⟨b, o + 3, none⟩ = some (.slice p.aa t.arrays.length p.ac) ∧
    wr.cell? ⟨b, o + 4, none⟩ = some (.int .u8 t.body.kind) ∧ wr.cell? ⟨b, o + 5, none⟩ = some (.int .i64 t.body.num) ∧ wr.cell? ⟨b, o + 6, none⟩ = some (.string t.body.name) ∧ wr.cell? ⟨b, o + 7, none⟩ = some (.slice p.ka t.body.len p.kc)) ∧ b < wr.heap.size := by
  have c0 : wr.cell? ⟨b, o, none⟩ = some (.string t.name) := cell_below hB (h 0 (by omega))
  exact ⟨⟨c0, cell_below hB (h 1 (by omega)), cell_below hB (h 2 (by omega)), cell_below hB (h 3 (by omega)), cell_below hB (h 4 (by omega)), cell_below hB (h 5 (by omega)), cell_below hB (h 6 (by omega)), cell_below hB (h 7 (by omega))⟩, World.block_lt_of_cell? wr _ c0⟩

set_option maxHeartbeats 2000000 in
theorem valid_any (p : Prg) (w : World) (sa ta : Option Addr) (sc tc : Nat) (hp : PrgAt w p sa ta) (hg : SignsIn w) :
    Calls Tryd.prog 15 #[p.val sa sc ta tc] w fun e w' => e = .returned (.bool (prgOk p)) ∧ Below w.heap.size w w' := by
  have HP := Lib.hid hp
  have HG := Lib.hid hg
  have HB0 : Hid (Below (w.heap.size + 1) (w.alloc (prgObj p sa sc ta tc)) (w.alloc (prgObj p sa sc ta tc))) := Below.refl _ _
  have hsl := hp.1.1
  have htl := hp.2.1
  clear hp hg
  by_cases h1 : 4 < p.shared.length
  · have h1d : decide (4 < p.shared.length) = true := by simpa using h1
    have h1di : decide ((4 : Int) < (p.shared.length : Int)) = true := by simp; omega
    have HE : Hid (prgOk p = false) := by show _ = _; simp [prgOk, show ¬ p.shared.length ≤ 4 by omega]
    go_enter Tryd.func15, Tryd.ntmps15
    go_wp2_with fail
    go_ret
    exact ⟨by rw [HE.out]; rfl, ofBox HB0.out⟩
  have h1' : p.shared.length ≤ 4 := by omega
  have h1d : decide (4 < p.shared.length) = false := by simpa using h1'
  have h1di : decide ((4 : Int) < (p.shared.length : Int)) = false := by simp; omega
  clear h1
  by_cases h2 : 8 < p.tasks.length
  · have h2d : decide (8 < p.tasks.length) = true := by simpa using h2
    have h2di : decide ((8 : Int) < (p.tasks.length : Int)) = true := by simp; omega
    have HE : Hid (prgOk p = false) := by show _ = _; simp [prgOk, show ¬ p.tasks.length ≤ 8 by omega]
    go_enter Tryd.func15, Tryd.ntmps15
    go_wp2_with fail
    go_ret
    exact ⟨by rw [HE.out]; rfl, ofBox HB0.out⟩
  have h2' : p.tasks.length ≤ 8 := by omega
  have h2d : decide (8 < p.tasks.length) = false := by simpa using h2'
  have h2di : decide ((8 : Int) < (p.tasks.length : Int)) = false := by simp; omega
  clear h2
  go_enter Tryd.func15, Tryd.ntmps15
  go_wp2_with fail
  refine (areArrays_any p.shared _ sa sc (HP.out.1.below (ofBox HB0.out)) (HG.out.below (ofBox HB0.out))).mono ?_
  rintro e w1 ⟨rfl, hB1⟩
  have HB1 := Lib.hid (HB0.out.trans (hB1.mono (box_size HB0.out)))
  have x1 : w1.cell? ⟨w.heap.size, 1, none⟩ = some (.slice ta p.tasks.length tc) := box_cell HB1.out 1
  clear hB1
  cases ha : p.shared.all arrOk with
  | false =>
    have HE : Hid (prgOk p = false) := by show _ = _; simp only [prgOk, ha]; simp
    clear ha
    go_wp2_with fail
    go_ret
    exact ⟨by rw [HE.out]; rfl, ofBox HB1.out⟩
  | true =>
  have HAA := Lib.hid ha
  clear ha
  go_wp2_with fail
  go_loopw [24] (fun i wr => ∃ j : Nat, j ≤ p.tasks.length ∧ i = .int .i64 j ∧ (p.tasks.take j).all tskOk = true ∧ Below (w.heap.size + 1) (w.alloc (prgObj p sa sc ta tc)) wr) (fun i _ => p.tasks.length - (intOf i).toNat)
  case atStart => exact ⟨0, Nat.zero_le _, rfl, rfl, HB1.out⟩
  case round =>
    obtain ⟨j, hj, rfl, hall, hBx⟩ := hrel
    have HA := Lib.hid hall
    have HBX := Lib.hid hBx
    have hB := ofBox hBx
    have hsz := box_size hBx
    clear hall hBx x1
    by_cases hlt : j < p.tasks.length
    · obtain ⟨b, off, q, rfl, hc, hin⟩ := HP.out.2.2 j hlt
      obtain ⟨t, ht⟩ : ∃ t, p.tasks.getD j Tsk.none = t := ⟨_, rfl⟩
      rw [ht] at hc hin
      obtain ⟨⟨g0, g1, g2, g3, g4, g5, g6, g7⟩, hbl⟩ := tsk_cells hB hc
      have HX := Lib.hid ht
      have HIN := Lib.hid hin
      clear hc hin ht
      go_wp2_with fail
      have HBL : Hid (Below wr.heap.size wr (wr.alloc (tskObj t q))) := (Below.refl _ _).alloc (Nat.le_refl _) _
      refine (isTask_any t q _ ((HIN.out.below hB).below HBL.out) ((HG.out.below hB).below HBL.out)).mono ?_
      rintro e w2 ⟨rfl, hB2⟩
      have HB2 := Lib.hid ((HBX.out.trans (HBL.out.mono hsz)).trans (hB2.mono (Nat.le_trans hsz HBL.out.size)))
      clear hB2 g0 g1 g2 g3 g4 g5 g6 g7
      cases hv : tskOk t with
      | true =>
        have HN : Hid ((p.tasks.take (j + 1)).all tskOk = true) := by show _ = _; rw [all_next tskOk p.tasks Tsk.none j hlt, HA.out, HX.out, hv]; rfl
        clear hv
        go_wp2_with fail
        go_roundw
        case rel => exact ⟨j + 1, by omega, by go_num, HN.out, HB2.out⟩
        case measure => simp [intOf]; omega
      | false =>
        have HE : Hid (prgOk p = false) := by show _ = _; simp only [prgOk, all_stop tskOk p.tasks Tsk.none j hlt (by rw [HX.out, hv])]; simp
        clear hv
        go_wp2_with fail
        go_ret
        exact ⟨by rw [HE.out]; rfl, ofBox HB2.out⟩
    · obtain rfl : j = p.tasks.length := by omega
      have HE : Hid (prgOk p = true) := by
        have := HA.out; rw [List.take_length] at this
        show _ = _; simp only [prgOk, this, HAA.out, h1', h2']; simp
      go_wp2_with fail
      go_ret
      exact ⟨by rw [HE.out]; rfl, hB⟩

end Go.Proofs.YtnegdmhmhdojbaaDoor
