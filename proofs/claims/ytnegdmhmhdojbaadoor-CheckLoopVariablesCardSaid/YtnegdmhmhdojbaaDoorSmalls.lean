/-
  Smalls: several texts in one (SizeW, ChkSmall).
-/
import Derived.Test.YtnegdmhmhdojbaaDoorAstSize
import Derived.IntWalk
import Derived.Test.YtnegdmhmhdojbaaDoorChkRows
/-
  Contract: Size (package ast), of a tree of any size: the number goes round.
-/
namespace Go.Proofs.YtnegdmhmhdojbaaDoor
set_option linter.unusedVariables false
set_option linter.unusedSimpArgs false
open Go.RowKit
set_option maxRecDepth 100000

theorem wrap64_two (a b : Int) : wrap64 (wrap64 a + wrap64 b) = wrap64 (a + b) := by unfold wrap64; omega
theorem wrap64_of (n : Nat) (h : n ≤ 9223372036854775807) : wrap64 (n : Int) = (n : Int) := IntWalk.wrap64_in _ (by omega)
set_option maxHeartbeats 1000000 in
theorem sizeW_any : ∀ (t : Tree) (w : World) (a : Option Addr) (c : Nat), Rep w t a →
    Calls Tryd.prog 23 #[t.val a c] w fun e w' => e = .returned (.int .i64 (wrap64 (t.size : Nat))) ∧ Below w.heap.size w w' := by
  intro t
  induction t using Tree.ind with
  | h t ih =>
    intro w a c hv
    have IH := Lib.hid ih
    clear ih
    have hl := hv.fits.len
    have HK := Lib.hid hv.kids
    clear hv
    have HV := Lib.hid t.size_eq
    go_enter Tryd.func23, Tryd.ntmps23
    go_wp2_with fail
    go_loopw [3, 9] (fun sz i wr => ∃ j : Nat, j ≤ t.len ∧ i = .int .i64 j ∧ sz = .int .i64 (wrap64 ((1 + Tree.sumTo (fun i => (t.kid i).size) j : Nat) : Int)) ∧ Below (w.heap.size + 1) (w.alloc (.cells #[.int .u8 t.kind, .int .i64 t.num, .string t.name, .slice a t.len c] 43)) wr) (fun _ i _ => t.len - (intOf i).toNat)
    case atStart => exact ⟨0, Nat.zero_le _, rfl, by rw [wrap64_of _ (by simp [Tree.sumTo])]; rfl, Below.refl _ _⟩
    case round =>
      obtain ⟨j, hj, rfl, rfl, hBx⟩ := hrel
      have hB := ofBox hBx
      have hsz := box_size hBx
      have bx0 := box_cell hBx 0
      have bx3 := box_cell hBx 3
      simp only [List.getElem?_toArray, List.getElem?_cons_zero, List.getElem?_cons_succ] at bx0 bx3
      by_cases hlt : j < t.len
      · rcases HK.out with h0 | ⟨b, off, rfl, hc⟩
        · omega
        obtain ⟨ai, ci, hn, hr⟩ := hc j hlt
        obtain ⟨f0, f1, f2, f3⟩ := hn.below hB hn.lt
        have HSS := Lib.hid (Tree.sumTo_succ (fun i => (t.kid i).size) j)
        have HI := Lib.hid (IH.out j hlt)
        clear hc hn
        go_wp2_with fail
        refine (HI.out _ ai ci (hr.below (hB.alloc (by omega) _))).mono ?_
        rintro e w1 ⟨rfl, hB1⟩
        have hB2 : Below (w.heap.size + 1) (w.alloc (.cells #[.int .u8 t.kind, .int .i64 t.num, .string t.name, .slice (some ⟨b, off, none⟩) t.len c] 43)) w1 := (hBx.alloc hsz _).trans (hB1.mono (by simp; omega))
        clear hB1 hr f0 f1 f2 f3
        go_wp2_with fail
        all_goals
          go_roundw
          case rel => exact ⟨j + 1, by omega, by go_num, by rw [wrap64_two, HSS.out]; refine congrArg _ (congrArg _ ?_); omega, hB2⟩
          case measure => simp [intOf]; omega
      · obtain rfl : j = t.len := by omega
        go_wp2_with fail
        go_ret
        exact ⟨ret_int (by rw [HV.out]), hB⟩

end Go.Proofs.YtnegdmhmhdojbaaDoor

/-
  Contracts: small and clean (package ontimelaw15).
-/
namespace Go.Proofs.YtnegdmhmhdojbaaDoor
set_option linter.unusedVariables false
set_option linter.unusedSimpArgs false
open Go.RowKit
set_option maxRecDepth 100000
set_option maxHeartbeats 4000000

/-- a small task -/
def smallT (t : Tsk) : Bool := decide (t.vars.length ≤ 24) && (decide (t.arrays.length ≤ 8) && decide (wrap64 (t.body.size : Nat) ≤ 120))
/-- a small program -/
def smallP (p : Prg) : Bool := decide (p.shared.length ≤ 8) && (decide (p.tasks.length ≤ 16) && p.tasks.all smallT)
def num01 (b : Bool) : Int := if b then 1 else 0
theorem small15_any (p : Prg) (w : World) (sa ta : Option Addr) (sc tc : Nat) (hp : PrgAt w p sa ta) :
    Calls Tryd.prog 13 #[p.val sa sc ta tc] w fun e w' => e = .returned (.int .i64 (num01 (smallP p))) ∧ Below w.heap.size w w' := by
  have hsl := hp.1.1
  have htl := hp.2.1
  have HP := Lib.hid hp
  obtain ⟨W, hW⟩ : ∃ W : World, w.alloc (prgObj p sa sc ta tc) = W := ⟨_, rfl⟩
  have HBW : Hid (Below w.heap.size w W) := by show Below _ _ _; rw [← hW]; exact mem_alloc _ _
  have HBX : Hid (W.heap[w.heap.size]? = some (prgObj p sa sc ta tc)) := by show _ = _; rw [← hW]; exact mem_new _ _
  have y0 : W.cell? ⟨w.heap.size, 0, none⟩ = some (.slice sa p.shared.length sc) := mem_cell HBX.out 0
  have y1 : W.cell? ⟨w.heap.size, 1, none⟩ = some (.slice ta p.tasks.length tc) := mem_cell HBX.out 1
  clear hp
  by_cases h1 : 8 < p.shared.length
  · have h1d : decide ((8 : Int) < (p.shared.length : Int)) = true := by simp; omega
    have HE : Hid (smallP p = false) := by show _ = _; simp [smallP, show ¬ p.shared.length ≤ 8 by omega]
    clear h1
    go_enter Tryd.func13, Tryd.ntmps13
    go_wp2_with fail
    go_ret
    exact ⟨by rw [HE.out]; rfl, HBW.out⟩
  have h1d : decide ((8 : Int) < (p.shared.length : Int)) = false := by simp; omega
  by_cases h2 : 16 < p.tasks.length
  · have h2d : decide ((16 : Int) < (p.tasks.length : Int)) = true := by simp; omega
    have HE : Hid (smallP p = false) := by show _ = _; simp [smallP, show ¬ p.tasks.length ≤ 16 by omega]
    clear h1 h2
    go_enter Tryd.func13, Tryd.ntmps13
    go_wp2_with fail
    go_ret
    exact ⟨by rw [HE.out]; rfl, HBW.out⟩
  have h2d : decide ((16 : Int) < (p.tasks.length : Int)) = false := by simp; omega
  have HH1 : Hid (decide (p.shared.length ≤ 8) = true) := by show _ = _; simp; omega
  have HH2 : Hid (decide (p.tasks.length ≤ 16) = true) := by show _ = _; simp; omega
  clear h1 h2
  go_enter Tryd.func13, Tryd.ntmps13
  go_wp2_with fail
  clear hW y0 y1 h1d h2d
  go_loopw [18] (fun iv wr => ∃ j : Nat, j ≤ p.tasks.length ∧ iv = .int .i64 (j : Int) ∧ (p.tasks.take j).all smallT = true ∧ Below w.heap.size w wr) (fun iv _ => p.tasks.length - (intOf iv).toNat)
  case atStart => exact ⟨0, Nat.zero_le _, rfl, rfl, HBW.out⟩
  case round =>
    obtain ⟨j, hj, rfl, hall, hB⟩ := hrel
    have HALL := Lib.hid hall
    have HB := Lib.hid hB
    have hj0 : (0 : Int) ≤ (j : Int) := by omega
    clear hall hB
    by_cases hlt : j < p.tasks.length
    · have hlt2 : (j : Int) < (p.tasks.length : Int) := by omega
      obtain ⟨bb, off, q, hta, hc, hin⟩ := HP.out.2.2 j hlt
      obtain ⟨t, ht⟩ : ∃ t, p.tasks.getD j Tsk.none = t := ⟨_, rfl⟩
      have HT : Hid (smallT t = false → smallP p = false) := fun h => by unfold smallP; rw [all_stop smallT p.tasks Tsk.none j hlt (by rw [ht]; exact h)]; simp
      have HN : Hid (smallT t = true → (p.tasks.take (j + 1)).all smallT = true) := fun h => by rw [all_next smallT p.tasks Tsk.none j hlt, HALL.out, ht, h]; rfl
      rw [ht] at hc hin
      obtain ⟨⟨g0, g1, g2, g3, g4, g5, g6, g7⟩, hbl⟩ := tsk_cells HB.out hc
      have hvl := hin.vars.1
      have hal := hin.arrays.1
      obtain ⟨D, hD⟩ : ∃ D : World, wr.alloc (tskObj t q) = D := ⟨_, rfl⟩
      have hBD : Below wr.heap.size wr D := by rw [← hD]; exact mem_alloc _ _
      have hX : D.heap[wr.heap.size]? = some (tskObj t q) := by rw [← hD]; exact mem_new _ _
      have HBD : Hid (Below w.heap.size w D) := HB.out.trans (hBD.mono HB.out.size)
      have HBODY : Hid (Rep D t.body q.ka) := hin.body.below HBD.out
      have x2 := mem_cell hX 2
      have x3 := mem_cell hX 3
      have x4 := mem_cell hX 4
      have x5 := mem_cell hX 5
      have x6 := mem_cell hX 6
      have x7 := mem_cell hX 7
      simp only [List.getElem?_toArray, List.getElem?_cons_zero, List.getElem?_cons_succ] at x2 x3 x4 x5 x6 x7
      rw [hta]
      clear hc hin ht hBD hX hbl
      by_cases k1 : 24 < t.vars.length
      · have k1d : decide ((24 : Int) < (t.vars.length : Int)) = true := by simp; omega
        have HE := Lib.hid (HT.out (by simp [smallT, show ¬ t.vars.length ≤ 24 by omega]))
        clear k1
        go_wp2_with fail
        go_ret
        exact ⟨by rw [HE.out]; rfl, HBD.out⟩
      have k1d : decide ((24 : Int) < (t.vars.length : Int)) = false := by simp; omega
      by_cases k2 : 8 < t.arrays.length
      · have k2d : decide ((8 : Int) < (t.arrays.length : Int)) = true := by simp; omega
        have HE := Lib.hid (HT.out (by simp [smallT, show ¬ t.arrays.length ≤ 8 by omega]))
        clear k1 k2
        go_wp2_with fail
        go_ret
        exact ⟨by rw [HE.out]; rfl, HBD.out⟩
      have k2d : decide ((8 : Int) < (t.arrays.length : Int)) = false := by simp; omega
      have HK1 : Hid (decide (t.vars.length ≤ 24) = true) := by show _ = _; simp; omega
      have HK2 : Hid (decide (t.arrays.length ≤ 8) = true) := by show _ = _; simp; omega
      clear k1 k2
      go_wp2_with fail
      clear g0 g1 g2 g3 g4 g5 g6 g7 hD x2 x3 x4 x5 x6 x7
      refine (sizeW_any t.body D q.ka q.kc HBODY.out).mono ?_
      rintro e w2 ⟨rfl, hB2⟩
      have HB2 : Hid (Below w.heap.size w w2) := HBD.out.trans (hB2.mono HBD.out.size)
      obtain ⟨z, hz⟩ : ∃ z, wrap64 (t.body.size : Nat) = z := ⟨_, rfl⟩
      have HZ := Lib.hid hz
      rw [hz]
      clear hB2 hz
      by_cases k3 : 120 < z
      · have k3d : decide ((120 : Int) < z) = true := by simpa using k3
        have HE := Lib.hid (HT.out (by simp only [smallT, HZ.out, decide_eq_false (show ¬ z ≤ 120 by omega), Bool.and_false]))
        clear k3
        go_wp2_with fail
        go_ret
        exact ⟨by rw [HE.out]; rfl, HB2.out⟩
      · have k3d : decide ((120 : Int) < z) = false := by simpa using k3
        have HE := Lib.hid (HN.out (by simp only [smallT, HZ.out, decide_eq_true (show z ≤ 120 by omega), HK1.out, HK2.out]; rfl))
        clear k3
        go_wp2_with fail
        go_roundw
        case rel => exact ⟨j + 1, by omega, by go_num, HE.out, HB2.out⟩
        case measure => simp [intOf]; omega
    · obtain rfl : j = p.tasks.length := by omega
      have HE : Hid (smallP p = true) := by
        have h := HALL.out
        rw [List.take_length] at h
        show _ = _
        simp only [smallP, h, HH1.out, HH2.out]
        rfl
      go_wp2_with fail
      go_ret
      exact ⟨by rw [HE.out]; rfl, HB.out⟩
/-- a small program without faults -/
def cleanP (p : Prg) : Bool := smallP p && okP p
theorem clean_any (p : Prg) (w : World) (sa ta : Option Addr) (sc tc : Nat) (hp : PrgAt w p sa ta) (hg : SignsIn w) :
    Calls Tryd.prog 20 #[p.val sa sc ta tc] w fun e w' => e = .returned (.bool (cleanP p)) ∧ Below w.heap.size w w' := by
  obtain ⟨W, hW⟩ : ∃ W : World, w.alloc (prgObj p sa sc ta tc) = W := ⟨_, rfl⟩
  have HBW : Hid (Below w.heap.size w W) := by show Below _ _ _; rw [← hW]; exact mem_alloc _ _
  have HBX : Hid (W.heap[w.heap.size]? = some (prgObj p sa sc ta tc)) := by show _ = _; rw [← hW]; exact mem_new _ _
  have y0 : W.cell? ⟨w.heap.size, 0, none⟩ = some (.slice sa p.shared.length sc) := mem_cell HBX.out 0
  have y1 : W.cell? ⟨w.heap.size, 1, none⟩ = some (.slice ta p.tasks.length tc) := mem_cell HBX.out 1
  have HP := Lib.hid (hp.below HBW.out)
  have HG := Lib.hid (hg.below HBW.out)
  clear hp hg
  go_enter Tryd.func20, Tryd.ntmps20
  go_wp2_with fail
  clear hW y0 y1
  refine (small15_any p W sa ta sc tc HP.out).mono ?_
  rintro e w1 ⟨rfl, hB1⟩
  have HBX1 : Hid (w1.heap[w.heap.size]? = some (prgObj p sa sc ta tc)) := mem_keep HBX.out hB1
  have HP1 := Lib.hid (HP.out.below hB1)
  have HG1 := Lib.hid (HG.out.below hB1)
  have HB1 : Hid (Below w.heap.size w w1) := HBW.out.trans (hB1.mono HBW.out.size)
  clear hB1 HP HG HBW HBX
  cases hv : smallP p with
  | false =>
    have HE : Hid (cleanP p = false) := by show _ = _; unfold cleanP; rw [hv]; rfl
    rw [show num01 false = 0 from rfl]
    clear hv
    go_wp2_with fail
    go_ret
    exact ⟨by rw [HE.out]; rfl, HB1.out⟩
  | true =>
    have HE : Hid (cleanP p = okP p) := by show _ = _; unfold cleanP; rw [hv]; rfl
    rw [show num01 true = 1 from rfl]
    clear hv
    have y0 : w1.cell? ⟨w.heap.size, 0, none⟩ = some (.slice sa p.shared.length sc) := mem_cell HBX1.out 0
    have y1 : w1.cell? ⟨w.heap.size, 1, none⟩ = some (.slice ta p.tasks.length tc) := mem_cell HBX1.out 1
    go_wp2_with fail
    clear y0 y1
    refine (ok15_any p w1 sa ta sc tc HP1.out HG1.out).mono ?_
    rintro e w2 ⟨rfl, hB2⟩
    have HB2 : Hid (Below w.heap.size w w2) := HB1.out.trans (hB2.mono HB1.out.size)
    clear hB2
    go_wp2_with fail
    go_ret
    exact ⟨by rw [HE.out]; rfl, HB2.out⟩
end Go.Proofs.YtnegdmhmhdojbaaDoor
