/-
  Mg50: several texts in one (LowAwake, LowSmall).
-/
import Derived.Test.YtkpdngfkdmllkaaDoorMg49
import Derived.Test.YtkpdngfkdmllkaaDoorMg34
import Derived.Test.YtkpdngfkdmllkaaDoorMg22
/-
  Contract: awake (package ontimelaw18).
-/
namespace Go.Proofs.YtkpdngfkdmllkaaDoor
set_option linter.unusedVariables false
set_option linter.unusedSimpArgs false
open Go.RowKit Go.Maps
set_option maxRecDepth 100000
set_option maxHeartbeats 8000000

abbrev lawOc (va vo vu : Value) (rd st er : Int) : Obj := .cells #[va, vo, vu, .int .i64 rd, .int .i64 st, .int .i64 er] 66
theorem lawake_any (w : World) (hg : SignsIn w) : Calls Tryd.prog 8 #[] w fun e w' => e = .returned (.bool true) ∧ Below w.heap.size w w' := by
  have HG := Lib.hid hg
  clear hg
  have hcmp := out_eql
  go_enter Tryd.func8, Tryd.ntmps8
  go_wp2_with fail
  refine (lsample_any w).mono ?_
  rintro e w1 ⟨ta, rfl, hp, hB1⟩
  have HB1 := Lib.hid hB1
  have hT := task_any lsamP 0 w1 none ta 0 1 hp (HG.out.below hB1) (by unfold isI64; decide)
  have hR : taskR lsamP 0 = (lowFn [] lsamT, 0) := by unfold taskR; rw [if_neg (by rw [lsam_ok]; simp), if_neg (by decide)]; rfl
  rw [hR] at hT
  have HT := Lib.hid hT
  clear hp hB1 hT hR
  go_wp2_with fail
  refine HT.out.mono ?_
  rintro e w2 ⟨aa, ac, ba, bc, rfl, hfn, hB2⟩
  obtain ⟨F, hF⟩ : ∃ F, lowFn [] lsamT = F := ⟨_, rfl⟩
  have HF := Lib.hid hF
  have HNM : Hid (F.name = lT) := by show _ = _; rw [← hF]; rfl
  have HRUN := Lib.hid lsam_run
  rw [hF] at hfn HRUN
  simp only [hF]
  obtain ⟨an, han⟩ : ∃ n, F.arrays.length = n := ⟨_, rfl⟩
  obtain ⟨bn, hbn⟩ : ∃ n, F.blocks.length = n := ⟨_, rfl⟩
  have HAN : Hid (F.arrays.length = an ∧ F.blocks.length = bn) := ⟨han, hbn⟩
  rw [han, hbn, HNM.out]
  obtain ⟨rg, hrg⟩ : ∃ r, F.regs = r := ⟨_, rfl⟩
  have HRG := Lib.hid hrg
  rw [hrg]
  obtain ⟨X, hX⟩ : ∃ X : World, w2.alloc (fnObj lT rg (.slice aa an ac) (.slice ba bn bc)) = X := ⟨_, rfl⟩
  have HBX : Hid (Below w2.heap.size w2 X) := by show Below _ _ _; rw [← hX]; exact mem_alloc _ _
  have HXX : Hid (X.heap[w2.heap.size]? = some (fnObj lT rg (.slice aa an ac) (.slice ba bn bc))) := by show _ = _; rw [← hX]; exact mem_new _ _
  have HB2 := Lib.hid (mem_then HB1.out hB2)
  have hq := run_any F [] [] [] [] 1000 aa ba none none none none ac bc 0 0 0 0 X (hfn.at_.below HBX.out) ⟨by decide, (by intro p hp; cases hp), .inl rfl⟩ (by decide) ⟨by decide, .inl rfl⟩ ⟨by decide, .inl rfl⟩ (by intro r hr; cases hr) (by intro r hr; cases hr) ⟨by decide, (by intro p hp; cases hp), .inl rfl⟩ (by decide)
  rw [han, hbn, HNM.out, hrg] at hq
  have HQ := Lib.hid hq
  obtain ⟨u0, u1, u2, u3, _⟩ := fn_four HXX.out
  clear hF han hbn hrg hfn hB2 hq HT
  go_wp2_with fail
  clear hX u0 u1 u2 u3
  refine HQ.out.mono ?_
  rintro e w3 ⟨v, rfl, hoc, hB3⟩
  obtain ⟨R, hR⟩ : ∃ R, runOf F [] [] [] [] 1000 = R := ⟨_, rfl⟩
  have HRN : Hid (R.err = 0 ∧ R.out = [(1, 3)]) := by show _ ∧ _; rw [← hR]; exact HRUN.out
  rw [hR] at hoc
  obtain ⟨va, vo, vu, vac, voc, vuc, rfl, _, _, hout, _⟩ := hoc
  rw [HRN.out.2] at hout
  have HB3 := Lib.hid (mem_then (mem_then HB2.out HBX.out) hB3)
  have h4 : Hid (∃ ub uo, vu = some ⟨ub, uo, none⟩ ∧ w3.cell? ⟨ub, uo, none⟩ = some (.int .i64 1) ∧ w3.cell? ⟨ub, uo + 1, none⟩ = some (.int .i32 3)) := by
    rcases hout.at_ with h0 | ⟨ub, uo, hu, hc⟩
    · cases h0
    · obtain ⟨c1, c2⟩ := hc 0 (1, 3) rfl
      exact ⟨ub, uo, hu, c1, c2⟩
  obtain ⟨ub, uo, rfl, c1, c2⟩ := h4.out
  rw [HRN.out.1, HRN.out.2]
  have hXb := mem_keep HXX.out hB3
  obtain ⟨a1, ha1⟩ : ∃ n, R.arrays.length = n := ⟨_, rfl⟩
  obtain ⟨a2, ha2⟩ : ∃ n, R.objects.length = n := ⟨_, rfl⟩
  obtain ⟨a3, ha3⟩ : ∃ n : Int, ((R.read : Nat) : Int) = n := ⟨_, rfl⟩
  obtain ⟨a4, ha4⟩ : ∃ n : Int, ((R.steps : Nat) : Int) = n := ⟨_, rfl⟩
  rw [ha1, ha2, ha3, ha4]
  have hl1 : ([(1, 3)] : List (Int × Int)).length = 1 := rfl
  rw [hl1]
  obtain ⟨Y, hY⟩ : ∃ Y : World, w3.alloc (lawOc (.slice va a1 vac) (.slice vo a2 voc) (.slice (some ⟨ub, uo, none⟩) 1 vuc) a3 a4 0) = Y := ⟨_, rfl⟩
  have hBY : Below w3.heap.size w3 Y := by rw [← hY]; exact mem_alloc _ _
  have hYY : Y.heap[w3.heap.size]? = some (lawOc (.slice va a1 vac) (.slice vo a2 voc) (.slice (some ⟨ub, uo, none⟩) 1 vuc) a3 a4 0) := by rw [← hY]; exact mem_new _ _
  obtain ⟨u0, u1, u2, u3, _⟩ := fn_four (mem_keep hXb hBY)
  have hd1 := c1
  have HLE : Hid (w.heap.size ≤ w3.heap.size) := HB3.out.size
  have d1 := cell_below hBY c1
  have d2 := cell_below hBY c2
  have y2 : Y.cell? ⟨w3.heap.size, 2, none⟩ = some (.slice (some ⟨ub, uo, none⟩) 1 vuc) := mem_cell hYY 2
  have y5 : Y.cell? ⟨w3.heap.size, 5, none⟩ = some (.int .i64 0) := mem_cell hYY 5
  have HBE := Lib.hid (mem_then HB3.out hBY)
  clear hR ha1 ha2 ha3 ha4 hl1 hB3 hout h4 c1 c2 hXb hBY HQ HXX HRN HRUN
  have hub : ub < w3.heap.size := World.block_lt_of_cell? _ _ hd1
  have e1 : (Y.setCell ⟨w3.heap.size, 5, none⟩ (.int .i64 0)).cell? ⟨ub, uo, none⟩ = some (.int .i64 1) := by rw [World.cell?_setCell_other _ _ _ _ (fun e => by cases e; omega)]; exact d1
  have e2 : (Y.setCell ⟨w3.heap.size, 5, none⟩ (.int .i64 0)).cell? ⟨ub, uo + 1, none⟩ = some (.int .i32 3) := by rw [World.cell?_setCell_other _ _ _ _ (fun e => by cases e; omega)]; exact d2
  have hfz : Y.frozen? ⟨w3.heap.size, 5, none⟩ = false := mem_free hYY 5
  clear hd1 hub hYY
  go_wp2_with fail
  go_ret
  exact ⟨rfl, HBE.out.setCell HLE.out _⟩
end Go.Proofs.YtkpdngfkdmllkaaDoor

/-
  Contracts: the limits of layer 14's theorems (package ontimeref14): they answer, whatever the program.
-/
namespace Go.Proofs.YtkpdngfkdmllkaaDoor
set_option linter.unusedVariables false
set_option linter.unusedSimpArgs false
open Go.RowKit
set_option maxRecDepth 100000
set_option maxHeartbeats 4000000

theorem count14_any : ∀ (t : Tree) (d : Int) (w : World) (a : Option Addr) (c : Nat), Rep w t a → 0 ≤ d ∧ d ≤ 20 →
    Calls Tryd.prog 42 #[t.val a c, .int .i64 d] w fun e w' => (∃ n : Int, e = .returned (.int .i64 n) ∧ 0 ≤ n ∧ n ≤ 1000 * (d + 1)) ∧ Below w.heap.size w w' := by
  intro t
  induction t using Tree.ind with
  | h t ih =>
    intro d w a c hv hd
    have IH := Lib.hid ih
    have HD := Lib.hid hd
    clear ih
    have hl := hv.fits.len
    have HK := Lib.hid hv.kids
    have HN := Lib.hid hv.fits
    clear hv
    obtain ⟨W, hW⟩ : ∃ W : World, w.alloc (.cells #[.int .u8 t.kind, .int .i64 t.num, .string t.name, .slice a t.len c] 35) = W := ⟨_, rfl⟩
    have HBW : Hid (Below w.heap.size w W) := by show Below _ _ _; rw [← hW]; exact mem_alloc _ _
    have HBX : Hid (W.heap[w.heap.size]? = some (.cells #[.int .u8 t.kind, .int .i64 t.num, .string t.name, .slice a t.len c] 35)) := by show _ = _; rw [← hW]; exact mem_new _ _
    have y2 : W.cell? ⟨w.heap.size, 2, none⟩ = some (.string t.name) := mem_cell HBX.out 2
    have y3 : W.cell? ⟨w.heap.size, 3, none⟩ = some (.slice a t.len c) := mem_cell HBX.out 3
    clear hd
    by_cases h0 : d = 0
    · subst h0
      go_enter Tryd.func42, Tryd.ntmps42
      go_wp2_with fail
      go_ret
      exact ⟨⟨1000, rfl, by omega, by omega⟩, HBW.out⟩
    have hdz : (d == 0) = false := by simpa using h0
    have hd1 : 0 < d := by have := HD.out; omega
    have hd2 : d ≤ 20 := HD.out.2
    have HP0 := Lib.hid hd1
    clear h0
    by_cases h1 : 40 < t.name.size
    · have h1d : decide ((40 : Int) < (t.name.size : Int)) = true := by simp; omega
      clear h1
      go_enter Tryd.func42, Tryd.ntmps42
      go_wp2_with fail
      go_ret
      exact ⟨⟨1000, rfl, by omega, by omega⟩, HBW.out⟩
    have h1d : decide ((40 : Int) < (t.name.size : Int)) = false := by simp; omega
    clear h1
    go_enter Tryd.func42, Tryd.ntmps42
    go_wp2_with fail
    clear hW y2 y3
    go_loopw [5, 6] (fun sz i wr => ∃ (j : Nat) (n : Int), j ≤ t.len ∧ i = .int .i64 j ∧ sz = .int .i64 n ∧ (0 ≤ n ∧ n ≤ 999 + 1000 * d) ∧ Below W.heap.size W wr) (fun _ i _ => t.len - (intOf i).toNat)
    case atStart => exact ⟨0, 1, Nat.zero_le _, rfl, rfl, by omega, Below.refl _ _⟩
    case round =>
      obtain ⟨j, n, hj, rfl, rfl, hn, hB⟩ := hrel
      have HB := Lib.hid hB
      have HNN := Lib.hid hn
      have hBx := mem_keep HBX.out hB
      have y3 : wr.cell? ⟨w.heap.size, 3, none⟩ = some (.slice a t.len c) := mem_cell hBx 3
      clear hB hn hBx
      by_cases hlt : j < t.len
      · by_cases hn1 : n < 1000
        · rcases HK.out with h0 | ⟨b, off, rfl, hc⟩
          · omega
          obtain ⟨ai, ci, hnc, hr⟩ := hc j hlt
          have HBB := Lib.hid (mem_then HBW.out HB.out)
          obtain ⟨f0, f1, f2, f3⟩ := hnc.below HBB.out hnc.lt
          have HI := Lib.hid (IH.out j hlt)
          have HR := Lib.hid (hr.below HBB.out)
          have hn1d : decide (n < 1000) = true := by simp; omega
          have hltd : decide ((j : Int) < (t.len : Int)) = true := by simp; omega
          clear hc hnc hr
          go_wp2_with fail
          refine (HI.out (d - 1) _ ai ci HR.out (by omega)).mono ?_
          rintro e w1 ⟨⟨m, rfl, hm⟩, hB1⟩
          have hnm : 0 ≤ n + m ∧ n + m ≤ 999 + 1000 * d := by have := HNN.out; omega
          have HNM := Lib.hid hnm
          have hnm2 : n + m ≤ 21000 := by omega
          have hnm3 : 0 ≤ n + m := hnm.1
          have HB1 : Hid (Below W.heap.size W w1) := mem_then HB.out hB1
          clear hB1 hnm hm f0 f1 f2 f3 y3
          go_wp2_with fail
          go_roundw
          case rel => exact ⟨j + 1, n + m, by omega, by go_num, rfl, HNM.out, HB1.out⟩
          case measure => simp [intOf]; omega
        · have hn1d : decide (n < 1000) = false := by simp; omega
          have hltd : decide ((j : Int) < (t.len : Int)) = true := by simp; omega
          clear hn1
          go_wp2_with fail
          go_ret
          exact ⟨⟨n, rfl, HNN.out.1, by have := HNN.out; omega⟩, mem_then HBW.out HB.out⟩
      · have hltd : decide ((j : Int) < (t.len : Int)) = false := by simp; omega
        go_wp2_with fail
        go_ret
        exact ⟨⟨n, rfl, HNN.out.1, by have := HNN.out; omega⟩, mem_then HBW.out HB.out⟩
theorem small14_any (t : Tree) (w : World) (a : Option Addr) (c : Nat) (hv : Rep w t a) :
    Calls Tryd.prog 29 #[t.val a c] w fun e w' => (∃ b, e = .returned (.bool b)) ∧ Below w.heap.size w w' := by
  have hl := hv.fits.len
  have HV := Lib.hid hv
  obtain ⟨W, hW⟩ : ∃ W : World, w.alloc (.cells #[.int .u8 t.kind, .int .i64 t.num, .string t.name, .slice a t.len c] 35) = W := ⟨_, rfl⟩
  have HBW : Hid (Below w.heap.size w W) := by show Below _ _ _; rw [← hW]; exact mem_alloc _ _
  have HBX : Hid (W.heap[w.heap.size]? = some (.cells #[.int .u8 t.kind, .int .i64 t.num, .string t.name, .slice a t.len c] 35)) := by show _ = _; rw [← hW]; exact mem_new _ _
  have y0 : W.cell? ⟨w.heap.size, 0, none⟩ = some (.int .u8 t.kind) := mem_cell HBX.out 0
  have y1 : W.cell? ⟨w.heap.size, 1, none⟩ = some (.int .i64 t.num) := mem_cell HBX.out 1
  have y2 : W.cell? ⟨w.heap.size, 2, none⟩ = some (.string t.name) := mem_cell HBX.out 2
  have y3 : W.cell? ⟨w.heap.size, 3, none⟩ = some (.slice a t.len c) := mem_cell HBX.out 3
  clear hv
  go_enter Tryd.func29, Tryd.ntmps29
  go_wp2_with fail
  clear hW y0 y1 y2 y3
  refine (count14_any t 20 W a c (HV.out.below HBW.out) (by decide)).mono ?_
  rintro e w1 ⟨⟨m, rfl, hm⟩, hB1⟩
  have HB := Lib.hid (mem_then HBW.out hB1)
  clear hm hB1
  go_wp2_with fail
  go_ret
  exact ⟨⟨_, rfl⟩, HB.out⟩
theorem smallProg_any (p : Prg) (w : World) (sa ta : Option Addr) (sc tc : Nat) (hp : PrgAt w p sa ta) :
    Calls Tryd.prog 17 #[p.val sa sc ta tc] w fun e w' => (∃ b, e = .returned (.bool b)) ∧ Below w.heap.size w w' := by
  have hsl := hp.1.1
  have htl := hp.2.1
  have HP := Lib.hid hp
  obtain ⟨W, hW⟩ : ∃ W : World, w.alloc (prgObj p sa sc ta tc) = W := ⟨_, rfl⟩
  have HBW : Hid (Below w.heap.size w W) := by show Below _ _ _; rw [← hW]; exact mem_alloc _ _
  have HBX : Hid (W.heap[w.heap.size]? = some (prgObj p sa sc ta tc)) := by show _ = _; rw [← hW]; exact mem_new _ _
  have y0 : W.cell? ⟨w.heap.size, 0, none⟩ = some (.slice sa p.shared.length sc) := mem_cell HBX.out 0
  have y1 : W.cell? ⟨w.heap.size, 1, none⟩ = some (.slice ta p.tasks.length tc) := mem_cell HBX.out 1
  clear hp
  by_cases h1 : 10 < p.shared.length
  · have h1d : decide ((10 : Int) < (p.shared.length : Int)) = true := by simp; omega
    clear h1
    go_enter Tryd.func17, Tryd.ntmps17
    go_wp2_with fail
    go_ret
    exact ⟨⟨_, rfl⟩, HBW.out⟩
  have h1d : decide ((10 : Int) < (p.shared.length : Int)) = false := by simp; omega
  by_cases h2 : 10 < p.tasks.length
  · have h2d : decide ((10 : Int) < (p.tasks.length : Int)) = true := by simp; omega
    clear h1 h2
    go_enter Tryd.func17, Tryd.ntmps17
    go_wp2_with fail
    go_ret
    exact ⟨⟨_, rfl⟩, HBW.out⟩
  have h2d : decide ((10 : Int) < (p.tasks.length : Int)) = false := by simp; omega
  clear h1 h2
  go_enter Tryd.func17, Tryd.ntmps17
  go_wp2_with fail
  clear hW y0 y1 h1d h2d
  go_loopw [3] (fun iv wr => ∃ j : Nat, j ≤ p.shared.length ∧ iv = .int .i64 (j : Int) ∧ Below W.heap.size W wr) (fun iv _ => p.shared.length - (intOf iv).toNat)
  case atStart => exact ⟨0, Nat.zero_le _, rfl, Below.refl _ _⟩
  case round =>
    obtain ⟨j, hj, rfl, hB⟩ := hrel
    have HB := Lib.hid hB
    have hj0 : (0 : Int) ≤ (j : Int) := by omega
    have y0 : wr.cell? ⟨w.heap.size, 0, none⟩ = some (.slice sa p.shared.length sc) := mem_cell (mem_keep HBX.out hB) 0
    have y1 : wr.cell? ⟨w.heap.size, 1, none⟩ = some (.slice ta p.tasks.length tc) := mem_cell (mem_keep HBX.out hB) 1
    clear hB
    by_cases hlt : j < p.shared.length
    · have hlt2 : (j : Int) < (p.shared.length : Int) := by omega
      obtain ⟨bb, off, hsa, c1, c2, hn, _⟩ := (HP.out.1.below (mem_then HBW.out HB.out)).2 j hlt
      rw [hsa] at y0
      obtain ⟨a, ha⟩ : ∃ a, p.shared.getD j Arr.none = a := ⟨_, rfl⟩
      rw [ha] at c1 c2 hn
      clear ha
      obtain ⟨b4, h4⟩ : ∃ b, decide ((40 : Int) < (a.name.size : Int)) = b := ⟨_, rfl⟩
      cases b4 with
      | true =>
        go_wp2_with fail
        go_ret
        exact ⟨⟨_, rfl⟩, mem_then HBW.out HB.out⟩
      | false =>
        go_wp2_with fail
        go_roundw
        case rel => exact ⟨j + 1, by omega, by go_num, HB.out⟩
        case measure => simp [intOf]; omega
    · obtain rfl : j = p.shared.length := by omega
      go_wp2_with fail
      clear y0 y1 hj0 hlt
      go_loopw [4] (fun iv wr => ∃ j : Nat, j ≤ p.tasks.length ∧ iv = .int .i64 (j : Int) ∧ Below W.heap.size W wr) (fun iv _ => p.tasks.length - (intOf iv).toNat)
      case atStart => exact ⟨0, Nat.zero_le _, rfl, HB.out⟩
      case round =>
        clear HB
        obtain ⟨j, hj, rfl, hB⟩ := hrel
        have HB := Lib.hid hB
        have hj0 : (0 : Int) ≤ (j : Int) := by omega
        have y0 : wr.cell? ⟨w.heap.size, 0, none⟩ = some (.slice sa p.shared.length sc) := mem_cell (mem_keep HBX.out hB) 0
        have y1 : wr.cell? ⟨w.heap.size, 1, none⟩ = some (.slice ta p.tasks.length tc) := mem_cell (mem_keep HBX.out hB) 1
        clear hB
        by_cases hlt : j < p.tasks.length
        · have hlt2 : (j : Int) < (p.tasks.length : Int) := by omega
          obtain ⟨bb, off, q, hta, hc, hin⟩ := HP.out.2.2 j hlt
          obtain ⟨t, ht⟩ : ∃ t, p.tasks.getD j Tsk.none = t := ⟨_, rfl⟩
          rw [ht] at hc hin
          obtain ⟨⟨g0, g1, g2, g3, g4, g5, g6, g7⟩, hbl⟩ := tsk_cells (mem_then HBW.out HB.out) hc
          have hvl := hin.vars.1
          have hal := hin.arrays.1
          have hnl := hin.name
          obtain ⟨D, hD⟩ : ∃ D : World, wr.alloc (tskObj t q) = D := ⟨_, rfl⟩
          have hBD : Below wr.heap.size wr D := by rw [← hD]; exact mem_alloc _ _
          have HX : Hid (D.heap[wr.heap.size]? = some (tskObj t q)) := by show _ = _; rw [← hD]; exact mem_new _ _
          have HBD : Hid (Below W.heap.size W D) := mem_then HB.out hBD
          have HIN := Lib.hid hin
          have x0 := mem_cell HX.out 0
          have x2 := mem_cell HX.out 2
          have x3 := mem_cell HX.out 3
          have x4 := mem_cell HX.out 4
          have x5 := mem_cell HX.out 5
          have x6 := mem_cell HX.out 6
          have x7 := mem_cell HX.out 7
          simp only [List.getElem?_toArray, List.getElem?_cons_zero, List.getElem?_cons_succ] at x0 x2 x3 x4 x5 x6 x7
          rw [hta] at y1
          clear hc hin ht hBD hbl hta
          go_wp2_with fail
          clear g0 g1 g2 g3 g4 g5 g6 g7 hD x0 x2 x3 x4 x5 x6 x7
          refine (small14_any t.body D q.ka q.kc (HIN.out.body.below (mem_then HBW.out HBD.out))).mono ?_
          rintro e w2 ⟨⟨b, rfl⟩, hB2⟩
          have HX2 := Lib.hid (mem_keep HX.out hB2)
          have HB2 : Hid (Below W.heap.size W w2) := mem_then HBD.out hB2
          have x0 := mem_cell HX2.out 0
          have x2 := mem_cell HX2.out 2
          have x3 := mem_cell HX2.out 3
          simp only [List.getElem?_toArray, List.getElem?_cons_zero, List.getElem?_cons_succ] at x0 x2 x3
          clear hB2 y0 y1
          cases b with
          | false =>
            go_wp2_with fail
            go_ret
            exact ⟨⟨_, rfl⟩, mem_then HBW.out HB2.out⟩
          | true =>
          obtain ⟨b1, h1⟩ : ∃ b, decide ((20 : Int) < (t.vars.length : Int)) = b := ⟨_, rfl⟩
          cases b1 with
          | true =>
            go_wp2_with fail
            go_ret
            exact ⟨⟨_, rfl⟩, mem_then HBW.out HB2.out⟩
          | false =>
          obtain ⟨b2, h2⟩ : ∃ b, decide ((20 : Int) < (t.arrays.length : Int)) = b := ⟨_, rfl⟩
          cases b2 with
          | true =>
            go_wp2_with fail
            go_ret
            exact ⟨⟨_, rfl⟩, mem_then HBW.out HB2.out⟩
          | false =>
          obtain ⟨b3, h3⟩ : ∃ b, decide ((40 : Int) < (t.name.size : Int)) = b := ⟨_, rfl⟩
          cases b3 with
          | true =>
            go_wp2_with fail
            go_ret
            exact ⟨⟨_, rfl⟩, mem_then HBW.out HB2.out⟩
          | false =>
          go_wp2_with fail
          clear x0 x2 x3 h1 h2 h3
          go_loopw [6] (fun iv wr' => ∃ j : Nat, j ≤ t.vars.length ∧ iv = .int .i64 (j : Int) ∧ Below w2.heap.size w2 wr') (fun iv _ => t.vars.length - (intOf iv).toNat)
          case atStart => exact ⟨0, Nat.zero_le _, rfl, Below.refl _ _⟩
          case round =>
            obtain ⟨m, hm, rfl, hB3⟩ := hrel
            have HB3 := Lib.hid hB3
            have hm0 : (0 : Int) ≤ (m : Int) := by omega
            have HX3 := Lib.hid (mem_keep HX2.out hB3)
            have x2 := mem_cell HX3.out 2
            have x3 := mem_cell HX3.out 3
            simp only [List.getElem?_toArray, List.getElem?_cons_zero, List.getElem?_cons_succ] at x2 x3
            clear hB3
            by_cases hmt : m < t.vars.length
            · have hmt2 : (m : Int) < (t.vars.length : Int) := by omega
              obtain ⟨vb, vf, hva, hvc, hvs⟩ := (HIN.out.vars.below (mem_then (mem_then HBW.out HB2.out) HB3.out)).2 m hmt
              obtain ⟨s, hs⟩ : ∃ s, t.vars.getD m ⟨#[]⟩ = s := ⟨_, rfl⟩
              rw [hs] at hvc hvs
              rw [hva] at x2
              clear hs
              obtain ⟨b4, h4⟩ : ∃ b, decide ((40 : Int) < (s.size : Int)) = b := ⟨_, rfl⟩
              cases b4 with
              | true =>
                go_wp2_with fail
                go_ret
                exact ⟨⟨_, rfl⟩, mem_then HBW.out (mem_then HB2.out HB3.out)⟩
              | false =>
                go_wp2_with fail
                go_roundw
                case rel => exact ⟨m + 1, by omega, by go_num, HB3.out⟩
                case measure => simp [intOf]; omega
            · obtain rfl : m = t.vars.length := by omega
              go_wp2_with fail
              clear x2 x3 hm0 hmt
              go_loopw [7] (fun iv wr' => ∃ j : Nat, j ≤ t.arrays.length ∧ iv = .int .i64 (j : Int) ∧ Below w2.heap.size w2 wr') (fun iv _ => t.arrays.length - (intOf iv).toNat)
              case atStart => exact ⟨0, Nat.zero_le _, rfl, HB3.out⟩
              case round =>
                clear HB3 HX3
                obtain ⟨m, hm, rfl, hB3⟩ := hrel
                have HB3 := Lib.hid hB3
                have hm0 : (0 : Int) ≤ (m : Int) := by omega
                have HX3 := Lib.hid (mem_keep HX2.out hB3)
                have x3 := mem_cell HX3.out 3
                simp only [List.getElem?_toArray, List.getElem?_cons_zero, List.getElem?_cons_succ] at x3
                clear hB3
                by_cases hmt : m < t.arrays.length
                · have hmt2 : (m : Int) < (t.arrays.length : Int) := by omega
                  obtain ⟨vb, vf, hva, hvc, hvd, hvs, _⟩ := (HIN.out.arrays.below (mem_then (mem_then HBW.out HB2.out) HB3.out)).2 m hmt
                  obtain ⟨s, hs⟩ : ∃ s, t.arrays.getD m Arr.none = s := ⟨_, rfl⟩
                  rw [hs] at hvc hvd hvs
                  rw [hva] at x3
                  clear hs
                  obtain ⟨b4, h4⟩ : ∃ b, decide ((40 : Int) < (s.name.size : Int)) = b := ⟨_, rfl⟩
                  cases b4 with
                  | true =>
                    go_wp2_with fail
                    go_ret
                    exact ⟨⟨_, rfl⟩, mem_then HBW.out (mem_then HB2.out HB3.out)⟩
                  | false =>
                    go_wp2_with fail
                    go_roundw
                    case rel => exact ⟨m + 1, by omega, by go_num, HB3.out⟩
                    case measure => simp [intOf]; omega
                · obtain rfl : m = t.arrays.length := by omega
                  go_wp2_with fail
                  go_roundw
                  case rel => exact ⟨j + 1, by omega, by go_num, mem_then HB2.out HB3.out⟩
                  case measure => simp [intOf]; omega
        · obtain rfl : j = p.tasks.length := by omega
          go_wp2_with fail
          go_ret
          exact ⟨⟨_, rfl⟩, mem_then HBW.out HB.out⟩
end Go.Proofs.YtkpdngfkdmllkaaDoor
