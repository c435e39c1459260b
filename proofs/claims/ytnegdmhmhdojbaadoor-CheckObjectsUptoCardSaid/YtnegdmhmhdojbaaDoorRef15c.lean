/-
  Contract of the reference (package ontimeref15): one.
-/
import Derived.Test.YtnegdmhmhdojbaaDoorRef15b
import Derived.Test.YtnegdmhmhdojbaaDoorChkFaults
namespace Go.Proofs.YtnegdmhmhdojbaaDoor
set_option linter.unusedVariables false
set_option linter.unusedSimpArgs false
open Go.RowKit
set_option maxRecDepth 100000
set_option maxHeartbeats 16000000

/-- the names around a task's body -/
abbrev nmsOf (p : Prg) (t : Tsk) : Nms := ⟨p.shared.map (·.name), t.vars, t.arrays.map (·.name)⟩
/-- the error of the node at a path -/
def oneP (p : Prg) (t : Tsk) (path : List Int) (n : Tree) : Int := faultN (nmsOf p t) n.kind n.name (placeP t.body path) (aroundP 42 t.body path) (aroundP 46 t.body path)
theorem one15_any (p : Prg) (t : Tsk) (q : TskPlace) (n : Tree) (path : List Int) (w : World) (sa ta pa : Option Addr) (sc tc pc : Nat) (hp : PrgAt w p sa ta) (ht : TskIn w t q) (hr : IRow w pa path) (hpc : path.length ≤ pc) (hpl : path.length ≤ 1000000) (h0 : t.body.at path = some n) :
    Calls Tryd.prog 70 #[p.val sa sc ta tc, .agg (t.cells q), .slice pa path.length pc] w fun e w' => e = .returned (.int .i64 (oneP p t path n)) ∧ Below w.heap.size w w' := by
  have hsl := hp.1.1
  have htl := hp.2.1
  obtain ⟨ov, hov⟩ : ∃ ov, oneP p t path n = ov := ⟨_, rfl⟩
  rw [hov]
  have HOV := Lib.hid hov
  clear hov
  obtain ⟨A1, hA1⟩ : ∃ A1 : World, w.alloc (prgObj p sa sc ta tc) = A1 := ⟨_, rfl⟩
  obtain ⟨W, hW⟩ : ∃ W : World, A1.alloc (tskObj t q) = W := ⟨_, rfl⟩
  have hB1 : Below w.heap.size w A1 := by rw [← hA1]; exact mem_alloc _ _
  have hX1 : A1.heap[w.heap.size]? = some (prgObj p sa sc ta tc) := by rw [← hA1]; exact mem_new _ _
  have hB2 : Below A1.heap.size A1 W := by rw [← hW]; exact mem_alloc _ _
  have hX2 : W.heap[A1.heap.size]? = some (tskObj t q) := by rw [← hW]; exact mem_new _ _
  have HBW := Lib.hid (mem_then hB1 hB2)
  have hx := mem_keep hX1 hB2
  have HK : Hid (∀ w', Below W.heap.size W w' → Below w.heap.size w w' ∧ w'.cell? ⟨w.heap.size, 0, none⟩ = some (.slice sa p.shared.length sc) ∧ w'.heap[A1.heap.size]? = some (tskObj t q) ∧ PrgAt w' p sa ta ∧ TskIn w' t q ∧ IRow w' pa path) := fun w' h => by
    have hb := HBW.out.trans (h.mono HBW.out.size)
    exact ⟨hb, mem_cell (mem_keep hx h) 0, mem_keep hX2 h, hp.below hb, ht.below hb, hr.below hb⟩
  clear hp ht hr hB1 hX1 hB2
  have x2 := mem_cell hX2 2
  have x3 := mem_cell hX2 3
  have x4 := mem_cell hX2 4
  have x5 := mem_cell hX2 5
  have x6 := mem_cell hX2 6
  have x7 := mem_cell hX2 7
  simp only [Tsk.cells, List.getElem?_toArray, List.getElem?_cons_zero, List.getElem?_cons_succ] at x2 x3 x4 x5 x6 x7
  clear hx hX2
  unfold Tsk.cells
  go_enter Tryd.func70, Tryd.ntmps70
  go_wp2_with fail
  clear hA1 hW x2 x3 x4 x5 x6 x7
  -- the node
  have h9 := node15_any t.body n path W q.ka pa q.kc pc (HK.out W (Below.refl _ _)).2.2.2.2.1.body (HK.out W (Below.refl _ _)).2.2.2.2.2 h0
  refine h9.mono ?_
  clear h9
  rintro e w1 ⟨na, nc, rfl, hnr, hB1⟩
  obtain ⟨D, hD⟩ : ∃ D : World, w1.alloc (boxObj n na nc) = D := ⟨_, rfl⟩
  have hBD : Below w1.heap.size w1 D := by rw [← hD]; exact mem_alloc _ _
  have hXD : D.heap[w1.heap.size]? = some (boxObj n na nc) := by rw [← hD]; exact mem_new _ _
  have HBD : Hid (Below W.heap.size W D) := mem_then hB1 hBD
  have HFIT := Lib.hid hnr.fits
  have HK2 : Hid (∀ w', Below D.heap.size D w' → Below w.heap.size w w' ∧ w'.cell? ⟨w.heap.size, 0, none⟩ = some (.slice sa p.shared.length sc) ∧ w'.heap[A1.heap.size]? = some (tskObj t q) ∧ PrgAt w' p sa ta ∧ TskIn w' t q ∧ IRow w' pa path ∧ w'.heap[w1.heap.size]? = some (boxObj n na nc)) := fun w' h => by
    obtain ⟨k1, k2, k3, k4, k5, k6⟩ := HK.out w' (mem_then HBD.out h)
    exact ⟨k1, k2, k3, k4, k5, k6, mem_keep hXD h⟩
  clear hB1 hBD hXD hnr
  obtain ⟨_, _, hx2, _⟩ := HK2.out D (Below.refl _ _)
  have x4 := mem_cell hx2 4
  have x5 := mem_cell hx2 5
  have x6 := mem_cell hx2 6
  have x7 := mem_cell hx2 7
  simp only [Tsk.cells, List.getElem?_toArray, List.getElem?_cons_zero, List.getElem?_cons_succ] at x4 x5 x6 x7
  clear hx2
  go_wp2_with fail
  clear hD x4 x5 x6 x7
  -- the loops around
  have h9 := around15_any 42 (by decide) t.body n path D q.ka pa q.kc pc (HK2.out D (Below.refl _ _)).2.2.2.2.1.body (HK2.out D (Below.refl _ _)).2.2.2.2.2.1 hpc hpl h0
  refine h9.mono ?_
  clear h9
  obtain ⟨lo, hlo⟩ : ∃ lo, aroundP 42 t.body path = lo := ⟨_, rfl⟩
  rw [hlo]
  rintro e w2 ⟨la, lc, rfl, hls, hB2⟩
  have HLO := Lib.hid hlo
  have HLS := Lib.hid hls
  have HB2 := Lib.hid hB2
  obtain ⟨_, _, hx2, _⟩ := HK2.out w2 hB2
  have x4 := mem_cell hx2 4
  have x5 := mem_cell hx2 5
  have x6 := mem_cell hx2 6
  have x7 := mem_cell hx2 7
  simp only [Tsk.cells, List.getElem?_toArray, List.getElem?_cons_zero, List.getElem?_cons_succ] at x4 x5 x6 x7
  clear hx2 hls hB2 hlo
  go_wp2_with fail
  clear x4 x5 x6 x7
  have h9 := around15_any 46 (by decide) t.body n path w2 q.ka pa q.kc pc (HK2.out w2 HB2.out).2.2.2.2.1.body (HK2.out w2 HB2.out).2.2.2.2.2.1 hpc hpl h0
  refine h9.mono ?_
  clear h9
  obtain ⟨lk, hlk⟩ : ∃ lk, aroundP 46 t.body path = lk := ⟨_, rfl⟩
  rw [hlk]
  rintro e w3 ⟨ka, kc, rfl, hks, hB3⟩
  have HLK := Lib.hid hlk
  have HKS := Lib.hid hks
  have HLS3 := Lib.hid (HLS.out.below hB3)
  have HB3 := Lib.hid (mem_then HB2.out hB3)
  obtain ⟨_, _, hx2, _, _, _, hx3⟩ := HK2.out w3 HB3.out
  have x2 := mem_cell hx2 2
  have x3 := mem_cell hx2 3
  simp only [Tsk.cells, List.getElem?_toArray, List.getElem?_cons_zero, List.getElem?_cons_succ] at x2 x3
  obtain ⟨⟨z0, z1, z2, z3⟩, _⟩ := blk4 hx3
  clear hx2 hx3 hks hB3 hlk
  have hvl := (HK2.out w3 HB3.out).2.2.2.2.1.vars.1
  have hal := (HK2.out w3 HB3.out).2.2.2.2.1.arrays.1
  have hll := HLS3.out.1
  have hkl := HKS.out.1
  -- scalar
  go_upto_region 4 with fail
  obtain ⟨scb, hscb⟩ : ∃ b, (memB t.vars n.name || memB lo n.name) = b := ⟨_, rfl⟩
  have HSC := Lib.hid hscb
  clear hscb
  go_cut [10] (fun s w' => s = .bool scb ∧ Below w3.heap.size w3 w')
  case first =>
    go_wp2_with fail
    have h9 := in15_any t.vars n.name w3 q.va q.vc (HK2.out w3 HB3.out).2.2.2.2.1.vars
    refine h9.mono ?_
    clear h9
    obtain ⟨m1, hm1⟩ : ∃ m, memB t.vars n.name = m := ⟨_, rfl⟩
    rw [hm1]
    rintro e w4 ⟨rfl, hB4⟩
    have hz := (HK2.out w4 (mem_then HB3.out hB4)).2.2.2.2.2.2
    obtain ⟨⟨z0, z1, z2, z3⟩, _⟩ := blk4 hz
    have HB4 := Lib.hid hB4
    have HM1 := Lib.hid hm1
    clear hB4 hm1 hz
    cases m1 with
    | true =>
      have HE : Hid (scb = true) := by show _ = _; rw [← HSC.out, HM1.out]; rfl
      go_wp2_with fail
      go_meet
      exact ⟨by rw [HE.out], HB4.out⟩
    | false =>
      go_wp2_with fail
      have h9 := in15_any lo n.name w4 la lc (HLS3.out.below HB4.out)
      refine h9.mono ?_
      clear h9
      obtain ⟨m2, hm2⟩ : ∃ m, memB lo n.name = m := ⟨_, rfl⟩
      rw [hm2]
      rintro e w5 ⟨rfl, hB5⟩
      have HE : Hid (scb = m2) := by show _ = _; rw [← HSC.out, HM1.out, hm2]; rfl
      have HB5 := Lib.hid (mem_then HB4.out hB5)
      clear hB5 hm2
      go_wp2_with fail
      go_meet
      exact ⟨by rw [HE.out], HB5.out⟩
  obtain ⟨rfl, hBc⟩ := hcut
  obtain ⟨w4, hw4⟩ : ∃ w4 : World, w4 = wc := ⟨_, rfl⟩
  rw [← hw4] at hBc ⊢
  clear hw4 x2 x3 z0 z1 z2 z3
  have HB4 := Lib.hid (mem_then HB3.out hBc)
  have HLS4 := Lib.hid (HLS3.out.below hBc)
  have HKS4 := Lib.hid (HKS.out.below hBc)
  clear hBc
  obtain ⟨_, y0, hx2, _, _, _, hx3⟩ := HK2.out w4 HB4.out
  have x3 := mem_cell hx2 3
  simp only [Tsk.cells, List.getElem?_toArray, List.getElem?_cons_zero, List.getElem?_cons_succ] at x3
  obtain ⟨⟨z0, z1, z2, z3⟩, _⟩ := blk4 hx3
  clear hx2 hx3
  go_wp2_with fail
  have h9 := declared_any t.arrays n.name w4 q.aa q.ac (HK2.out w4 HB4.out).2.2.2.2.1.arrays
  refine h9.mono ?_
  clear h9 x3 y0 z0 z1 z2 z3
  obtain ⟨ar, har⟩ : ∃ m, memB (t.arrays.map (·.name)) n.name = m := ⟨_, rfl⟩
  rw [har]
  rintro e w5 ⟨rfl, hB5⟩
  have HAR := Lib.hid har
  have HB5 := Lib.hid (mem_then HB4.out hB5)
  have HLS5 := Lib.hid (HLS4.out.below hB5)
  have HKS5 := Lib.hid (HKS4.out.below hB5)
  clear hB5 har
  obtain ⟨_, y0, hx2, _, _, _, hx3⟩ := HK2.out w5 HB5.out
  obtain ⟨⟨z0, z1, z2, z3⟩, _⟩ := blk4 hx3
  clear hx2 hx3
  go_wp2_with fail
  have h9 := declared_any p.shared n.name w5 sa sc (HK2.out w5 HB5.out).2.2.2.1.1
  refine h9.mono ?_
  clear h9 y0 z0 z1 z2 z3
  obtain ⟨sh, hsh⟩ : ∃ m, memB (p.shared.map (·.name)) n.name = m := ⟨_, rfl⟩
  rw [hsh]
  rintro e w6 ⟨rfl, hB6⟩
  have HSH := Lib.hid hsh
  have HB6 := Lib.hid (mem_then HB5.out hB6)
  have HLS6 := Lib.hid (HLS5.out.below hB6)
  have HKS6 := Lib.hid (HKS5.out.below hB6)
  have HEND : Hid (Below w.heap.size w w6) := (HK2.out w6 HB6.out).1
  clear hB6 hsh
  have HONE : Hid (ov = faultN (nmsOf p t) n.kind n.name (placeP t.body path) lo lk) := by show _ = _; rw [← HOV.out]; unfold oneP; rw [HLO.out, HLK.out]
  obtain ⟨_, _, hx2, _, _, _, hx3⟩ := HK2.out w6 HB6.out
  have x4 := mem_cell hx2 4
  have x5 := mem_cell hx2 5
  have x6 := mem_cell hx2 6
  have x7 := mem_cell hx2 7
  simp only [Tsk.cells, List.getElem?_toArray, List.getElem?_cons_zero, List.getElem?_cons_succ] at x4 x5 x6 x7
  obtain ⟨⟨z0, z1, z2, z3⟩, _⟩ := blk4 hx3
  clear hx2 hx3
  by_cases k2 : n.kind = 2
  · have hb2 : (n.kind == 2) = true := by simp [k2]
    have HF2 : Hid (ov = if (placeP t.body path && memB lo n.name) = true then 7 else if scb = true then 0 else if (ar || sh) = true then 7 else 6) := by
      show _ = _
      rw [HONE.out, ← HSC.out, ← HAR.out, ← HSH.out]
      unfold faultN
      rw [if_pos k2]
    clear k2
    go_wp2_with fail
    have h9 := place15_any t.body n path w6 q.ka pa q.kc pc (HK2.out w6 HB6.out).2.2.2.2.1.body (HK2.out w6 HB6.out).2.2.2.2.2.1 hpc hpl h0
    refine h9.mono ?_
    clear h9 x4 x5 x6 x7 z0 z1 z2 z3
    obtain ⟨pp, hpp⟩ : ∃ m, placeP t.body path = m := ⟨_, rfl⟩
    rw [hpp] at HF2 ⊢
    clear hpp
    rintro e w7 ⟨rfl, hB7⟩
    have HB7 := Lib.hid (mem_then HB6.out hB7)
    have HLS7 := Lib.hid (HLS6.out.below hB7)
    clear hB7
    obtain ⟨_, _, _, _, _, _, hx3⟩ := HK2.out w7 HB7.out
    obtain ⟨⟨z0, z1, z2, z3⟩, _⟩ := blk4 hx3
    clear hx3
    cases pp with
    | false =>
      cases scb <;> cases ar <;> cases sh
      all_goals
        go_wp2_with fail
        go_ret
        exact ⟨by rw [HF2.out]; rfl, (HK2.out w7 HB7.out).1⟩
    | true =>
      go_wp2_with fail
      have h9 := in15_any lo n.name w7 la lc HLS7.out
      refine h9.mono ?_
      clear h9
      obtain ⟨m2, hm2⟩ : ∃ m, memB lo n.name = m := ⟨_, rfl⟩
      rw [hm2] at HF2 ⊢
      clear hm2
      rintro e w8 ⟨rfl, hB8⟩
      have HB8 := Lib.hid (mem_then HB7.out hB8)
      clear hB8 z0 z1 z2 z3
      cases m2 with
      | true =>
        go_wp2_with fail
        go_ret
        exact ⟨by rw [HF2.out]; rfl, (HK2.out w8 HB8.out).1⟩
      | false =>
        cases scb <;> cases ar <;> cases sh
        all_goals
          go_wp2_with fail
          go_ret
          exact ⟨by rw [HF2.out]; rfl, (HK2.out w8 HB8.out).1⟩
  have hb2 : (n.kind == 2) = false := by simpa using k2
  by_cases k3 : n.kind = 3
  · have hb3 : (n.kind == 3) = true := by simp [k3]
    have HF3 : Hid (ov = if ar = true then 0 else if sh = true then (if memB lk n.name = true then 0 else 12) else if scb = true then 7 else 6) := by
      show _ = _
      rw [HONE.out, ← HSC.out, ← HAR.out, ← HSH.out]
      unfold faultN
      rw [if_neg k2, if_pos k3]
    clear k2 k3 x4 x5 x6 x7
    cases ar with
    | true =>
      go_wp2_with fail
      go_ret
      exact ⟨by rw [HF3.out]; rfl, HEND.out⟩
    | false =>
      cases sh with
      | true =>
        go_wp2_with fail
        have h9 := in15_any lk n.name w6 ka kc HKS6.out
        refine h9.mono ?_
        clear h9 z0 z1 z2 z3
        obtain ⟨m2, hm2⟩ : ∃ m, memB lk n.name = m := ⟨_, rfl⟩
        rw [hm2] at HF3 ⊢
        clear hm2
        rintro e w8 ⟨rfl, hB8⟩
        have HB8 := Lib.hid (mem_then HB6.out hB8)
        clear hB8
        cases m2
        all_goals
          go_wp2_with fail
          go_ret
          exact ⟨by rw [HF3.out]; rfl, (HK2.out w8 HB8.out).1⟩
      | false =>
        cases scb
        all_goals
          go_wp2_with fail
          go_ret
          exact ⟨by rw [HF3.out]; rfl, HEND.out⟩
  have hb3 : (n.kind == 3) = false := by simpa using k3
  by_cases k42 : n.kind = 42
  · have hb42 : (n.kind == 42) = true := by simp [k42]
    have HF4 : Hid (ov = if (scb || (ar || sh)) = true then 8 else 0) := by
      show _ = _
      rw [HONE.out, ← HSC.out, ← HAR.out, ← HSH.out]
      unfold faultN
      rw [if_neg k2, if_neg k3, if_pos k42]
    clear k2 k3 k42 x4 x5 x6 x7
    cases scb <;> cases ar <;> cases sh
    all_goals
      go_wp2_with fail
      go_ret
      exact ⟨by rw [HF4.out]; rfl, HEND.out⟩
  have hb42 : (n.kind == 42) = false := by simpa using k42
  by_cases k46 : n.kind = 46
  · have hb46 : (n.kind == 46) = true := by simp [k46]
    have HF5 : Hid (ov = if sh = true then (if lk = [] then 0 else 12) else 6) := by
      show _ = _
      rw [HONE.out, ← HSH.out]
      unfold faultN
      rw [if_neg k2, if_neg k3, if_neg k42, if_pos k46]
    clear k2 k3 k42 k46 x4 x5 x6 x7
    cases sh with
    | false =>
      go_wp2_with fail
      go_ret
      exact ⟨by rw [HF5.out]; rfl, HEND.out⟩
    | true =>
      by_cases hl : lk = []
      · have HF6 : Hid (ov = 0) := by show _ = _; rw [HF5.out, if_pos rfl, if_pos hl]
        have hl0 : decide ((0 : Int) < (lk.length : Int)) = false := by simp [hl]
        have hl1 : ¬ (0 : Int) < (lk.length : Int) := by simp [hl]
        clear hl
        go_wp2_with fail
        go_ret
        exact ⟨by rw [HF6.out]; rfl, HEND.out⟩
      · have HF6 : Hid (ov = 12) := by show _ = _; rw [HF5.out, if_pos rfl, if_neg hl]
        have hp0 : 0 < lk.length := List.length_pos_iff.2 hl
        have hl1 : (0 : Int) < (lk.length : Int) := by omega
        have hl0 : decide ((0 : Int) < (lk.length : Int)) = true := decide_eq_true hl1
        clear hl
        go_wp2_with fail
        go_ret
        exact ⟨by rw [HF6.out]; rfl, HEND.out⟩
  have hb46 : (n.kind == 46) = false := by simpa using k46
  have HF7 : Hid (ov = 0) := by
    show _ = _
    rw [HONE.out]
    unfold faultN
    rw [if_neg k2, if_neg k3, if_neg k42, if_neg k46]
  clear k2 k3 k42 k46 x4 x5 x6 x7
  go_wp2_with fail
  go_ret
  exact ⟨by rw [HF7.out]; rfl, HEND.out⟩
end Go.Proofs.YtnegdmhmhdojbaaDoor
