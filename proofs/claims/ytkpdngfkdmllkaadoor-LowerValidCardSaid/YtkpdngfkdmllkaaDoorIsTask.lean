/-
  Contract: valid tasks (package ast).
-/
import Derived.Test.YtkpdngfkdmllkaaDoorAreArrays
import Derived.Test.YtkpdngfkdmllkaaDoorMg16
import Derived.Test.YtkpdngfkdmllkaaDoorMg17
namespace Go.Proofs.YtkpdngfkdmllkaaDoor
set_option linter.unusedVariables false
set_option linter.unusedSimpArgs false
open Go.RowKit
set_option maxRecDepth 100000

/-- a valid task -/
def tskOk (t : Tsk) : Bool := nm t.name && (decide (1 ≤ t.period) && (decide (t.period ≤ 1000) && (decide (t.vars.length ≤ 12) && (decide (t.arrays.length ≤ 4) && (t.arrays.all arrOk && (t.vars.all nm && (decide (t.body.depth ≤ 16 ∧ t.body.size ≤ 400) && (decide (t.body.nest ≤ 4) && t.body.vld 98))))))))

theorem Rep.toIn {w : World} : ∀ {t : Tree} {a : Option Addr}, Rep w t a → RepIn (fun k => k < w.heap.size) w t a := by
  intro t
  induction t using Tree.ind with
  | h t ih =>
    intro a h
    refine RepIn.mk h.fits ?_
    rcases h.kids with h0 | ⟨b, off, ha, hk⟩
    · exact .inl h0
    · by_cases hl : 0 < t.len
      · have hlt : b < w.heap.size := by obtain ⟨ai, ci, hn, _⟩ := hk 0 hl; exact hn.lt
        exact .inr ⟨b, off, ha, hlt, fun i hi => by obtain ⟨ai, ci, hn, hr⟩ := hk i hi; exact ⟨ai, ci, hn, ih i hi hr⟩⟩
      · exact .inl (by omega)

/-- the box of a task -/
abbrev tskObj (t : Tsk) (p : TskPlace) : Obj := .cells #[.string t.name, .int .i64 t.period, .slice p.va t.vars.length p.vc, .slice p.aa t.arrays.length p.ac, .int .u8 t.body.kind, .int .i64 t.body.num, .string t.body.name, .slice p.ka t.body.len p.kc] 37
theorem box8 {w wr : World} {x0 x1 x2 x3 x4 x5 x6 x7 : Value} {T : TypeId} (h : Below (w.heap.size + 1) (w.alloc (.cells #[x0, x1, x2, x3, x4, x5, x6, x7] T)) wr) :
    wr.cell? ⟨w.heap.size, 0, none⟩ = some x0 ∧ wr.cell? ⟨w.heap.size, 1, none⟩ = some x1 ∧ wr.cell? ⟨w.heap.size, 2, none⟩ = some x2 ∧ wr.cell? ⟨w.heap.size, 3, none⟩ = some x3 ∧
    wr.cell? ⟨w.heap.size, 4, none⟩ = some x4 ∧ wr.cell? ⟨w.heap.size, 5, none⟩ = some x5 ∧ wr.cell? ⟨w.heap.size, 6, none⟩ = some x6 ∧ wr.cell? ⟨w.heap.size, 7, none⟩ = some x7 :=
  ⟨box_cell h 0, box_cell h 1, box_cell h 2, box_cell h 3, box_cell h 4, box_cell h 5, box_cell h 6, box_cell h 7⟩

set_option maxHeartbeats 4000000 in
theorem isTask_any (t : Tsk) (p : TskPlace) (w : World) (ht : TskIn w t p) (hg : SignsIn w) :
    Calls Tryd.prog 44 #[.agg #[.string t.name, .int .i64 t.period, .slice p.va t.vars.length p.vc, .slice p.aa t.arrays.length p.ac, .int .u8 t.body.kind, .int .i64 t.body.num, .string t.body.name, .slice p.ka t.body.len p.kc]] w
      fun e w' => e = .returned (.bool (tskOk t)) ∧ Below w.heap.size w w' := by
  have HT := Lib.hid ht
  have HG := Lib.hid hg
  have HB0 : Hid (Below (w.heap.size + 1) (w.alloc (tskObj t p)) (w.alloc (tskObj t p))) := Below.refl _ _
  have HNM := Lib.hid ht.name
  have hvl := ht.vars.1
  have hal := ht.arrays.1
  clear ht hg
  go_enter Tryd.func44, Tryd.ntmps44
  go_wp2_with fail
  refine (name_any t.name _ HNM.out (HG.out.below (ofBox HB0.out))).mono ?_
  rintro e w1 ⟨he, hB1⟩
  have HB1 := Lib.hid (HB0.out.trans (hB1.mono (by simp)))
  obtain ⟨x0, x1, x2, x3, x4, x5, x6, x7⟩ := box8 HB1.out
  clear hB1
  cases hn : nm t.name with
  | false =>
    obtain rfl : e = .returned (.bool false) := by rw [he]; exact congrArg _ (congrArg _ hn)
    have HE : Hid (tskOk t = false) := by show _ = _; simp [tskOk, hn]
    clear he hn
    go_wp2_with fail
    go_ret
    exact ⟨by rw [HE.out]; rfl, ofBox HB1.out⟩
  | true =>
  obtain rfl : e = .returned (.bool true) := by rw [he]; exact congrArg _ (congrArg _ hn)
  have HN := Lib.hid hn
  clear he hn
  by_cases h1 : t.period < 1
  · have HE : Hid (tskOk t = false) := by show _ = _; simp [tskOk, show ¬ 1 ≤ t.period by omega]
    go_wp2_with fail
    go_ret
    exact ⟨by rw [HE.out]; rfl, ofBox HB1.out⟩
  have h1' : 1 ≤ t.period := by omega
  have h1d : decide (t.period < 1) = false := by simpa using h1'
  clear h1
  by_cases h2 : 1000 < t.period
  · have h2d : decide (1000 < t.period) = true := by simpa using h2
    have HE : Hid (tskOk t = false) := by show _ = _; simp [tskOk, show ¬ t.period ≤ 1000 by omega]
    go_wp2_with fail
    go_ret
    exact ⟨by rw [HE.out]; rfl, ofBox HB1.out⟩
  have h2' : t.period ≤ 1000 := by omega
  have h2d : decide (1000 < t.period) = false := by simpa using h2'
  clear h2
  by_cases h3 : 12 < t.vars.length
  · have h3d : decide (12 < t.vars.length) = true := by simpa using h3
    have h3i : decide ((12 : Int) < (t.vars.length : Int)) = true := by simp; omega
    have HE : Hid (tskOk t = false) := by show _ = _; simp [tskOk, show ¬ t.vars.length ≤ 12 by omega]
    go_wp2_with fail
    go_ret
    exact ⟨by rw [HE.out]; rfl, ofBox HB1.out⟩
  have h3' : t.vars.length ≤ 12 := by omega
  have h3d : decide (12 < t.vars.length) = false := by simpa using h3'
  have h3i : decide ((12 : Int) < (t.vars.length : Int)) = false := by simp; omega
  clear h3
  by_cases h4 : 4 < t.arrays.length
  · have h4d : decide (4 < t.arrays.length) = true := by simpa using h4
    have h4i : decide ((4 : Int) < (t.arrays.length : Int)) = true := by simp; omega
    have HE : Hid (tskOk t = false) := by show _ = _; simp [tskOk, show ¬ t.arrays.length ≤ 4 by omega]
    go_wp2_with fail
    go_ret
    exact ⟨by rw [HE.out]; rfl, ofBox HB1.out⟩
  have h4' : t.arrays.length ≤ 4 := by omega
  have h4d : decide (4 < t.arrays.length) = false := by simpa using h4'
  have h4i : decide ((4 : Int) < (t.arrays.length : Int)) = false := by simp; omega
  clear h4
  go_wp2_with fail
  refine (areArrays_any t.arrays _ p.aa p.ac (HT.out.arrays.below (ofBox HB1.out)) (HG.out.below (ofBox HB1.out))).mono ?_
  rintro e w2 ⟨rfl, hB2⟩
  have HB2 := Lib.hid (HB1.out.trans (hB2.mono (box_size HB1.out)))
  clear hB2 x0 x1 x2 x3 x4 x5 x6 x7
  obtain ⟨x0, x1, x2, x3, x4, x5, x6, x7⟩ := box8 HB2.out
  cases ha : t.arrays.all arrOk with
  | false =>
    have HE : Hid (tskOk t = false) := by show _ = _; simp only [tskOk, ha]; simp
    clear ha
    go_wp2_with fail
    go_ret
    exact ⟨by rw [HE.out]; rfl, ofBox HB2.out⟩
  | true =>
  have HAA := Lib.hid ha
  clear ha
  go_wp2_with fail
  go_loopw [4, 39] (fun _ i wr => ∃ j : Nat, j ≤ t.vars.length ∧ i = .int .i64 j ∧ (t.vars.take j).all nm = true ∧ Below (w.heap.size + 1) (w.alloc (tskObj t p)) wr) (fun _ i _ => t.vars.length - (intOf i).toNat)
  case atStart => exact ⟨0, Nat.zero_le _, rfl, rfl, HB2.out⟩
  case round =>
    obtain ⟨j, hj, rfl, hall, hBx⟩ := hrel
    have HA := Lib.hid hall
    have HBX := Lib.hid hBx
    have hB := ofBox hBx
    clear hall x0 x1 x2 x3 x4 x5 x6 x7
    by_cases hlt : j < t.vars.length
    · obtain ⟨b, off, hva, q1, q2⟩ := HT.out.vars.2 j hlt
      obtain ⟨s, hs⟩ : ∃ s, t.vars.getD j ⟨#[]⟩ = s := ⟨_, rfl⟩
      rw [hs] at q1 q2
      have f1 := (hB.cell (p := ⟨b, off + j, none⟩) (World.block_lt_of_cell? w _ q1)).trans q1
      have HX := Lib.hid hs
      clear hs q1 hBx
      rw [hva]
      go_wp2_with fail
      refine (name_any s _ q2 (HG.out.below hB)).mono ?_
      rintro e w3 ⟨he, hB3⟩
      have HB3 := Lib.hid (HBX.out.trans (hB3.mono (box_size HBX.out)))
      clear hB3
      cases hn : nm s with
      | false =>
        obtain rfl : e = .returned (.bool false) := by rw [he]; exact congrArg _ (congrArg _ hn)
        have HE : Hid (tskOk t = false) := by show _ = _; simp only [tskOk, all_stop nm t.vars ⟨#[]⟩ j hlt (by rw [HX.out, hn])]; simp
        clear he hn
        go_wp2_with fail
        go_ret
        exact ⟨by rw [HE.out]; rfl, ofBox HB3.out⟩
      | true =>
        obtain rfl : e = .returned (.bool true) := by rw [he]; exact congrArg _ (congrArg _ hn)
        have HN2 : Hid ((t.vars.take (j + 1)).all nm = true) := by show _ = _; rw [all_next nm t.vars ⟨#[]⟩ j hlt, HA.out, HX.out, hn]; rfl
        clear he hn
        go_wp2_with fail
        go_roundw
        case rel => exact ⟨j + 1, by omega, by go_num, HN2.out, HB3.out⟩
        case measure => simp [intOf]; omega
    · obtain rfl : j = t.vars.length := by omega
      have HV : Hid (t.vars.all nm = true) := by have := HA.out; rw [List.take_length] at this; exact this
      obtain ⟨x0, x1, x2, x3, x4, x5, x6, x7⟩ := box8 HBX.out
      have hzr := box_size HBX.out
      have hzl : w.heap.size < wr.heap.size := by omega
      clear hBx HA
      go_wp2_with fail
      have HBL : Hid (Below wr.heap.size wr (wr.alloc (.cells #[.int .i64 400] 3))) := (Below.refl _ _).alloc (Nat.le_refl _) _
      refine (isSmall_any t.body 16 400 wr.heap.size _ p.ka p.kc ((HT.out.body.below hB).toIn.move (fun k hk _ => HBL.out.block k hk) (fun k hk _ => by omega)) (by omega) (by omega) (World.alloc_heap_new wr _)).mono ?_
      rintro e w4 ⟨q, L', rfl, hK4, hl4, hq, hL4⟩
      have hBW4 : Below wr.heap.size wr w4 := HBL.out.trans (hK4.below (by simp) (fun k hk => by omega))
      have HB4 := Lib.hid (HBX.out.trans (hBW4.mono hzr))
      clear hK4 hl4 hL4 hBW4 x0 x1 x2 x3 x4 x5 x6 x7
      obtain ⟨x0, x1, x2, x3, x4, x5, x6, x7⟩ := box8 HB4.out
      cases q with
      | false =>
        have HE : Hid (tskOk t = false) := by show _ = _; simp only [tskOk, ← hq]; simp
        clear hq
        go_wp2_with fail
        go_ret
        exact ⟨by rw [HE.out]; rfl, ofBox HB4.out⟩
      | true =>
        have hsm : t.body.depth ≤ 16 ∧ t.body.size ≤ 400 := of_decide_eq_true hq.symm
        have HQ := Lib.hid hq
        have hnb := Tree.nest_le_depth t.body
        clear hq
        go_wp2_with fail
        refine (nest_any t.body _ p.ka p.kc (HT.out.body.below (ofBox HB4.out)) (by omega)).mono ?_
        rintro e w5 ⟨rfl, hB5⟩
        have HB5 := Lib.hid (HB4.out.trans (hB5.mono (box_size HB4.out)))
        clear hB5 x0 x1 x2 x3 x4 x5 x6 x7
        obtain ⟨x0, x1, x2, x3, x4, x5, x6, x7⟩ := box8 HB5.out
        by_cases hn4 : t.body.nest ≤ 4
        · have hn4d : decide ((t.body.nest : Int) ≤ 4) = true := by simp; omega
          go_wp2_with fail
          refine (isBlock_any t.body _ p.ka p.kc (HT.out.body.below (ofBox HB5.out)) (HG.out.below (ofBox HB5.out))).mono ?_
          rintro e w6 ⟨rfl, hB6⟩
          have HB6 := Lib.hid (HB5.out.trans (hB6.mono (box_size HB5.out)))
          clear hB6
          have HE : Hid (tskOk t = t.body.vld 98) := by show _ = _; simp only [tskOk, HN.out, HAA.out, HV.out, ← HQ.out, h1', h2', h3', h4', hn4]; simp
          go_wp2_with fail
          go_ret
          exact ⟨by rw [HE.out]; rfl, ofBox HB6.out⟩
        · have hn4d : decide ((t.body.nest : Int) ≤ 4) = false := by simp; omega
          have HE : Hid (tskOk t = false) := by show _ = _; simp [tskOk, hn4]
          go_wp2_with fail
          go_ret
          exact ⟨by rw [HE.out]; rfl, ofBox HB5.out⟩
end Go.Proofs.YtkpdngfkdmllkaaDoor
