/-
  Contracts: declarations of arrays, valid programs (package ontimeref12).
-/
import Derived.Test.YtfkegjdgbnkicaaDoorPrgValid
namespace Go.Proofs.YtfkegjdgbnkicaaDoor
open Go.RowKit
set_option maxRecDepth 100000

set_option maxHeartbeats 2000000 in
theorem refArrays_any (l : List Arr) (m : Nat) (w : World) (a : Option Addr) (c : Nat) (hl : ArrsAt w a l) (hm : m ≤ 1000) :
    Calls Tryd.prog 51 #[.slice a l.length c, .int .i64 (m : Nat)] w fun e w' => e = .returned (.bool (decide (l.length ≤ m) && l.all arrOk)) ∧ Below w.heap.size w w' := by
  have HL := Lib.hid hl.2
  have hlen := hl.1
  clear hl
  by_cases h1 : m < l.length
  · have h1d : decide (m < l.length) = true := by simpa using h1
    have HE : Hid ((decide (l.length ≤ m) && l.all arrOk) = false) := by show _ = _; simp [show ¬ l.length ≤ m by omega]
    go_enter Tryd.func51, Tryd.ntmps51
    go_wp2_with fail
    go_ret
    exact ⟨by rw [HE.out]; rfl, Below.refl _ _⟩
  have h1' : l.length ≤ m := by omega
  have h1d : decide (m < l.length) = false := by simpa using h1'
  have HE : Hid ((decide (l.length ≤ m) && l.all arrOk) = l.all arrOk) := by show _ = _; simp [h1']
  clear h1
  go_enter Tryd.func51, Tryd.ntmps51
  go_wp2_with fail
  go_loopw [5] (fun i wr => ∃ j : Nat, j ≤ l.length ∧ i = .int .i64 j ∧ (l.take j).all arrOk = true ∧ Below w.heap.size w wr) (fun i _ => l.length - (intOf i).toNat)
  case atStart => exact ⟨0, Nat.zero_le _, rfl, rfl, Below.refl _ _⟩
  case round =>
    obtain ⟨j, hj, rfl, hall, hB⟩ := hrel
    have HA := Lib.hid hall
    clear hall
    have hsz := hB.size
    by_cases hlt : j < l.length
    · obtain ⟨b, off, rfl, q1, q2, q3, q4⟩ := HL.out j hlt
      obtain ⟨x, hx⟩ : ∃ x, l.getD j Arr.none = x := ⟨_, rfl⟩
      rw [hx] at q1 q2 q3 q4
      have f1 := cell_below hB q1
      have f2 := cell_below hB q2
      have HX := Lib.hid hx
      have HF2 := Lib.hid f2
      have hj0 : (0 : Int) ≤ (j : Int) := by omega
      have hj1 : (j : Int) < (l.length : Int) := by omega
      clear hx q1 q2 q4
      go_wp2_with fail
      refine (refName_any x.name _ q3).mono ?_
      rintro e w1 ⟨he, hB1⟩
      have f2' := cell_below hB1 HF2.out
      have hB2 := hB.trans (hB1.mono hsz)
      clear hB1 f1 f2
      have HNEXT : Hid (arrOk x = true → (l.take (j + 1)).all arrOk = true) := fun h => by rw [all_next arrOk l Arr.none j hlt, HA.out, HX.out, h]; rfl
      have HSTOP : Hid (arrOk x = false → l.all arrOk = false) := fun h => all_stop arrOk l Arr.none j hlt (by rw [HX.out, h])
      cases hn : nm x.name with
      | false =>
        obtain rfl : e = .returned (.bool false) := by rw [he]; exact congrArg _ (congrArg _ hn)
        have HN := Lib.hid (HSTOP.out (by unfold arrOk; rw [hn]; rfl))
        clear he hn
        go_wp2_with fail
        go_ret
        exact ⟨by rw [HE.out, HN.out]; rfl, hB2⟩
      | true =>
        obtain rfl : e = .returned (.bool true) := by rw [he]; exact congrArg _ (congrArg _ hn)
        have HNM := Lib.hid hn
        clear he hn
        by_cases h2 : x.len < 1
        · have HN := Lib.hid (HSTOP.out (by unfold arrOk; simp [show ¬ 1 ≤ x.len by omega]))
          go_wp2_with fail
          go_ret
          exact ⟨by rw [HE.out, HN.out]; rfl, hB2⟩
        · have h2' : 1 ≤ x.len := by omega
          have h2d : decide (x.len < 1) = false := by simpa using h2'
          clear h2
          by_cases h3 : 32 < x.len
          · have h3d : decide (32 < x.len) = true := by simpa using h3
            have HN := Lib.hid (HSTOP.out (by unfold arrOk; simp [show ¬ x.len ≤ 32 by omega]))
            go_wp2_with fail
            go_ret
            exact ⟨by rw [HE.out, HN.out]; rfl, hB2⟩
          · have h3' : x.len ≤ 32 := by omega
            have h3d : decide (32 < x.len) = false := by simpa using h3'
            clear h3
            have HN := Lib.hid (HNEXT.out (by unfold arrOk; rw [HNM.out]; simp [h2', h3']))
            go_wp2_with fail
            go_roundw
            case rel => exact ⟨j + 1, by omega, by go_num, HN.out, hB2⟩
            case measure => simp [intOf]; omega
    · obtain rfl : j = l.length := by omega
      have HN : Hid (l.all arrOk = true) := by have := HA.out; rw [List.take_length] at this; exact this
      go_wp2_with fail
      go_ret
      exact ⟨by rw [HE.out, HN.out]; rfl, hB⟩

set_option maxHeartbeats 4000000 in
theorem refValid_any (p : Prg) (w : World) (sa ta : Option Addr) (sc tc : Nat) (hp : PrgAt w p sa ta) (hsm : ∀ i, i < p.tasks.length → ¬ (p.tasks.getD i Tsk.none).body.big) :
    Calls Tryd.prog 38 #[p.val sa sc ta tc] w fun e w' => e = .returned (.bool (prgOk p)) ∧ Below w.heap.size w w' := by
  have HP := Lib.hid hp
  have HSM := Lib.hid hsm
  have HB0 : Hid (Below (w.heap.size + 1) (w.alloc (prgObj p sa sc ta tc)) (w.alloc (prgObj p sa sc ta tc))) := Below.refl _ _
  have hsl := hp.1.1
  have htl := hp.2.1
  clear hp hsm
  go_enter Tryd.func38, Tryd.ntmps38
  go_wp2_with fail
  refine (refArrays_any p.shared 4 _ sa sc (HP.out.1.below (ofBox HB0.out)) (by omega)).mono ?_
  rintro e w1 ⟨rfl, hB1⟩
  have HB1 := Lib.hid (HB0.out.trans (hB1.mono (box_size HB0.out)))
  have x1 : w1.cell? ⟨w.heap.size, 1, none⟩ = some (.slice ta p.tasks.length tc) := box_cell HB1.out 1
  clear hB1
  obtain ⟨q0, hq0⟩ : ∃ q, (decide (p.shared.length ≤ 4) && p.shared.all arrOk) = q := ⟨_, rfl⟩
  rw [hq0]
  have HQ0 := Lib.hid hq0
  clear hq0
  cases q0 with
  | false =>
    have HE : Hid (prgOk p = false) := by
      have h := HQ0.out
      show _ = _
      unfold prgOk
      cases h1 : decide (p.shared.length ≤ 4) <;> cases h2 : p.shared.all arrOk <;> simp_all
    go_wp2_with fail
    go_ret
    exact ⟨by rw [HE.out]; rfl, ofBox HB1.out⟩
  | true =>
  by_cases h2 : 8 < p.tasks.length
  · have h2d : decide (8 < p.tasks.length) = true := by simpa using h2
    have h2di : decide ((8 : Int) < (p.tasks.length : Int)) = true := by simp; omega
    have HE : Hid (prgOk p = false) := by show _ = _; simp [prgOk, show ¬ p.tasks.length ≤ 8 by omega]
    go_wp2_with fail
    go_ret
    exact ⟨by rw [HE.out]; rfl, ofBox HB1.out⟩
  have h2' : p.tasks.length ≤ 8 := by omega
  have h2d : decide (8 < p.tasks.length) = false := by simpa using h2'
  have h2di : decide ((8 : Int) < (p.tasks.length : Int)) = false := by simp; omega
  clear h2 x1
  have x1 : w1.cell? ⟨w.heap.size, 1, none⟩ = some (.slice ta p.tasks.length tc) := box_cell HB1.out 1
  go_wp2_with fail
  go_loopw [3] (fun i wr => ∃ j : Nat, j ≤ p.tasks.length ∧ i = .int .i64 j ∧ (p.tasks.take j).all tskOk = true ∧ Below (w.heap.size + 1) (w.alloc (prgObj p sa sc ta tc)) wr) (fun i _ => p.tasks.length - (intOf i).toNat)
  case atStart => exact ⟨0, Nat.zero_le _, rfl, rfl, HB1.out⟩
  case round =>
    obtain ⟨j, hj, rfl, hall, hBx⟩ := hrel
    have HA := Lib.hid hall
    have HBX := Lib.hid hBx
    have hB := ofBox hBx
    have hsz := box_size hBx
    clear x1
    have x1 : wr.cell? ⟨w.heap.size, 1, none⟩ = some (.slice ta p.tasks.length tc) := box_cell hBx 1
    clear hall hBx
    by_cases hlt : j < p.tasks.length
    · obtain ⟨b, off, q, rfl, hc, hin⟩ := HP.out.2.2 j hlt
      obtain ⟨t, ht⟩ : ∃ t, p.tasks.getD j Tsk.none = t := ⟨_, rfl⟩
      have hsmall := HSM.out j hlt
      rw [ht] at hc hin hsmall
      obtain ⟨⟨g0, g1, g2, g3, g4, g5, g6, g7⟩, hbl⟩ := tsk_cells hB hc
      have HX := Lib.hid ht
      have HIN := Lib.hid hin
      have hvl := hin.vars.1
      have hal := hin.arrays.1
      have hsz1 := Tree.small hsmall
      have hnb := Tree.nest_le_depth t.body
      have HNM := Lib.hid hin.name
      have hj0 : (0 : Int) ≤ (j : Int) := by omega
      have hj1 : (j : Int) < (p.tasks.length : Int) := by omega
      clear hc hin ht hsmall
      -- the task's box
      have HBL : Hid (Below (wr.heap.size + 1) (wr.alloc (tskObj t q)) (wr.alloc (tskObj t q))) := Below.refl _ _
      have HTW : Hid (∀ W, Below (wr.heap.size + 1) (wr.alloc (tskObj t q)) W → Below (w.heap.size + 1) (w.alloc (prgObj p sa sc (some ⟨b, off, none⟩) tc)) W) := fun W h => HBX.out.trans ((ofBox h).mono hsz)
      go_wp2_with fail
      refine (refName_any t.name _ HNM.out).mono ?_
      rintro e w2 ⟨he, hB2⟩
      have HB2 := Lib.hid (HBL.out.trans (hB2.mono (by simp)))
      obtain ⟨y0, y1, y2, y3, y4, y5, y6, y7⟩ := box8 HB2.out
      clear hB2 g0 g1 g2 g3 g4 g5 g6 g7 x1
      cases hn : nm t.name with
      | false =>
        obtain rfl : e = .returned (.bool false) := by rw [he]; exact congrArg _ (congrArg _ hn)
        have HE : Hid (prgOk p = false) := by show _ = _; simp only [prgOk, all_stop tskOk p.tasks Tsk.none j hlt (by rw [HX.out]; simp [tskOk, hn])]; simp
        clear he hn
        go_wp2_with fail
        go_ret
        exact ⟨by rw [HE.out]; rfl, ofBox (HTW.out _ HB2.out)⟩
      | true =>
      obtain rfl : e = .returned (.bool true) := by rw [he]; exact congrArg _ (congrArg _ hn)
      have HN := Lib.hid hn
      clear he hn
      by_cases h1 : t.period < 1
      · have HE : Hid (prgOk p = false) := by show _ = _; simp only [prgOk, all_stop tskOk p.tasks Tsk.none j hlt (by rw [HX.out]; simp [tskOk, show ¬ 1 ≤ t.period by omega])]; simp
        go_wp2_with fail
        go_ret
        exact ⟨by rw [HE.out]; rfl, ofBox (HTW.out _ HB2.out)⟩
      have h1' : 1 ≤ t.period := by omega
      have h1d : decide (t.period < 1) = false := by simpa using h1'
      clear h1
      by_cases h3 : 1000 < t.period
      · have h3d : decide (1000 < t.period) = true := by simpa using h3
        have HE : Hid (prgOk p = false) := by show _ = _; simp only [prgOk, all_stop tskOk p.tasks Tsk.none j hlt (by rw [HX.out]; simp [tskOk, show ¬ t.period ≤ 1000 by omega])]; simp
        go_wp2_with fail
        go_ret
        exact ⟨by rw [HE.out]; rfl, ofBox (HTW.out _ HB2.out)⟩
      have h3' : t.period ≤ 1000 := by omega
      have h3d : decide (1000 < t.period) = false := by simpa using h3'
      clear h3
      by_cases h4 : 12 < t.vars.length
      · have h4d : decide (12 < t.vars.length) = true := by simpa using h4
        have h4di : decide ((12 : Int) < (t.vars.length : Int)) = true := by simp; omega
        have HE : Hid (prgOk p = false) := by show _ = _; simp only [prgOk, all_stop tskOk p.tasks Tsk.none j hlt (by rw [HX.out]; simp [tskOk, show ¬ t.vars.length ≤ 12 by omega])]; simp
        go_wp2_with fail
        go_ret
        exact ⟨by rw [HE.out]; rfl, ofBox (HTW.out _ HB2.out)⟩
      have h4' : t.vars.length ≤ 12 := by omega
      have h4d : decide (12 < t.vars.length) = false := by simpa using h4'
      have h4di : decide ((12 : Int) < (t.vars.length : Int)) = false := by simp; omega
      clear h4
      go_wp2_with fail
      refine (refArrays_any t.arrays 4 _ q.aa q.ac ((HIN.out.arrays.below hB).below (ofBox HB2.out)) (by omega)).mono ?_
      rintro e w3 ⟨rfl, hB3⟩
      have HB3 := Lib.hid (HB2.out.trans (hB3.mono (box_size HB2.out)))
      clear hB3 y0 y1 y2 y3 y4 y5 y6 y7
      obtain ⟨y0, y1, y2, y3, y4, y5, y6, y7⟩ := box8 HB3.out
      obtain ⟨q1, hq1⟩ : ∃ q, (decide (t.arrays.length ≤ 4) && t.arrays.all arrOk) = q := ⟨_, rfl⟩
      rw [hq1]
      have HQ1 := Lib.hid hq1
      clear hq1
      cases q1 with
      | false =>
        have HE : Hid (prgOk p = false) := by
          have h : tskOk t = false := by
            have h := HQ1.out
            unfold tskOk
            cases h1 : decide (t.arrays.length ≤ 4) <;> cases h2 : t.arrays.all arrOk <;> simp_all
          show _ = _; simp only [prgOk, all_stop tskOk p.tasks Tsk.none j hlt (by rw [HX.out, h])]; simp
        go_wp2_with fail
        go_ret
        exact ⟨by rw [HE.out]; rfl, ofBox (HTW.out _ HB3.out)⟩
      | true =>
      go_wp2_with fail
      go_loopw [5] (fun i wi => ∃ k : Nat, k ≤ t.vars.length ∧ i = .int .i64 k ∧ (t.vars.take k).all nm = true ∧ Below (wr.heap.size + 1) (wr.alloc (tskObj t q)) wi) (fun i _ => t.vars.length - (intOf i).toNat)
      case atStart => exact ⟨0, Nat.zero_le _, rfl, rfl, HB3.out⟩
      case round =>
        obtain ⟨k, hk, rfl, hallk, hBk⟩ := hrel
        have HAK := Lib.hid hallk
        have HBK := Lib.hid hBk
        have hBi := ofBox hBk
        clear hallk hBk y0 y1 y2 y3 y4 y5 y6 y7
        obtain ⟨y0, y1, y2, y3, y4, y5, y6, y7⟩ := box8 HBK.out
        by_cases hkl : k < t.vars.length
        · obtain ⟨vb, vo, hva, v1, v2⟩ := HIN.out.vars.2 k hkl
          obtain ⟨s, hs⟩ : ∃ s, t.vars.getD k ⟨#[]⟩ = s := ⟨_, rfl⟩
          rw [hs] at v1 v2
          have f1 := cell_below hBi (cell_below hB v1)
          have HS := Lib.hid hs
          have hk0 : (0 : Int) ≤ (k : Int) := by omega
          have hk1 : (k : Int) < (t.vars.length : Int) := by omega
          rw [hva] at y2
          clear hs v1 hva
          go_wp2_with fail
          refine (refName_any s _ v2).mono ?_
          rintro e w4 ⟨he, hB4⟩
          have HB4 := Lib.hid (HBK.out.trans (hB4.mono (box_size HBK.out)))
          clear hB4
          cases hn : nm s with
          | false =>
            obtain rfl : e = .returned (.bool false) := by rw [he]; exact congrArg _ (congrArg _ hn)
            have HV : Hid (t.vars.all nm = false) := all_stop nm t.vars ⟨#[]⟩ k hkl (by rw [HS.out, hn])
            clear he hn
            have HE : Hid (prgOk p = false) := by show _ = _; simp only [prgOk, all_stop tskOk p.tasks Tsk.none j hlt (by rw [HX.out]; simp only [tskOk, HV.out]; simp)]; simp
            go_wp2_with fail
            go_ret
            exact ⟨by rw [HE.out]; rfl, ofBox (HTW.out _ HB4.out)⟩
          | true =>
            obtain rfl : e = .returned (.bool true) := by rw [he]; exact congrArg _ (congrArg _ hn)
            have HN2 : Hid ((t.vars.take (k + 1)).all nm = true) := by show _ = _; rw [all_next nm t.vars ⟨#[]⟩ k hkl, HAK.out, HS.out, hn]; rfl
            clear he hn
            go_wp2_with fail
            go_roundw
            case rel => exact ⟨k + 1, by omega, by go_num, HN2.out, HB4.out⟩
            case measure => simp [intOf]; omega
        · obtain rfl : k = t.vars.length := by omega
          have HV : Hid (t.vars.all nm = true) := by have := HAK.out; rw [List.take_length] at this; exact this
          clear HAK
          go_wp2_with fail
          refine (refBlock_any t.body _ q.ka q.kc ((HIN.out.body.below hB).below hBi)).mono ?_
          rintro e w4 ⟨rfl, hB4⟩
          have HB4 := Lib.hid (HBK.out.trans (hB4.mono (box_size HBK.out)))
          clear hB4 y0 y1 y2 y3 y4 y5 y6 y7
          obtain ⟨y0, y1, y2, y3, y4, y5, y6, y7⟩ := box8 HB4.out
          cases hb : t.body.vld 98 with
          | false =>
            have HVB := Lib.hid hb
            clear hb
            have HE : Hid (prgOk p = false) := by show _ = _; simp only [prgOk, all_stop tskOk p.tasks Tsk.none j hlt (by rw [HX.out]; simp only [tskOk, HVB.out]; simp)]; simp
            go_wp2_with fail
            go_ret
            exact ⟨by rw [HE.out]; rfl, ofBox (HTW.out _ HB4.out)⟩
          | true =>
          have HVB := Lib.hid hb
          clear hb
          go_wp2_with fail
          refine (refDepth_any t.body _ q.ka q.kc ((HIN.out.body.below hB).below (ofBox HB4.out)) (by omega)).mono ?_
          rintro e w5 ⟨rfl, hB5⟩
          have HB5 := Lib.hid (HB4.out.trans (hB5.mono (box_size HB4.out)))
          clear hB5 y0 y1 y2 y3 y4 y5 y6 y7
          obtain ⟨y0, y1, y2, y3, y4, y5, y6, y7⟩ := box8 HB5.out
          by_cases hdp : 16 < t.body.depth
          · have hdi : decide ((16 : Int) < (t.body.depth : Int)) = true := by simp; omega
            have hdd : decide (16 < t.body.depth) = true := by simpa using hdp
            have HE : Hid (prgOk p = false) := by show _ = _; simp only [prgOk, all_stop tskOk p.tasks Tsk.none j hlt (by rw [HX.out]; simp [tskOk, show ¬ t.body.depth ≤ 16 by omega])]; simp
            go_wp2_with fail
            go_ret
            exact ⟨by rw [HE.out]; rfl, ofBox (HTW.out _ HB5.out)⟩
          have hdp' : t.body.depth ≤ 16 := by omega
          have hdi : decide ((16 : Int) < (t.body.depth : Int)) = false := by simp; omega
          have hdd : decide (16 < t.body.depth) = false := by simpa using hdp'
          clear hdp
          go_wp2_with fail
          refine (refSize_any t.body _ q.ka q.kc ((HIN.out.body.below hB).below (ofBox HB5.out)) (by omega)).mono ?_
          rintro e w6 ⟨rfl, hB6⟩
          have HB6 := Lib.hid (HB5.out.trans (hB6.mono (box_size HB5.out)))
          clear hB6 y0 y1 y2 y3 y4 y5 y6 y7
          obtain ⟨y0, y1, y2, y3, y4, y5, y6, y7⟩ := box8 HB6.out
          by_cases hsp : 400 < t.body.size
          · have hsi : decide ((400 : Int) < (t.body.size : Int)) = true := by simp; omega
            have hsd : decide (400 < t.body.size) = true := by simpa using hsp
            have HE : Hid (prgOk p = false) := by show _ = _; simp only [prgOk, all_stop tskOk p.tasks Tsk.none j hlt (by rw [HX.out]; simp [tskOk, show ¬ t.body.size ≤ 400 by omega])]; simp
            go_wp2_with fail
            go_ret
            exact ⟨by rw [HE.out]; rfl, ofBox (HTW.out _ HB6.out)⟩
          have hsp' : t.body.size ≤ 400 := by omega
          have hsi : decide ((400 : Int) < (t.body.size : Int)) = false := by simp; omega
          have hsd : decide (400 < t.body.size) = false := by simpa using hsp'
          clear hsp
          go_wp2_with fail
          refine (refNest_any t.body _ q.ka q.kc ((HIN.out.body.below hB).below (ofBox HB6.out)) (by omega)).mono ?_
          rintro e w7 ⟨rfl, hB7⟩
          have HB7 := Lib.hid (HB6.out.trans (hB7.mono (box_size HB6.out)))
          clear hB7 y0 y1 y2 y3 y4 y5 y6 y7
          by_cases hnp : 4 < t.body.nest
          · have hni : decide ((4 : Int) < (t.body.nest : Int)) = true := by simp; omega
            have hnd : decide (4 < t.body.nest) = true := by simpa using hnp
            have HE : Hid (prgOk p = false) := by show _ = _; simp only [prgOk, all_stop tskOk p.tasks Tsk.none j hlt (by rw [HX.out]; simp [tskOk, show ¬ t.body.nest ≤ 4 by omega])]; simp
            go_wp2_with fail
            go_ret
            exact ⟨by rw [HE.out]; rfl, ofBox (HTW.out _ HB7.out)⟩
          have hnp' : t.body.nest ≤ 4 := by omega
          have hni : decide ((4 : Int) < (t.body.nest : Int)) = false := by simp; omega
          have hnd : decide (4 < t.body.nest) = false := by simpa using hnp'
          clear hnp
          have HTK : Hid (tskOk t = true) := by
            have h := HQ1.out
            rw [Bool.and_eq_true] at h
            show _ = _; simp only [tskOk, HN.out, HV.out, HVB.out, h.1, h.2, h1', h3', h4', hdp', hsp', hnp']; simp
          have HNX : Hid ((p.tasks.take (j + 1)).all tskOk = true) := by show _ = _; rw [all_next tskOk p.tasks Tsk.none j hlt, HA.out, HX.out, HTK.out]; rfl
          go_wp2_with fail
          go_roundw
          case rel => exact ⟨j + 1, by omega, by go_num, HNX.out, HTW.out _ HB7.out⟩
          case measure => simp [intOf]; omega
    · obtain rfl : j = p.tasks.length := by omega
      have HE : Hid (prgOk p = true) := by
        have := HA.out; rw [List.take_length] at this
        have h := HQ0.out
        show _ = _; unfold prgOk
        cases h1 : decide (p.shared.length ≤ 4) <;> cases h3 : p.shared.all arrOk <;> simp_all
      go_wp2_with fail
      go_ret
      exact ⟨by rw [HE.out]; rfl, hB⟩
end Go.Proofs.YtfkegjdgbnkicaaDoor
