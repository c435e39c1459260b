/-
  Contract: equal programs (package ontimeref12).
-/
import Derived.Test.YtfkegjdgbnkicaaDoorSame
import Derived.Deep.DeepCutAuto
import Derived.Deep.CutRange
namespace Go.Proofs.YtfkegjdgbnkicaaDoor
open Go.RowKit
set_option maxRecDepth 100000

/-- the boxes of two programs -/
abbrev wPP (w : World) (p q : Prg) (sa ta sa' ta' : Option Addr) (sc tc sc' tc' : Nat) : World := (w.alloc (prgObj p sa sc ta tc)).alloc (prgObj q sa' sc' ta' tc')
/-- two tasks in boxes -/
def TwoIn (wr : World) (t u : Tsk) (p q : TskPlace) (v6 v7 : Value) (w' : World) : Prop :=
  ∃ b6 b7, v6 = .pointer (some ⟨b6, 0, none⟩) ∧ v7 = .pointer (some ⟨b7, 0, none⟩) ∧ w'.heap[b6]? = some (tskObj t p) ∧ w'.heap[b7]? = some (tskObj u q) ∧ Below wr.heap.size wr w'

theorem two_heap {w : World} {o o' : Obj} : ((w.alloc o).alloc o').heap[w.heap.size]? = some o ∧ ((w.alloc o).alloc o').heap[w.heap.size + 1]? = some o' := by
  constructor
  · rw [Below.heap_alloc _ _ _ (by simp)]; exact World.alloc_heap_new w _
  · have := World.alloc_heap_new (w.alloc o) o'
    rw [World.size_alloc] at this
    exact this
theorem blk8 {w : World} {b : Nat} {x0 x1 x2 x3 x4 x5 x6 x7 : Value} {T : TypeId} (h : w.heap[b]? = some (.cells #[x0, x1, x2, x3, x4, x5, x6, x7] T)) :
    w.cell? ⟨b, 0, none⟩ = some x0 ∧ w.cell? ⟨b, 1, none⟩ = some x1 ∧ w.cell? ⟨b, 2, none⟩ = some x2 ∧ w.cell? ⟨b, 3, none⟩ = some x3 ∧ w.cell? ⟨b, 4, none⟩ = some x4 ∧ w.cell? ⟨b, 5, none⟩ = some x5 ∧ w.cell? ⟨b, 6, none⟩ = some x6 ∧ w.cell? ⟨b, 7, none⟩ = some x7 := by
  have hc : ∀ o, w.cell? ⟨b, o, none⟩ = (#[x0, x1, x2, x3, x4, x5, x6, x7] : Array Value)[o]? := by intro o; unfold World.cell?; simp only [h]; rfl
  exact ⟨hc 0, hc 1, hc 2, hc 3, hc 4, hc 5, hc 6, hc 7⟩
theorem heap_below {w w' : World} {b : Nat} {o : Obj} (hb : Below w.heap.size w w') (h : w.heap[b]? = some o) : w'.heap[b]? = some o := (hb.block b (Array.getElem?_eq_some_iff.1 h).1).trans h

set_option maxHeartbeats 4000000 in
theorem refSame_any (p q : Prg) (w : World) (sa ta sa' ta' : Option Addr) (sc tc sc' tc' : Nat) (hp : PrgAt w p sa ta) (hq : PrgAt w q sa' ta') :
    Calls Tryd.prog 40 #[p.val sa sc ta tc, q.val sa' sc' ta' tc'] w fun e w' => e = .returned (.bool (eqC p q)) ∧ Below w.heap.size w w' := by
  have HP := Lib.hid hp
  have HQ := Lib.hid hq
  have hpl := hp.2.1
  have hql := hq.2.1
  clear hp hq
  have HB0 : Hid (Below (w.heap.size + 1 + 1) (wPP w p q sa ta sa' ta' sc tc sc' tc') (wPP w p q sa ta sa' ta' sc tc sc' tc')) := Below.refl _ _
  go_enter Tryd.func40, Tryd.ntmps40
  go_wp2_with fail
  refine (refList_any p.shared q.shared _ sa sa' sc sc' (HP.out.1.below two_alloc) (HQ.out.1.below two_alloc)).mono ?_
  rintro e w1 ⟨rfl, hB1⟩
  have HB1 := Lib.hid (HB0.out.trans (hB1.mono (bb_size HB0.out)))
  have x1 : w1.cell? ⟨w.heap.size, 1, none⟩ = some (.slice ta p.tasks.length tc) := bb_cell HB1.out 1
  have y1 : w1.cell? ⟨w.heap.size + 1, 1, none⟩ = some (.slice ta' q.tasks.length tc') := bb_cell' HB1.out 1
  clear hB1
  cases hv : eqC p.shared q.shared with
  | false =>
    have HE : Hid (eqC p q = false) := eqC_false.2 (fun e => eqC_false.1 hv (by rw [e]))
    clear hv
    go_wp2_with fail
    go_ret
    exact ⟨by rw [HE.out]; rfl, ofBB HB1.out⟩
  | true =>
  have HV := Lib.hid (eqC_true.1 hv)
  clear hv
  by_cases hlen : p.tasks.length = q.tasks.length
  · have q0 : ((p.tasks.length : Int) != (q.tasks.length : Int)) = false := by simp [hlen]
    have HLEN := Lib.hid hlen
    have hle : p.tasks.length ≤ q.tasks.length := by omega
    clear hlen
    go_wp2_with fail
    go_loopw [5] (fun i wr => ∃ j : Nat, j ≤ p.tasks.length ∧ i = .int .i64 j ∧ p.tasks.take j = q.tasks.take j ∧ Below (w.heap.size + 1 + 1) (wPP w p q sa ta sa' ta' sc tc sc' tc') wr) (fun i _ => p.tasks.length - (intOf i).toNat)
    case atStart => exact ⟨0, Nat.zero_le _, rfl, rfl, HB1.out⟩
    case round =>
      obtain ⟨j, hj, rfl, htk, hBx⟩ := hrel
      have HTK := Lib.hid htk
      have HBX := Lib.hid hBx
      have hB := ofBB hBx
      have hsz := bb_size hBx
      clear htk x1 y1
      have x1 : wr.cell? ⟨w.heap.size, 1, none⟩ = some (.slice ta p.tasks.length tc) := bb_cell hBx 1
      have y1 : wr.cell? ⟨w.heap.size + 1, 1, none⟩ = some (.slice ta' q.tasks.length tc') := bb_cell' hBx 1
      clear hBx
      by_cases hlt : j < p.tasks.length
      · have hlm : j < q.tasks.length := by omega
        obtain ⟨b, off, pl, rfl, hc, hin⟩ := HP.out.2.2 j hlt
        obtain ⟨b', off', ql, rfl, hc', hin'⟩ := HQ.out.2.2 j hlm
        obtain ⟨t, ht⟩ : ∃ t, p.tasks.getD j Tsk.none = t := ⟨_, rfl⟩
        obtain ⟨u, hu⟩ : ∃ u, q.tasks.getD j Tsk.none = u := ⟨_, rfl⟩
        rw [ht] at hc hin
        rw [hu] at hc' hin'
        obtain ⟨⟨g0, g1, g2, g3, g4, g5, g6, g7⟩, hbl⟩ := tsk_cells hB hc
        obtain ⟨⟨k0, k1, k2, k3, k4, k5, k6, k7⟩, hbl'⟩ := tsk_cells hB hc'
        have HIN := Lib.hid (hin.below hB)
        have HIN' := Lib.hid (hin'.below hB)
        have HT := Lib.hid ht
        have HU := Lib.hid hu
        have hj0 : (0 : Int) ≤ (j : Int) := by omega
        have hj1 : (j : Int) < (p.tasks.length : Int) := by omega
        have hj2 : (j : Int) < (q.tasks.length : Int) := by omega
        have hlw : w.heap.size < wr.heap.size := by omega
        have hlw1 : w.heap.size + 1 < wr.heap.size := by omega
        clear hc hin hc' hin' ht hu
        go_wp2_with fail
        go_cut [6, 7] from 31 to 40 (fun v6 v7 w' => TwoIn wr t u pl ql v6 v7 w')
        case first =>
          go_region
          all_goals
            go_wp2_with fail
            go_meet
            case rel =>
              first
                | exact ⟨wr.heap.size, wr.heap.size + 1, rfl, rfl, two_heap.1, two_heap.2, two_alloc.drew⟩
                | exact ⟨wr.heap.size + 1, wr.heap.size, rfl, rfl, two_heap.2, two_heap.1, two_alloc.drew⟩
        case rest =>
          obtain ⟨b6, b7, rfl, rfl, h6, h7, hBc⟩ := hcut
          have H6 := Lib.hid h6
          have H7 := Lib.hid h7
          have HBC := Lib.hid hBc
          have HBP := Lib.hid (HBX.out.trans (hBc.mono hsz))
          obtain ⟨x60, x61, x62, x63, x64, x65, x66, x67⟩ := blk8 h6
          obtain ⟨x70, x71, x72, x73, x74, x75, x76, x77⟩ := blk8 h7
          have HNE : Hid ((¬ t.name = u.name ∨ ¬ t.period = u.period ∨ ¬ t.vars = u.vars ∨ ¬ t.arrays = u.arrays ∨ ¬ t.body = u.body) → eqC p q = false) := fun h => eqC_false.2 (fun e => by
            have htu : t = u := by rw [← HT.out, ← HU.out, e]
            subst htu; simp at h)
          clear hBc h6 h7 x1 y1 g0 g1 g2 g3 g4 g5 g6 g7 k0 k1 k2 k3 k4 k5 k6 k7
          by_cases h1 : ¬ t.name = u.name
          · have HE := Lib.hid (HNE.out (.inl h1))
            have e1 : (t.name.toList != u.name.toList) = true := by simpa using fun h => h1 (bytes_eq_iff.1 h)
            have e1' : (t.name.toList == u.name.toList) = false := by simpa using fun h => h1 (bytes_eq_iff.1 h)
            clear h1
            go_wp2_with fail
            go_ret
            exact ⟨by rw [HE.out]; rfl, ofBB HBP.out⟩
          have h1 := Classical.not_not.1 h1
          have H1 := Lib.hid h1
          have e1 : (t.name.toList != u.name.toList) = false := by rw [h1]; simp
          have e1' : (t.name.toList == u.name.toList) = true := by rw [h1]; simp
          clear h1
          by_cases h2 : ¬ t.period = u.period
          · have HE := Lib.hid (HNE.out (.inr (.inl h2)))
            have e2 : (t.period != u.period) = true := by simpa using h2
            have e2' : (t.period == u.period) = false := by simpa using h2
            clear h2
            go_wp2_with fail
            go_ret
            exact ⟨by rw [HE.out]; rfl, ofBB HBP.out⟩
          have h2 := Classical.not_not.1 h2
          have H2 := Lib.hid h2
          have e2 : (t.period != u.period) = false := by rw [h2]; simp
          have e2' : (t.period == u.period) = true := by rw [h2]; simp
          clear h2
          by_cases h3 : ¬ t.vars.length = u.vars.length
          · have HE := Lib.hid (HNE.out (.inr (.inr (.inl (fun e => h3 (by rw [e]))))))
            have e3 : ((t.vars.length : Int) != (u.vars.length : Int)) = true := by simp; omega
            have e3' : ((t.vars.length : Int) == (u.vars.length : Int)) = false := by simp; omega
            clear h3
            go_wp2_with fail
            go_ret
            exact ⟨by rw [HE.out]; rfl, ofBB HBP.out⟩
          have h3 := Classical.not_not.1 h3
          have H3 := Lib.hid h3
          have e3 : ((t.vars.length : Int) != (u.vars.length : Int)) = false := by rw [h3]; simp
          have e3' : ((t.vars.length : Int) == (u.vars.length : Int)) = true := by rw [h3]; simp
          have h3le : t.vars.length ≤ u.vars.length := by omega
          have htv := HIN.out.vars.1
          have huv := HIN'.out.vars.1
          clear h3
          go_wp2_with fail
          refine (refList_any t.arrays u.arrays _ pl.aa ql.aa pl.ac ql.ac (HIN.out.arrays.below HBC.out) (HIN'.out.arrays.below HBC.out)).mono ?_
          rintro e w3 ⟨rfl, hB3⟩
          have HB3 := Lib.hid (HBC.out.trans (hB3.mono HBC.out.size))
          have HP3 := Lib.hid (HBP.out.trans (hB3.mono (bb_size HBP.out)))
          have H63 := Lib.hid (heap_below hB3 H6.out)
          have H73 := Lib.hid (heap_below hB3 H7.out)
          clear hB3 x60 x61 x62 x63 x64 x65 x66 x67 x70 x71 x72 x73 x74 x75 x76 x77
          obtain ⟨x60, x61, x62, x63, x64, x65, x66, x67⟩ := blk8 H63.out
          obtain ⟨x70, x71, x72, x73, x74, x75, x76, x77⟩ := blk8 H73.out
          cases ha : eqC t.arrays u.arrays with
          | false =>
            have HE := Lib.hid (HNE.out (.inr (.inr (.inr (.inl (eqC_false.1 ha))))))
            clear ha
            go_wp2_with fail
            go_ret
            exact ⟨by rw [HE.out]; rfl, ofBB HP3.out⟩
          | true =>
          have HAR := Lib.hid (eqC_true.1 ha)
          clear ha
          go_wp2_with fail
          refine (refEqual_any t.body u.body _ pl.ka ql.ka pl.kc ql.kc (HIN.out.body.below HB3.out) (HIN'.out.body.below HB3.out)).mono ?_
          rintro e w4 ⟨rfl, hB4⟩
          have HB4 := Lib.hid (HB3.out.trans (hB4.mono HB3.out.size))
          have HP4 := Lib.hid (HP3.out.trans (hB4.mono (bb_size HP3.out)))
          have H64 := Lib.hid (heap_below hB4 H63.out)
          have H74 := Lib.hid (heap_below hB4 H73.out)
          clear hB4 x60 x61 x62 x63 x64 x65 x66 x67 x70 x71 x72 x73 x74 x75 x76 x77
          obtain ⟨x60, x61, x62, x63, x64, x65, x66, x67⟩ := blk8 H64.out
          obtain ⟨x70, x71, x72, x73, x74, x75, x76, x77⟩ := blk8 H74.out
          cases hb : eqT t.body u.body with
          | false =>
            have HE := Lib.hid (HNE.out (.inr (.inr (.inr (.inr (eqT_false.1 hb))))))
            clear hb
            go_wp2_with fail
            go_ret
            exact ⟨by rw [HE.out]; rfl, ofBB HP4.out⟩
          | true =>
          have HBO := Lib.hid (eqT_true.1 hb)
          clear hb
          go_wp2_with fail
          go_loopw [8] (fun i wi => ∃ k : Nat, k ≤ t.vars.length ∧ i = .int .i64 k ∧ t.vars.take k = u.vars.take k ∧ Below w4.heap.size w4 wi) (fun i _ => t.vars.length - (intOf i).toNat)
          case atStart => exact ⟨0, Nat.zero_le _, rfl, rfl, Below.refl _ _⟩
          case round =>
            obtain ⟨k, hk, rfl, htk, hBi⟩ := hrel
            have HTV := Lib.hid htk
            have HBI := Lib.hid (HB4.out.trans (hBi.mono HB4.out.size))
            have HPI := Lib.hid (HP4.out.trans (hBi.mono (bb_size HP4.out)))
            clear x60 x61 x62 x63 x64 x65 x66 x67 x70 x71 x72 x73 x74 x75 x76 x77
            obtain ⟨x60, x61, x62, x63, x64, x65, x66, x67⟩ := blk8 (heap_below hBi H64.out)
            obtain ⟨x70, x71, x72, x73, x74, x75, x76, x77⟩ := blk8 (heap_below hBi H74.out)
            clear htk
            by_cases hkl : k < t.vars.length
            · have hkm : k < u.vars.length := by omega
              obtain ⟨vb, vo, hva, q1, _⟩ := HIN.out.vars.2 k hkl
              obtain ⟨vb', vo', hva', q2, _⟩ := HIN'.out.vars.2 k hkm
              obtain ⟨s, hs⟩ : ∃ s, t.vars.getD k ⟨#[]⟩ = s := ⟨_, rfl⟩
              obtain ⟨s', hs'⟩ : ∃ s, u.vars.getD k ⟨#[]⟩ = s := ⟨_, rfl⟩
              rw [hs] at q1
              rw [hs'] at q2
              have f1 := cell_below HBI.out q1
              have f2 := cell_below HBI.out q2
              have HS := Lib.hid hs
              have HS' := Lib.hid hs'
              have hk0 : (0 : Int) ≤ (k : Int) := by omega
              have hk1 : (k : Int) < (t.vars.length : Int) := by omega
              have hk2 : (k : Int) < (u.vars.length : Int) := by omega
              rw [hva] at x62
              rw [hva'] at x72
              clear hs hs' q1 q2 hva hva'
              by_cases he : s = s'
              · subst he
                have HN := Lib.hid (take_eq_next (d := ⟨#[]⟩) hkl hkm HTV.out (HS.out.trans HS'.out.symm))
                go_wp2_with fail
                go_quiet (fail)
                have hBq := fun n => below_drews hBi n
                go_wp2_with fail
                go_roundw
                case rel => exact ⟨k + 1, by omega, by go_num, HN.out, hBq _⟩
                case measure => simp [intOf]; omega
              · have hne : ¬ s.toList = s'.toList := fun h => he (bytes_eq_iff.1 h)
                have e4 : (s.toList == s'.toList) = false := by simpa using hne
                have e5 : (s.toList != s'.toList) = true := by simpa using hne
                have HE := Lib.hid (HNE.out (.inr (.inr (.inl (fun e => he (by rw [← HS.out, ← HS'.out, e]))))))
                clear he
                go_wp2_with fail
                go_quiet (fail)
                have hBq := fun n => below_drews (ofBB HPI.out) n
                go_wp2_with fail
                go_ret
                exact ⟨by rw [HE.out]; rfl, hBq _⟩
            · obtain rfl : k = t.vars.length := by omega
              have HTU : Hid (t = u) := tsk_ext H1.out H2.out (by have := HTV.out; rw [List.take_length, H3.out, List.take_length] at this; exact this) HAR.out HBO.out
              have HN := Lib.hid (take_eq_next (d := Tsk.none) hlt hlm HTK.out (by rw [HT.out, HU.out]; exact HTU.out))
              go_wp2_with fail
              go_roundw
              case rel => exact ⟨j + 1, by omega, by go_num, HN.out, HPI.out⟩
              case measure => simp [intOf]; omega
      · obtain rfl : j = p.tasks.length := by omega
        have HE : Hid (eqC p q = true) := eqC_true.2 (prg_ext HV.out (by have := HTK.out; rw [List.take_length, HLEN.out, List.take_length] at this; exact this))
        go_wp2_with fail
        go_ret
        exact ⟨by rw [HE.out]; rfl, hB⟩
  · have q0 : ((p.tasks.length : Int) != (q.tasks.length : Int)) = true := by simp; omega
    have HE : Hid (eqC p q = false) := eqC_false.2 (fun e => hlen (by rw [e]))
    clear hlen
    go_wp2_with fail
    go_ret
    exact ⟨by rw [HE.out]; rfl, ofBB HB1.out⟩
end Go.Proofs.YtfkegjdgbnkicaaDoor
