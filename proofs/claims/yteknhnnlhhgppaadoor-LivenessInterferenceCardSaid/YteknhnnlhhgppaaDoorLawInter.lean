/-
  LivenessInterference (package ontimelaw19): which registers interfere, and which instructions are dead, is what the reference says.
-/
import Derived.Test.YteknhnnlhhgppaaDoorInterRef
import Derived.Test.YteknhnnlhhgppaaDoorMg33
import Derived.Test.YteknhnnlhhgppaaDoorMg27
import Derived.Test.YteknhnnlhhgppaaDoorMg47
import Derived.Test.YteknhnnlhhgppaaDoorMg50
import Derived.Test.YteknhnnlhhgppaaDoorMg29
import Derived.Test.YteknhnnlhhgppaaDoorIrPlain
namespace Go.Proofs.YteknhnnlhhgppaaDoor
set_option linter.unusedVariables false
set_option linter.unusedSimpArgs false
open Go.RowKit
set_option maxRecDepth 100000
set_option maxHeartbeats 16000000

theorem inter_bits {D : Nat → Nat → Prop} {R a c s : Nat} (ha : a < R) (hc : c < R) (h : s.testBit c = true ↔ SymP D R a c) : s.testBit c = true ↔ ((D a c ∨ D c a) ∧ a ≠ c) := by
  rw [h]
  unfold SymP
  constructor
  · rintro (⟨h1, h2⟩ | ⟨_, h2, h3⟩)
    · exact ⟨.inl h1, fun e => h2 ⟨e, ha⟩⟩
    · exact ⟨.inr h3, h2⟩
  · rintro ⟨h1 | h1, h2⟩
    · exact .inl ⟨h1, fun e => h2 e.1⟩
    · exact .inr ⟨hc, h2, h1⟩
theorem interference_any (f : Fn) (aa ba : Option Addr) (ac bc : Nat) (w : World) (hf : FnAt w f aa ba) (hT : TabAt 0 Lib.deBruijn64tab w) :
    Calls Tryd.prog 9 #[fnVal f.name f.regs aa f.arrays.length ac ba f.blocks.length bc] w fun e w' => e = .returned (.bool true) ∧ Below w.heap.size w w' := by
  have HF := Lib.hid hf
  have HT := Lib.hid hT
  obtain ⟨n, hn⟩ : ∃ n, f.blocks.length = n := ⟨_, rfl⟩
  have HN := Lib.hid hn
  obtain ⟨W, hW⟩ : ∃ W : World, w.alloc (.cells #[.string f.name, .int .i64 f.regs, .slice aa f.arrays.length ac, .slice ba n bc] 25) = W := ⟨_, rfl⟩
  have HBW : Hid (Below w.heap.size w W) := by show Below _ _ _; rw [← hW]; exact mem_alloc _ _
  have HX : Hid (W.heap[w.heap.size]? = some (.cells #[.string f.name, .int .i64 f.regs, .slice aa f.arrays.length ac, .slice ba n bc] 25)) := by
    show _ = _
    rw [← hW]
    exact mem_new _ _
  have HXC : Hid (∀ w', Below W.heap.size W w' → (w'.cell? ⟨w.heap.size, 0, none⟩ = some (.string f.name) ∧ w'.cell? ⟨w.heap.size, 1, none⟩ = some (.int .i64 f.regs) ∧ w'.cell? ⟨w.heap.size, 2, none⟩ = some (.slice aa f.arrays.length ac) ∧ w'.cell? ⟨w.heap.size, 3, none⟩ = some (.slice ba n bc)) ∧ Below w.heap.size w w' ∧ FnAt w' f aa ba) := fun w' h => by
    have h9 := mem_keep HX.out h
    have h7 := mem_then HBW.out h
    exact ⟨⟨cell_heap h9 0, cell_heap h9 1, cell_heap h9 2, cell_heap h9 3⟩, h7, HF.out.below h7⟩
  obtain ⟨⟨x0, x1, x2, x3⟩, _, _⟩ := HXC.out W (Below.refl _ _)
  have QS : Hid (∀ w', FnAt w' f aa ba → Calls Tryd.prog 11 #[.agg #[.string f.name, .int .i64 f.regs, .slice aa f.arrays.length ac, .slice ba n bc]] w' (Tells (SmallF f) w')) := fun w' h => by
    have h9 := small_any f aa ba ac bc w' h
    rw [HN.out] at h9
    exact h9
  rw [hn]
  clear hf hT hn
  go_enter Tryd.func9, Tryd.ntmps9
  go_wp2_with fail
  clear hW x0 x1 x2 x3
  refine (awake_any _ (tab_keep HT.out HBW.out)).mono ?_
  rintro e w1 ⟨rfl, hB1⟩
  have HB1 := Lib.hid hB1
  obtain ⟨⟨x0, x1, x2, x3⟩, hbf, hfn⟩ := HXC.out w1 hB1
  have HBF1 := Lib.hid hbf
  have HFN1 := Lib.hid hfn
  clear hB1 hbf hfn
  go_wp2_with fail
  clear x0 x1 x2 x3
  refine (QS.out _ HFN1.out).mono ?_
  rintro e w2 ⟨r, rfl, hr, hB2⟩
  have HR := Lib.hid hr
  have HB2 : Hid (Below W.heap.size W w2) := below_step HB1.out hB2
  obtain ⟨⟨x0, x1, x2, x3⟩, hbf, hfn⟩ := HXC.out w2 HB2.out
  have HBF2 := Lib.hid hbf
  have HFN2 := Lib.hid hfn
  clear hr hB2 hbf hfn
  cases r with
  | false =>
    go_wp2_with fail
    refine (awake_any _ (tab_keep HT.out HBF2.out)).mono ?_
    rintro e w3 ⟨rfl, hB3⟩
    have HB3 : Hid (Below w.heap.size w w3) := below_step HBF2.out hB3
    clear hB3
    go_wp2_with fail
    go_ret
    exact ⟨rfl, HB3.out⟩
  | true =>
    have HSM := Lib.hid (HR.out.1 rfl)
    have HFIT := Lib.hid (small_fits HSM.out)
    have QP : Hid (∀ w', FnAt w' f aa ba → Calls Tryd.prog 13 #[.agg #[.string f.name, .int .i64 f.regs, .slice aa f.arrays.length ac, .slice ba n bc]] w' (fun e w'' => ∃ ba' bc', e = .returned (fnVal f.name f.regs aa f.arrays.length ac ba' n bc') ∧ FnAt w'' f aa ba' ∧ Below w'.heap.size w' w'')) := fun w' h => by
      have h9 := plain_any f aa ba ac bc w' h (by have := HFIT.out.1; omega) HFIT.out.2
      rw [HN.out] at h9
      exact h9
    have QM : Hid (∀ ba' bc' w', FnAt w' f aa ba' → Calls Tryd.prog 14 #[.agg #[.string f.name, .int .i64 f.regs, .slice aa f.arrays.length ac, .slice ba' n bc']] w' (Tells (FormF f) w')) := fun ba' bc' w' h => by
      have h9 := form_any f aa ba' ac bc' w' h HFIT.out.1 HFIT.out.2
      rw [HN.out] at h9
      exact h9
    by_cases hform : FormF f
    · have HFM := Lib.hid hform
      clear hform
      obtain ⟨R, hR⟩ : ∃ R : Nat, f.regs = (R : Int) := ⟨f.regs.toNat, (Int.toNat_of_nonneg HFM.out.r0).symm⟩
      have hR12 : R ≤ 12 := by have := HSM.out.rg; omega
      simp only [hR] at HX HXC QP QM ⊢
      have HREG := Lib.hid hR
      have HR12 := Lib.hid hR12
      have HFR : Hid (FormR f R) := by
        have h9 := HFM.out.small HSM.out.rg
        rw [hR, Int.toNat_natCast] at h9
        exact h9
      simp only [hR] at x1
      have QI : Hid (∀ w', FnAt w' f aa ba → Below w.heap.size w w' → Calls Tryd.prog 29 #[.agg #[.string f.name, .int .i64 (R : Int), .slice aa f.arrays.length ac, .slice ba n bc]] w' (InterEnd f R w')) := fun w' h hB => by
        have h9 := inter_any f R aa ba ac bc w' h HFM.out HREG.out HR12.out HFIT.out.1 HFIT.out.2 (tab_keep HT.out hB)
        rw [HREG.out, HN.out] at h9
        exact h9
      have QDD : Hid (∀ w', FnAt w' f aa ba → Calls Tryd.prog 36 #[.agg #[.string f.name, .int .i64 (R : Int), .slice aa f.arrays.length ac, .slice ba n bc]] w' (DeadEnd f R w')) := fun w' h => by
        have h9 := dead_any f R aa ba ac bc w' h HFM.out HREG.out HR12.out HSM.out.bl HSM.out.cd
        rw [HREG.out, HN.out] at h9
        exact h9
      clear hR hR12
      go_wp2_with fail
      clear x0 x1 x2 x3
      refine (QI.out _ HFN2.out HBF2.out).mono ?_
      rintro e w3 ⟨lv, lins, louts, lrows, lss, rfl, hlr, hll, hlm, hlsol, hlb, hl12, hB3⟩
      have HLR := Lib.hid hlr
      have HLL := Lib.hid hll
      have HLM := Lib.hid hlm
      have HLSOL := Lib.hid hlsol
      have HLB := Lib.hid hlb
      have HL12 := Lib.hid hl12
      have h1 : lrows.length = R := by have := congrArg List.length hlm; simp only [List.length_map] at this; omega
      have HLRN := Lib.hid h1
      obtain ⟨la, lc, rfl⟩ : ∃ a c, lv = .slice a R c := by
        obtain ⟨a9, c9, h9⟩ := hlr.val
        exact ⟨a9, c9, by rw [h9, h1]⟩
      have HB3 : Hid (Below W.heap.size W w3) := mem_then HB2.out hB3
      obtain ⟨⟨x0, x1, x2, x3⟩, hbf, hfn⟩ := HXC.out w3 HB3.out
      have HFN3 := Lib.hid hfn
      have HBF3 := Lib.hid hbf
      clear hlr hll hlm hlsol hlb hl12 hB3 h1 hbf hfn
      go_wp2_with fail
      clear x0 x1 x2 x3
      refine (QDD.out _ HFN3.out).mono ?_
      rintro e w4 ⟨dv, dins, douts, rfl, hdsol, hdrow, hB4⟩
      have HDSOL := Lib.hid hdsol
      obtain ⟨DD, hDD⟩ : ∃ DD, deadUp f douts f.blocks.length = DD := ⟨_, rfl⟩
      have HDD : Hid (deadUp f douts n = DD) := by show _ = _; rw [← HN.out]; exact hDD
      rw [hDD] at hdrow
      obtain ⟨da, dc, rfl⟩ := ownsRow_val hdrow
      have HDROW := Lib.hid hdrow
      have HB4 : Hid (Below W.heap.size W w4) := mem_then HB3.out hB4
      have HLR4 := Lib.hid (HLR.out.keep hB4)
      have HDLEN : Hid (DD.length ≤ 1000000) := by
        show _ ≤ _
        rw [← hDD]
        have h1 := deadUp_len (f := f) (outs := douts) HSM.out.cd f.blocks.length
        have h2 := HSM.out.bl
        have h3 : f.blocks.length * 20 ≤ 10 * 20 := Nat.mul_le_mul_right 20 h2
        omega
      obtain ⟨⟨x0, x1, x2, x3⟩, hbf, hfn⟩ := HXC.out w4 HB4.out
      have HFN4 := Lib.hid hfn
      have HBF4 := Lib.hid hbf
      clear hdsol hdrow hB4 hDD hbf hfn
      go_wp2_with fail
      clear x0 x1 x2 x3
      refine (QP.out _ HFN4.out).mono ?_
      rintro e w5 ⟨pa, pc, rfl, hf5, hB5⟩
      obtain ⟨V5, hV5⟩ : ∃ V5 : World, w5.alloc (.cells #[.string f.name, .int .i64 (R : Int), .slice aa f.arrays.length ac, .slice pa n pc] 36) = V5 := ⟨_, rfl⟩
      have HBV5 : Hid (Below w5.heap.size w5 V5) := by show Below _ _ _; rw [← hV5]; exact mem_alloc _ _
      have HM5 : Hid (V5.heap[w5.heap.size]? = some (.cells #[.string f.name, .int .i64 (R : Int), .slice aa f.arrays.length ac, .slice pa n pc] 36)) := by show _ = _; rw [← hV5]; exact mem_new _ _
      have HLR5 := Lib.hid (HLR4.out.keep (mem_then hB5 HBV5.out))
      have HDR5 := Lib.hid (ownsRow_below (ownsRow_below HDROW.out hB5) HBV5.out)
      have HFP5 := Lib.hid (hf5.below HBV5.out)
      have HB5 : Hid (Below W.heap.size W V5) := mem_then (mem_then HB4.out hB5) HBV5.out
      have KEEP : Hid (∀ w', Below V5.heap.size V5 w' → (w'.cell? ⟨w.heap.size, 0, none⟩ = some (.string f.name) ∧ w'.cell? ⟨w.heap.size, 1, none⟩ = some (.int .i64 (R : Int)) ∧ w'.cell? ⟨w.heap.size, 2, none⟩ = some (.slice aa f.arrays.length ac) ∧ w'.cell? ⟨w.heap.size, 3, none⟩ = some (.slice ba n bc)) ∧
          (w'.cell? ⟨w5.heap.size, 0, none⟩ = some (.string f.name) ∧ w'.cell? ⟨w5.heap.size, 1, none⟩ = some (.int .i64 (R : Int)) ∧ w'.cell? ⟨w5.heap.size, 2, none⟩ = some (.slice aa f.arrays.length ac) ∧ w'.cell? ⟨w5.heap.size, 3, none⟩ = some (.slice pa n pc)) ∧
          Below w.heap.size w w' ∧ FnAt w' f aa ba ∧ FnAt w' f aa pa) := fun w' h => by
        obtain ⟨hx, hbw, hfw⟩ := HXC.out w' (mem_then HB5.out h)
        have hm := mem_keep HM5.out h
        exact ⟨hx, ⟨cell_heap hm 0, cell_heap hm 1, cell_heap hm 2, cell_heap hm 3⟩, hbw, hfw, HFP5.out.below h⟩
      have m0 : V5.cell? ⟨w5.heap.size, 0, none⟩ = some (.string f.name) := cell_heap HM5.out 0
      have m1 : V5.cell? ⟨w5.heap.size, 1, none⟩ = some (.int .i64 (R : Int)) := cell_heap HM5.out 1
      have m2 : V5.cell? ⟨w5.heap.size, 2, none⟩ = some (.slice aa f.arrays.length ac) := cell_heap HM5.out 2
      have m3 : V5.cell? ⟨w5.heap.size, 3, none⟩ = some (.slice pa n pc) := cell_heap HM5.out 3
      clear hB5 hf5
      go_wp2_with fail
      clear hV5 m0 m1 m2 m3
      refine (QM.out _ _ _ HFP5.out).mono ?_
      rintro e w6 ⟨r6, rfl, hr6, hB6⟩
      obtain rfl : r6 = true := hr6.2 HFM.out
      have HB6 := Lib.hid hB6
      obtain ⟨⟨x0, x1, x2, x3⟩, _⟩ := KEEP.out w6 hB6
      have hr0 : (0 : Int) ≤ (R : Int) := by omega
      clear hr6 hB6
      go_wp2_with fail
      clear x0 x1 x2 x3
      have QRI : Hid (∀ (a c : Nat) (w' : World), Below V5.heap.size V5 w' → a < R → c < R → Calls Tryd.prog 37 #[.agg #[.string f.name, .int .i64 (R : Int), .slice aa f.arrays.length ac, .slice pa n pc], .int .i64 (a : Int), .int .i64 (c : Int)] w' (Tells ((lss.getD a 0).testBit c = true) w')) := fun a c w' h ha hc => by
        obtain ⟨_, _, _, _, hpw⟩ := KEEP.out w' h
        have h9 := interfere_any f aa pa ac pc R a c louts w' hpw HFIT.out.1 HFIT.out.2 HFR.out ha hc HLSOL.out.bo (fun k r hk hr => HLSOL.out.leaves HFR.out (List.getElem?_eq_getElem hk) hr)
        rw [HREG.out, ← inter_bits ha hc (HLB.out a c ha), HN.out] at h9
        exact h9
      have QRD : Hid (∀ (k i : Nat) (b : Blk) (w' : World), Below V5.heap.size V5 w' → f.blocks[k]? = some b → i < b.code.length → Calls Tryd.prog 38 #[.agg #[.string f.name, .int .i64 (R : Int), .slice aa f.arrays.length ac, .slice pa n pc], .int .i64 (k : Int), .int .i64 (i : Int)] w' (Tells (deadAt b (douts.getD k 0) i = true) w')) := fun k i b w' h hb hi => by
        obtain ⟨_, _, _, _, hpw⟩ := KEEP.out w' h
        have h9 := refdead_any f aa pa ac pc R k i (douts.getD k 0) b w' hpw HFIT.out.1 hb HFIT.out.2 hi HFR.out (HDSOL.out.bo k) (fun r hr => HDSOL.out.leaves HFR.out hb hr)
        rw [HREG.out, HN.out] at h9
        exact h9
      go_loopw [69] (fun i wr => ∃ j : Nat, j ≤ R ∧ i = .int .i64 (j : Int) ∧ Below V5.heap.size V5 wr) (fun i _ => R - (intOf i).toNat)
      case atStart => exact ⟨0, Nat.zero_le _, rfl, HB6.out⟩
      case round =>
        obtain ⟨j, hj, rfl, hbel⟩ := hrel
        have HBEL := Lib.hid hbel
        have hj0 : (0 : Int) ≤ (j : Int) := by omega
        have hR12 := HR12.out
        obtain ⟨⟨x0, x1, x2, x3⟩, _⟩ := KEEP.out wr hbel
        clear hbel
        by_cases hlt : j < R
        · have hlt2 : (j : Int) < (R : Int) := by omega
          obtain ⟨s, hs⟩ : ∃ s, lss.getD j 0 = s := ⟨_, rfl⟩
          have HS := Lib.hid hs
          have hsR : s < 2 ^ R := by
            rw [← hs, List.getD_eq_getElem?_getD, List.getElem?_eq_getElem (by rw [HLL.out]; exact hlt)]
            exact HL12.out _ (List.getElem_mem _)
          have HSR := Lib.hid hsR
          have HSE : Hid (listTo s R = listB s) := listTo_end hsR HR12.out
          have QRJ : Hid (∀ (c : Nat) (w' : World), Below V5.heap.size V5 w' → c < R → Calls Tryd.prog 37 #[.agg #[.string f.name, .int .i64 (R : Int), .slice aa f.arrays.length ac, .slice pa n pc], .int .i64 (j : Int), .int .i64 (c : Int)] w' (Tells (s.testBit c = true) w')) := fun c w' h hc => by
            have h9 := QRI.out j c w' h hlt hc
            rw [HS.out] at h9
            exact h9
          clear hs hsR
          go_wp2_with fail
          clear x0 x1 x2 x3
          obtain ⟨wo, hwo⟩ : ∃ wo : World, wo = wr := ⟨_, rfl⟩
          subst hwo
          go_loopw [9, 74] (fun l i wi => ∃ m : Nat, m ≤ R ∧ i = .int .i64 (m : Int) ∧ IntRow V5.heap.size wi l (listTo s m) ∧ Below V5.heap.size V5 wi) (fun _ i _ => R - (intOf i).toNat)
          case atStart => exact ⟨0, Nat.zero_le _, rfl, IntRow.nil, HBEL.out⟩
          case round =>
            obtain ⟨m, hm, rfl, hrow, hbi⟩ := hrel
            have HROW := Lib.hid hrow
            have HBI := Lib.hid hbi
            have hm0 : (0 : Int) ≤ (m : Int) := by omega
            obtain ⟨va, vc, rfl⟩ := hrow.val
            obtain ⟨ln, hln⟩ : ∃ ln, (listTo s m).length = ln := ⟨_, rfl⟩
            have HLN := Lib.hid hln
            have hll := listTo_len s m
            rw [hln] at HROW hll ⊢
            obtain ⟨⟨x0, x1, x2, x3⟩, ⟨m0, m1, m2, m3⟩, _⟩ := KEEP.out wr hbi
            clear hrow hbi hln
            by_cases hlm : m < R
            · have hlm2 : (m : Int) < (R : Int) := by omega
              go_wp2_with fail
              clear x0 x1 x2 x3 m0 m1 m2 m3
              refine (QRJ.out m _ HBI.out hlm).mono ?_
              rintro e w7 ⟨l, rfl, hl, hB7⟩
              have HPB := Lib.hid hl
              have HB7 : Hid (Below V5.heap.size V5 w7) := mem_then HBI.out hB7
              have HROW7 : Hid (IntRow V5.heap.size w7 (.slice va ln vc) (listTo s m)) := by
                show IntRow _ _ _ _
                have h9 := HROW.out
                exact h9.keep hB7
              clear hl hB7
              cases l with
              | false =>
                have HNX : Hid (listTo s (m + 1) = listTo s m) := listTo_no (by
                  cases h9 : s.testBit m with
                  | false => rfl
                  | true => have := HPB.out.2 h9; simp at this)
                go_wp2_with fail
                have HRN : IntRow V5.heap.size w7 (.slice va ln vc) (listTo s (m + 1)) := by rw [HNX.out]; exact HROW7.out
                exact ⟨⟨m + 1, by omega, by go_num, HRN, HB7.out⟩, by simp [intOf]; omega⟩
              | true =>
                have HNX : Hid (listTo s (m + 1) = listTo s m ++ [(m : Int)]) := listTo_yes (HPB.out.1 (by simp))
                obtain ⟨V, hV⟩ : ∃ V : World, w7.alloc (.cells #[.int .i64 (m : Int)] 3) = V := ⟨_, rfl⟩
                have HBV : Hid (Below w7.heap.size w7 V) := by show Below _ _ _; rw [← hV]; exact mem_alloc _ _
                have HC9 : Hid (V.cell? ⟨w7.heap.size, 0, none⟩ = some (.int .i64 (m : Int))) := by show _ = _; rw [← hV]; exact World.cell?_alloc_new _ _ _ 0
                have HROWV := Lib.hid (HROW7.out.keep HBV.out)
                have HBWV : Hid (Below V5.heap.size V5 V) := mem_then HB7.out HBV.out
                go_wp2_with (at_builtin; (refine wpList_append_int _ ?g1p (.tmp 81) (.tmp 83) ?g2p V5.heap.size (.slice va ln vc) (listTo s m) w7.heap.size (m : Int) ?a1p ?a2p ?a3p ?a4p ?a5p ?a6p ?_))
                case g1p => rfl
                case g2p => rfl
                case a1p => rfl
                case a2p => rfl
                case a3p => exact HROWV.out
                case a4p => exact HC9.out
                case a5p => have := HLN.out; have := HR12.out; omega
                case a6p => exact HBWV.out.size
                clear hV
                intro v8 w8 hn8 hg8 _
                have HR8 := Lib.hid hn8
                have HB8 : Hid (Below V5.heap.size V5 w8) := HBWV.out.grown hg8 HBWV.out.size (fun z hz => (HROWV.out.own hz).1)
                obtain ⟨ua, uc, rfl⟩ := hn8.val
                clear hn8 hg8
                go_wp2_with fail
                have HRN : IntRow V5.heap.size w8 (.slice ua ((listTo s m ++ [(m : Int)]).length) uc) (listTo s (m + 1)) := by rw [HNX.out]; exact HR8.out
                exact ⟨⟨m + 1, by omega, by go_num, HRN, HB8.out⟩, by simp [intOf]; omega⟩
            · obtain rfl : R = m := by omega
              have HIA : Hid (IntsAt wr (.slice va ln vc) (listB s)) := by
                show IntsAt _ _ _
                have h9 := HROW.out
                rw [HSE.out] at h9
                exact h9.at_
              have hR0 : 0 < R := by omega
              obtain ⟨u, hu⟩ := row_get (j := j) HLM.out (by rw [HLL.out]; exact hlt)
              have HLRI := Lib.hid (HLR5.out.keep HBI.out)
              obtain ⟨lg, rfl, _, _, _⟩ := own_some (by have h9 := HLRI.out.ro; rw [HLRN.out] at h9; exact h9) hR0
              have hcl := HLRI.out.cellAt hu
              have HUI : Hid (IntsAt wr u (listB s)) := by
                show IntsAt _ _ _
                have h9 := HLRI.out.get hu
                rw [HS.out] at h9
                exact h9
              clear x0 x1 x2 x3 m0 m1 m2 m3 hu
              obtain ⟨⟨x0, x1, x2, x3⟩, _⟩ := KEEP.out wr HBI.out
              go_wp2_with fail
              clear x0 x1 x2 x3 hcl
              refine (intsSame_any (listB s) u (.slice va ln vc) _ HUI.out HIA.out (by have := list_len s; omega)).mono ?_
              rintro e w7 ⟨rfl, hB7⟩
              have HB7 : Hid (Below V5.heap.size V5 w7) := mem_then HBI.out hB7
              clear hB7
              go_wp2_with fail
              exact ⟨⟨j + 1, by omega, by go_num, HB7.out⟩, by simp [intOf]; omega⟩
        · obtain rfl : R = j := by omega
          go_wp2_with fail
          clear x0 x1 x2 x3
          obtain ⟨wq, hwq⟩ : ∃ wq : World, wq = wr := ⟨_, rfl⟩
          subst hwq
          go_loopw [11, 97] (fun l i wi => ∃ k : Nat, k ≤ n ∧ i = .int .i64 (k : Int) ∧ wi.ownsRow V5.heap.size 80 2 l (deadUp f douts k).length ((deadUp f douts k).flatMap encP) ∧ Below V5.heap.size V5 wi) (fun _ i _ => n - (intOf i).toNat)
          case atStart => exact ⟨0, Nat.zero_le _, rfl, ⟨rfl, .inl ⟨rfl, rfl⟩⟩, HBEL.out⟩
          case round =>
            obtain ⟨k, hk, rfl, hrow, hbi⟩ := hrel
            have hk0 : (0 : Int) ≤ (k : Int) := by omega
            have hn10 : n ≤ 10 := by have := HSM.out.bl; have := HN.out; omega
            have hDl : (deadUp f douts k).length ≤ 200 := by
              have h1 := deadUp_len (f := f) (outs := douts) HSM.out.cd k
              have h3 : k * 20 ≤ 10 * 20 := Nat.mul_le_mul_right 20 (by omega)
              omega
            obtain ⟨D, hD⟩ : ∃ D, deadUp f douts k = D := ⟨_, rfl⟩
            rw [hD] at hrow hDl
            obtain ⟨va, vc, rfl⟩ := ownsRow_val hrow
            have HD := Lib.hid hD
            have HROW := Lib.hid hrow
            have HBI := Lib.hid hbi
            obtain ⟨⟨x0, x1, x2, x3⟩, _, hbw, hfw, _⟩ := KEEP.out wr hbi
            have HBWR := Lib.hid hbw
            clear hrow hbi hD hbw
            by_cases hlk : k < n
            · have hlk2 : (k : Int) < (n : Int) := by omega
              obtain ⟨b, hb⟩ : ∃ b, f.blocks[k]? = some b := ⟨_, List.getElem?_eq_getElem (by rw [HN.out]; exact hlk)⟩
              have HB := Lib.hid hb
              have hcl1 : b.code.length ≤ 20 := HSM.out.cd b (List.mem_of_getElem? hb)
              rcases hfw.blocks.at_ with hz | ⟨bb, off, rfl, hbk⟩
              · have := HN.out; omega
              obtain ⟨ca, cc, hba, _⟩ := hbk k b hb
              obtain ⟨c0, c1, c2, c3, c4⟩ := hba
              obtain ⟨V1, hV1⟩ : ∃ V1 : World, wr.alloc (.cells #[.slice ca b.code.length cc, .int .u8 b.kind, .int .i64 b.x, .int .i64 b.to, .int .i64 b.els] 43) = V1 := ⟨_, rfl⟩
              have HBV1 : Hid (Below wr.heap.size wr V1) := by show Below _ _ _; rw [← hV1]; exact mem_alloc _ _
              have HZ1 : Hid (V1.heap[wr.heap.size]? = some (.cells #[.slice ca b.code.length cc, .int .u8 b.kind, .int .i64 b.x, .int .i64 b.to, .int .i64 b.els] 43)) := by
                show _ = _
                rw [← hV1]
                exact mem_new _ _
              obtain ⟨d0, d1, d2, d3, d4⟩ := five_cells HZ1.out
              have HROW1 := Lib.hid (ownsRow_below HROW.out HBV1.out)
              have HB1V : Hid (Below V5.heap.size V5 V1) := mem_then HBI.out HBV1.out
              obtain ⟨o, ho⟩ : ∃ o, douts.getD k 0 = o := ⟨_, rfl⟩
              have HO := Lib.hid ho
              clear hb hbk hfw ho
              go_wp2_with fail
              clear hV1 x0 x1 x2 x3 c0 c1 c2 c3 c4 d0 d1 d2 d3 d4
              obtain ⟨wo, hwo⟩ : ∃ wo : World, wo = wr := ⟨_, rfl⟩
              subst hwo
              go_loopw [11, 105] (fun l i wi => ∃ m : Nat, m ≤ b.code.length ∧ i = .int .i64 (m : Int) ∧ wi.ownsRow V5.heap.size 80 2 l (D ++ upTo b o k m).length ((D ++ upTo b o k m).flatMap encP) ∧ Below V5.heap.size V5 wi) (fun _ i _ => b.code.length - (intOf i).toNat)
              case atStart => exact ⟨0, Nat.zero_le _, rfl, by rw [upTo_zero, List.append_nil]; exact HROW1.out, HB1V.out⟩
              case round =>
                obtain ⟨m, hm, rfl, hrow, hbi⟩ := hrel
                have hm0 : (0 : Int) ≤ (m : Int) := by omega
                have hLl : (D ++ upTo b o k m).length ≤ 300 := by
                  have h1 := upTo_len b o k m
                  rw [List.length_append]
                  omega
                obtain ⟨L, hL⟩ : ∃ L, D ++ upTo b o k m = L := ⟨_, rfl⟩
                rw [hL] at hrow hLl
                obtain ⟨ua, uc, rfl⟩ := ownsRow_val hrow
                have HL := Lib.hid hL
                have HROW2 := Lib.hid hrow
                have HBJ := Lib.hid hbi
                obtain ⟨_, ⟨m0, m1, m2, m3⟩, _⟩ := KEEP.out wr hbi
                clear hrow hbi hL
                by_cases hlm : m < b.code.length
                · have hlm2 : (m : Int) < (b.code.length : Int) := by omega
                  go_wp2_with fail
                  clear m0 m1 m2 m3
                  refine (QRD.out k m b _ HBJ.out HB.out hlm).mono ?_
                  rintro e w7 ⟨l, rfl, hl, hB7⟩
                  rw [HO.out] at hl
                  have HPB := Lib.hid hl
                  have HB7 : Hid (Below V5.heap.size V5 w7) := mem_then HBJ.out hB7
                  have HROW7 := Lib.hid (ownsRow_below HROW2.out hB7)
                  clear hl hB7
                  cases l with
                  | false =>
                    have HNX : Hid (D ++ upTo b o k (m + 1) = L) := by
                      show _ = _
                      rw [upTo_no (by
                        cases h9 : deadAt b o m with
                        | false => rfl
                        | true => have := HPB.out.2 h9; simp at this)]
                      exact HL.out
                    go_wp2_with fail
                    have HRN : w7.ownsRow V5.heap.size 80 2 (.slice ua L.length uc) (D ++ upTo b o k (m + 1)).length ((D ++ upTo b o k (m + 1)).flatMap encP) := by rw [HNX.out]; exact HROW7.out
                    exact ⟨⟨m + 1, by omega, by go_num, HRN, HB7.out⟩, by simp [intOf]; omega⟩
                  | true =>
                    have HNX : Hid (D ++ upTo b o k (m + 1) = L ++ [pairKI k m]) := by
                      show _ = _
                      rw [upTo_yes (HPB.out.1 (by simp)), ← List.append_assoc, HL.out]
                    obtain ⟨j0, hj9, jz0, jz1, jz2⟩ := info_parts Tryd.infoPair
                    obtain ⟨V, hV⟩ : ∃ V : World, w7.alloc (.cells #[.int .i64 (k : Int), .int .i64 (m : Int)] 80) = V := ⟨_, rfl⟩
                    have HBV : Hid (Below w7.heap.size w7 V) := by show Below _ _ _; rw [← hV]; exact mem_alloc _ _
                    have HNV : Hid (V.heap[w7.heap.size]? = some (.cells #[.int .i64 (k : Int), .int .i64 (m : Int)] 80)) := by show _ = _; rw [← hV]; exact mem_new _ _
                    have HSRC : Hid (Src V (some ⟨w7.heap.size, 0, none⟩) 1 2 (encP (pairKI k m))) := ⟨rfl, .inr ⟨_, rfl, fun j u hu => by
                      rw [own_addr_add, Nat.zero_add, mem_cell HNV.out]
                      simpa [encP, pairKI] using hu⟩⟩
                    have HROWV := Lib.hid (ownsRow_below HROW7.out HBV.out)
                    have HB8 : Hid (Below V5.heap.size V5 V) := mem_then HB7.out HBV.out
                    have HNS : Hid (V5.heap.size ≤ V.heap.size) := HB8.out.size
                    obtain ⟨ln, hln⟩ : ∃ ln, L.length = ln := ⟨_, rfl⟩
                    have HLN := Lib.hid hln
                    rw [hln] at HROWV hLl ⊢
                    clear hln
                    go_wp2_with (at_builtin; refine wpList_append_src _ rfl (.tmp 112) (.tmp 116) 76 rfl V5.heap.size 80 j0 _ 2 16 Tryd.underlying76 hj9 jz0 jz1 jz2 rfl (by decide) (.slice ua ln uc) ln (L.flatMap encP) rfl HROWV.out (some ⟨w7.heap.size, 0, none⟩) 1 1 (encP (pairKI k m)) rfl HSRC.out (by intro u hu; simp [encP] at hu; rcases hu with rfl | rfl <;> rfl) (by unfold maxLen; omega) (by omega) HNS.out ?_)
                    intro v8 w8 r1 r2 _
                    have HR8 := Lib.hid r1
                    have HB9 : Hid (Below V5.heap.size V5 w8) := HB8.out.grown r2 HB8.out.size (fun z hz => (ownsRow_lt HROWV.out hz).1)
                    obtain ⟨ta, tc, rfl⟩ := ownsRow_val r1
                    clear r1 r2 hV
                    go_wp2_with fail
                    have HRN : w8.ownsRow V5.heap.size 80 2 (.slice ta (ln + 1) tc) (D ++ upTo b o k (m + 1)).length ((D ++ upTo b o k (m + 1)).flatMap encP) := by
                      rw [HNX.out, List.length_append, HLN.out, List.flatMap_append, List.flatMap_singleton]
                      exact HR8.out
                    exact ⟨⟨m + 1, by omega, by go_num, HRN, HB9.out⟩, by simp [intOf]; omega⟩
                · obtain rfl : m = b.code.length := by omega
                  have HNX : Hid (deadUp f douts (k + 1) = L) := by
                    show _ = _
                    rw [deadUp_succ HB.out, HD.out, HO.out]
                    exact HL.out
                  clear m0 m1 m2 m3
                  go_wp2_with fail
                  have HRN : wr.ownsRow V5.heap.size 80 2 (.slice ua L.length uc) (deadUp f douts (k + 1)).length ((deadUp f douts (k + 1)).flatMap encP) := by rw [HNX.out]; exact HROW2.out
                  exact ⟨⟨k + 1, by omega, by go_num, HRN, HBJ.out⟩, by simp [intOf]; omega⟩
            · obtain rfl : k = n := by omega
              have hDD : D = DD := by rw [← HD.out]; exact HDD.out
              subst hDD
              have HDR9 := Lib.hid (ownsRow_below HDR5.out HBI.out)
              clear hfw x0 x1 x2 x3
              go_wp2_with fail
              refine (eqpair_any D D.length _ _ (.slice da D.length dc) (.slice va D.length vc) wr rfl HDLEN.out HDR9.out HROW.out).mono ?_
              rintro e w7 ⟨rfl, q, hq⟩
              have HB7 : Hid (Below w.heap.size w w7) := by
                show Below _ _ _
                rw [hq]
                exact below_step HBWR.out ⟨rfl, rfl, rfl, Nat.le_refl _, fun _ _ => rfl⟩
              clear hq
              go_wp2_with fail
              go_ret
              exact ⟨rfl, HB7.out⟩
    · have HFM := Lib.hid hform
      clear hform
      have QI : Hid (∀ w', FnAt w' f aa ba → Calls Tryd.prog 29 #[.agg #[.string f.name, .int .i64 f.regs, .slice aa f.arrays.length ac, .slice ba n bc]] w' (fun e w'' => e = .returned (.tuple #[.slice none 0 0, .int .i64 3]) ∧ Below w'.heap.size w' w'')) := fun w' h => by
        have h9 := inter_none f aa ba ac bc w' h HFM.out HFIT.out.1 HFIT.out.2
        rw [HN.out] at h9
        exact h9
      have QDD : Hid (∀ w', FnAt w' f aa ba → Calls Tryd.prog 36 #[.agg #[.string f.name, .int .i64 f.regs, .slice aa f.arrays.length ac, .slice ba n bc]] w' (fun e w'' => e = .returned (.tuple #[.slice none 0 0, .int .i64 3]) ∧ Below w'.heap.size w' w'')) := fun w' h => by
        have h9 := dead_none f aa ba ac bc w' h HFM.out HFIT.out.1 HFIT.out.2
        rw [HN.out] at h9
        exact h9
      go_wp2_with fail
      clear x0 x1 x2 x3
      refine (QI.out _ HFN2.out).mono ?_
      rintro e w3 ⟨rfl, hB3⟩
      have HB3 : Hid (Below W.heap.size W w3) := mem_then HB2.out hB3
      obtain ⟨⟨x0, x1, x2, x3⟩, hbf, hfn⟩ := HXC.out w3 HB3.out
      have HFN3 := Lib.hid hfn
      clear hB3 hbf hfn
      go_wp2_with fail
      clear x0 x1 x2 x3
      refine (QDD.out _ HFN3.out).mono ?_
      rintro e w4 ⟨rfl, hB4⟩
      have HB4 : Hid (Below W.heap.size W w4) := mem_then HB3.out hB4
      obtain ⟨⟨x0, x1, x2, x3⟩, hbf, hfn⟩ := HXC.out w4 HB4.out
      have HFN4 := Lib.hid hfn
      clear hB4 hbf hfn
      go_wp2_with fail
      clear x0 x1 x2 x3
      refine (QP.out _ HFN4.out).mono ?_
      rintro e w5 ⟨pa, pc, rfl, hf5, hB5⟩
      obtain ⟨V5, hV5⟩ : ∃ V5 : World, w5.alloc (.cells #[.string f.name, .int .i64 f.regs, .slice aa f.arrays.length ac, .slice pa n pc] 36) = V5 := ⟨_, rfl⟩
      have HBV5 : Hid (Below w5.heap.size w5 V5) := by show Below _ _ _; rw [← hV5]; exact mem_alloc _ _
      have HM5 : Hid (V5.heap[w5.heap.size]? = some (.cells #[.string f.name, .int .i64 f.regs, .slice aa f.arrays.length ac, .slice pa n pc] 36)) := by show _ = _; rw [← hV5]; exact mem_new _ _
      have HFP5 := Lib.hid (hf5.below HBV5.out)
      have HB5 : Hid (Below W.heap.size W V5) := mem_then (mem_then HB4.out hB5) HBV5.out
      have m0 : V5.cell? ⟨w5.heap.size, 0, none⟩ = some (.string f.name) := cell_heap HM5.out 0
      have m1 : V5.cell? ⟨w5.heap.size, 1, none⟩ = some (.int .i64 f.regs) := cell_heap HM5.out 1
      have m2 : V5.cell? ⟨w5.heap.size, 2, none⟩ = some (.slice aa f.arrays.length ac) := cell_heap HM5.out 2
      have m3 : V5.cell? ⟨w5.heap.size, 3, none⟩ = some (.slice pa n pc) := cell_heap HM5.out 3
      clear hB5 hf5
      go_wp2_with fail
      clear hV5 m0 m1 m2 m3
      refine (QM.out _ _ _ HFP5.out).mono ?_
      rintro e w6 ⟨r6, rfl, hr6, hB6⟩
      obtain rfl : r6 = false := by
        cases r6 with
        | false => rfl
        | true => exact absurd (hr6.1 rfl) HFM.out
      have HB6 : Hid (Below w.heap.size w w6) := (HXC.out w6 (mem_then HB5.out hB6)).2.1
      clear hr6 hB6
      go_wp2_with fail
      go_ret
      exact ⟨rfl, HB6.out⟩
end Go.Proofs.YteknhnnlhhgppaaDoor
