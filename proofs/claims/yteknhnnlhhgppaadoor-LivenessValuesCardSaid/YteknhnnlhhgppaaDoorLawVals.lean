/-
  LivenessValues (package ontimelaw19): results are newly allocated, and the argument is not modified.
-/
import Derived.Test.YteknhnnlhhgppaaDoorValsRows
import Derived.Test.YteknhnnlhhgppaaDoorCopied19
import Derived.Test.YteknhnnlhhgppaaDoorIrEqual
import Derived.Test.YteknhnnlhhgppaaDoorLiveForm19
import Derived.Test.YteknhnnlhhgppaaDoorLiveAwake
import Derived.Deep.RegionHeld3
namespace Go.Proofs.YteknhnnlhhgppaaDoor
set_option linter.unusedVariables false
set_option linter.unusedSimpArgs false
open Go.RowKit
set_option maxRecDepth 100000
set_option maxHeartbeats 16000000

theorem vals_any (f : Fn) (aa ba : Option Addr) (ac bc : Nat) (w : World) (hf : FnAt w f aa ba) (hT : TabAt 0 Lib.deBruijn64tab w) :
    Calls Tryd.prog 6 #[fnVal f.name f.regs aa f.arrays.length ac ba f.blocks.length bc] w fun e w' => e = .returned (.bool true) ∧ Below w.heap.size w w' := by
  have HF := Lib.hid hf
  have HT := Lib.hid hT
  obtain ⟨n, hn⟩ : ∃ n, f.blocks.length = n := ⟨_, rfl⟩
  have HN := Lib.hid hn
  obtain ⟨W, hW⟩ : ∃ W : World, w.alloc (.cells #[.string f.name, .int .i64 f.regs, .slice aa f.arrays.length ac, .slice ba n bc] 25) = W := ⟨_, rfl⟩
  have HBW : Hid (Below w.heap.size w W) := by show Below _ _ _; rw [← hW]; exact (Below.refl _ _).alloc (Nat.le_refl _) _
  have HX : Hid (W.heap[w.heap.size]? = some (.cells #[.string f.name, .int .i64 f.regs, .slice aa f.arrays.length ac, .slice ba n bc] 25)) := by
    show _ = _
    rw [← hW]
    exact (MapKept.heap_alloc w _).1
  have HXC : Hid (∀ w', Below W.heap.size W w' → (w'.cell? ⟨w.heap.size, 0, none⟩ = some (.string f.name) ∧ w'.cell? ⟨w.heap.size, 1, none⟩ = some (.int .i64 f.regs) ∧ w'.cell? ⟨w.heap.size, 2, none⟩ = some (.slice aa f.arrays.length ac) ∧ w'.cell? ⟨w.heap.size, 3, none⟩ = some (.slice ba n bc)) ∧ Below w.heap.size w w' ∧ FnAt w' f aa ba) := fun w' h => by
    have h9 := (h.block _ (lt_heap HX.out)).trans HX.out
    have h7 := HBW.out.trans (h.mono HBW.out.size)
    exact ⟨⟨cell_heap h9 0, cell_heap h9 1, cell_heap h9 2, cell_heap h9 3⟩, h7, HF.out.below h7⟩
  obtain ⟨⟨x0, x1, x2, x3⟩, _, _⟩ := HXC.out W (Below.refl _ _)
  have QS : Hid (∀ w', FnAt w' f aa ba → Calls Tryd.prog 20 #[.agg #[.string f.name, .int .i64 f.regs, .slice aa f.arrays.length ac, .slice ba n bc]] w' (Tells (SmallF f ∧ FormF f) w')) := fun w' h => by
    have h9 := formLaw_any f aa ba ac bc w' h
    rw [HN.out] at h9
    exact h9
  rw [hn]
  clear hf hT hn
  go_enter Tryd.func6, Tryd.ntmps6
  go_wp2_with fail
  clear hW x0 x1 x2 x3
  refine (awake_any _ (tab_keep HT.out HBW.out)).mono ?_
  rintro e w1 ⟨rfl, hB1⟩
  have HB1 := Lib.hid hB1
  obtain ⟨⟨x0, x1, x2, x3⟩, hbf, hfn⟩ := HXC.out w1 hB1
  have HBF1 := Lib.hid hbf
  have HFN1 := Lib.hid hfn
  clear hB1 hbf hfn
  go_wp2_with fail
  clear x0 x1 x2 x3
  refine (QS.out _ HFN1.out).mono ?_
  rintro e w2 ⟨r, rfl, hr, hB2⟩
  have HR := Lib.hid hr
  have HB2 : Hid (Below W.heap.size W w2) := below_step HB1.out hB2
  obtain ⟨⟨x0, x1, x2, x3⟩, hbf, hfn⟩ := HXC.out w2 HB2.out
  have HBF2 := Lib.hid hbf
  have HFN2 := Lib.hid hfn
  clear hr hB2 hbf hfn
  cases r with
  | false =>
    go_wp2_with fail
    refine (awake_any _ (tab_keep HT.out HBF2.out)).mono ?_
    rintro e w3 ⟨rfl, hB3⟩
    have HB3 : Hid (Below w.heap.size w w3) := below_step HBF2.out hB3
    clear hB3
    go_wp2_with fail
    go_ret
    exact ⟨rfl, HB3.out⟩
  | true =>
    have HSM := Lib.hid (HR.out.1 rfl).1
    have HFM := Lib.hid (HR.out.1 rfl).2
    have HFIT := Lib.hid (small_fits HSM.out)
    obtain ⟨R, hR⟩ : ∃ R : Nat, f.regs = (R : Int) := ⟨f.regs.toNat, (Int.toNat_of_nonneg HFM.out.r0).symm⟩
    have hR12 : R ≤ 12 := by have := HSM.out.rg; omega
    simp only [hR] at HX HXC ⊢
    have HREG := Lib.hid hR
    have HR12 := Lib.hid hR12
    have HFR : Hid (FormR f R) := by
      have h9 := HFM.out.small HSM.out.rg
      rw [hR, Int.toNat_natCast] at h9
      exact h9
    simp only [hR] at x1
    have QO : Hid (∀ w', FnAt w' f aa ba → Below w.heap.size w w' → Calls Tryd.prog 12 #[.agg #[.string f.name, .int .i64 (R : Int), .slice aa f.arrays.length ac, .slice ba n bc]] w' (OfEnd f R w')) := fun w' h hB => by
      have h9 := of_any f R aa ba ac bc w' h HFM.out HREG.out HR12.out HFIT.out.1 HFIT.out.2 (tab_keep HT.out hB)
      rw [HREG.out, HN.out] at h9
      exact h9
    have QI : Hid (∀ w', FnAt w' f aa ba → Below w.heap.size w w' → Calls Tryd.prog 29 #[.agg #[.string f.name, .int .i64 (R : Int), .slice aa f.arrays.length ac, .slice ba n bc]] w' (InterEnd f R w')) := fun w' h hB => by
      have h9 := inter_any f R aa ba ac bc w' h HFM.out HREG.out HR12.out HFIT.out.1 HFIT.out.2 (tab_keep HT.out hB)
      rw [HREG.out, HN.out] at h9
      exact h9
    have QCP : Hid (Calls Tryd.prog 25 #[.agg #[.string f.name, .int .i64 (R : Int), .slice aa f.arrays.length ac, .slice ba n bc]] w2 fun e w' => ∃ (g bc' : Nat) (l : List BlkP), e = .returned (fnVal f.name (R : Int) aa f.arrays.length ac (some ⟨g, 0, none⟩) n bc') ∧
        BlkOwn w2.heap.size 43 54 w' (.slice (some ⟨g, 0, none⟩) n bc') l ∧ l.map (·.blk) = f.blocks ∧ Below w2.heap.size w2 w') := by
      have h9 := copied19_any f aa ba ac bc w2 HFN2.out HFM.out.one (by have := HFIT.out.1; omega) HFIT.out.2
      rw [HREG.out, HN.out] at h9
      exact h9
    clear hR hR12
    have hn0 : 0 < n := by have := HFM.out.one; have := HN.out; omega
    have HN0 := Lib.hid hn0
    have hnb : n ≤ 1000 := by have := HFIT.out.1; have := HN.out; omega
    have HNB := Lib.hid hnb
    go_wp2_with fail
    clear x0 x1 x2 x3
    refine QCP.out.mono ?_
    rintro e w3 ⟨g, bc', l0, rfl, hown3, hl0, hB3⟩
    have HGF3 : Hid (FnAt w3 f aa (some ⟨g, 0, none⟩)) := by
      have hll : l0.length = n := by have := congrArg List.length hl0; rw [List.length_map] at this; rw [this, HN.out]
      obtain ⟨a9, c9, e9, hb9, _⟩ := hown3.toRow.blks (by rw [hll]; omega)
      injection e9 with e9
      subst e9
      rw [hl0] at hb9
      have hf9 := HFN2.out.below hB3
      exact ⟨hf9.arrays, hb9, hf9.regs, hf9.name⟩
    obtain ⟨V3, hV3⟩ : ∃ V3 : World, w3.alloc (.cells #[.string f.name, .int .i64 (R : Int), .slice aa f.arrays.length ac, .slice (some ⟨g, 0, none⟩) n bc'] 25) = V3 := ⟨_, rfl⟩
    have HBV3 : Hid (Below w3.heap.size w3 V3) := by show Below _ _ _; rw [← hV3]; exact (Below.refl _ _).alloc (Nat.le_refl _) _
    have HG3 : Hid (V3.heap[w3.heap.size]? = some (.cells #[.string f.name, .int .i64 (R : Int), .slice aa f.arrays.length ac, .slice (some ⟨g, 0, none⟩) n bc'] 25)) := by show _ = _; rw [← hV3]; exact (MapKept.heap_alloc w3 _).1
    have HB3 : Hid (Below W.heap.size W V3) := below_step (below_step HB2.out hB3) HBV3.out
    have K3 : Hid (∀ w', Below V3.heap.size V3 w' → (w'.cell? ⟨w.heap.size, 0, none⟩ = some (.string f.name) ∧ w'.cell? ⟨w.heap.size, 1, none⟩ = some (.int .i64 (R : Int)) ∧ w'.cell? ⟨w.heap.size, 2, none⟩ = some (.slice aa f.arrays.length ac) ∧ w'.cell? ⟨w.heap.size, 3, none⟩ = some (.slice ba n bc)) ∧
        (w'.cell? ⟨w3.heap.size, 0, none⟩ = some (.string f.name) ∧ w'.cell? ⟨w3.heap.size, 1, none⟩ = some (.int .i64 (R : Int)) ∧ w'.cell? ⟨w3.heap.size, 2, none⟩ = some (.slice aa f.arrays.length ac) ∧ w'.cell? ⟨w3.heap.size, 3, none⟩ = some (.slice (some ⟨g, 0, none⟩) n bc')) ∧
        Below w.heap.size w w' ∧ FnAt w' f aa ba ∧ FnAt w' f aa (some ⟨g, 0, none⟩)) := fun w' h => by
      obtain ⟨hx, hbw, hfw⟩ := HXC.out w' (below_step HB3.out h)
      have hg := (h.block _ (lt_heap HG3.out)).trans HG3.out
      exact ⟨hx, ⟨cell_heap hg 0, cell_heap hg 1, cell_heap hg 2, cell_heap hg 3⟩, hbw, hfw, HGF3.out.below (below_step HBV3.out h)⟩
    obtain ⟨⟨x0, x1, x2, x3⟩, _, hbw3, hfw3, _⟩ := K3.out V3 (Below.refl _ _)
    have HBW3 := Lib.hid hbw3
    have HFW3 := Lib.hid hfw3
    clear hown3 hl0 hB3 hbw3 hfw3
    go_wp2_with fail
    clear hV3 x0 x1 x2 x3
    refine (QO.out _ HFW3.out HBW3.out).mono ?_
    rintro e w4 ⟨siv, sov, srin, srout, sins, souts, rfl, hri, hro, hsol, hm1, hm2, hB4⟩
    have HSOL := Lib.hid hsol
    have HLR : Hid (∀ {rr : List (Value × List Int)} {xs : List Nat}, xs.length = n → rr.map (·.2) = xs.map listB → rr.length = n ∧ ∀ p ∈ rr, p.2.length ≤ 12) := fun {rr xs} h1 h2 => by
      refine ⟨by have := congrArg List.length h2; simp only [List.length_map] at this; omega, fun p hp => ?_⟩
      have h3 : p.2 ∈ rr.map (·.2) := List.mem_map_of_mem hp
      rw [h2] at h3
      obtain ⟨s, _, hs⟩ := List.mem_map.1 h3
      rw [← hs]
      exact list_len _
    have LENS : Hid (∀ {ins outs : List Nat}, Sol f R ins outs → ins.length = n ∧ outs.length = n) := fun {ins outs} h => ⟨by rw [h.li, HN.out], by rw [h.lo, HN.out]⟩
    have HSI : Hid (RowsI w4 siv (srin.map (·.2))) := by
      obtain ⟨h1, h2⟩ := HLR.out (LENS.out hsol).1 hm1
      exact hri.rowsI (by rw [h1]; omega) (fun p hp => by have := h2 p hp; omega)
    have HSO : Hid (RowsI w4 sov (srout.map (·.2))) := by
      obtain ⟨h1, h2⟩ := HLR.out (LENS.out hsol).2 hm2
      exact hro.rowsI (by rw [h1]; omega) (fun p hp => by have := h2 p hp; omega)
    rw [hm1] at HSI
    rw [hm2] at HSO
    obtain ⟨sia, sic, rfl⟩ : ∃ a c, siv = .slice a n c := by
      obtain ⟨a, c, h9⟩ := hri.val
      exact ⟨a, c, by rw [h9, (HLR.out (LENS.out hsol).1 hm1).1]⟩
    obtain ⟨soa, soc, rfl⟩ : ∃ a c, sov = .slice a n c := by
      obtain ⟨a, c, h9⟩ := hro.val
      exact ⟨a, c, by rw [h9, (HLR.out (LENS.out hsol).2 hm2).1]⟩
    obtain ⟨V4, hV4⟩ : ∃ V4 : World, w4.alloc (.cells #[.slice sia n sic, .slice soa n soc] 30) = V4 := ⟨_, rfl⟩
    have HBV4 : Hid (Below w4.heap.size w4 V4) := by show Below _ _ _; rw [← hV4]; exact (Below.refl _ _).alloc (Nat.le_refl _) _
    have HS4 : Hid (V4.heap[w4.heap.size]? = some (.cells #[.slice sia n sic, .slice soa n soc] 30)) := by show _ = _; rw [← hV4]; exact (MapKept.heap_alloc w4 _).1
    have HB34 : Hid (Below V3.heap.size V3 V4) := below_step hB4 HBV4.out
    obtain ⟨⟨x0, x1, x2, x3⟩, _, hbw4, hfw4, _⟩ := K3.out V4 HB34.out
    have HBW4 := Lib.hid hbw4
    have HFW4 := Lib.hid hfw4
    clear hri hro hsol hm1 hm2 hB4 hbw4 hfw4
    go_wp2_with fail
    clear hV4 x0 x1 x2 x3
    refine (QI.out _ HFW4.out HBW4.out).mono ?_
    rintro e w5 ⟨lv, lins, louts, lrows, lss, rfl, hlr, hll, hlm, hlsol, hlb, _, hB5⟩
    have HLSOL := Lib.hid hlsol
    have HLB := Lib.hid hlb
    have HLL := Lib.hid hll
    have HLI : Hid (RowsI w5 lv (lss.map listB)) := by
      have h1 : lrows.length = R := by have := congrArg List.length hlm; simp only [List.length_map] at this; omega
      have h9 := hlr.rowsI (by rw [h1]; have := HR12.out; omega) (fun p hp => by
        have h3 : p.2 ∈ lrows.map (·.2) := List.mem_map_of_mem hp
        rw [hlm] at h3
        obtain ⟨s, _, hs⟩ := List.mem_map.1 h3
        rw [← hs]
        have := list_len s
        omega)
      rw [hlm] at h9
      exact h9
    obtain ⟨la, lc, rfl⟩ : ∃ a c, lv = .slice a lrows.length c := hlr.val
    have HB45 := Lib.hid hB5
    have HB5 : Hid (Below V3.heap.size V3 w5) := below_step HB34.out hB5
    obtain ⟨⟨x0, x1, x2, x3⟩, _, hbw5, hfw5, _⟩ := K3.out w5 HB5.out
    have HBW5 := Lib.hid hbw5
    have HFW5 := Lib.hid hfw5
    clear hlr hll hlm hlsol hlb hB5 hbw5 hfw5
    go_wp2_with fail
    clear x0 x1 x2 x3
    refine (QO.out _ HFW5.out HBW5.out).mono ?_
    rintro e w6 ⟨tiv, tov, trin, trout, tins, touts, rfl, hri, hro, hsol, hm1, hm2, hB6⟩
    obtain ⟨tia, tic, rfl⟩ : ∃ a c, tiv = .slice a n c := by
      obtain ⟨a, c, h9⟩ := hri.val
      exact ⟨a, c, by rw [h9, (HLR.out (LENS.out hsol).1 hm1).1]⟩
    obtain ⟨toa, toc, rfl⟩ : ∃ a c, tov = .slice a n c := by
      obtain ⟨a, c, h9⟩ := hro.val
      exact ⟨a, c, by rw [h9, (HLR.out (LENS.out hsol).2 hm2).1]⟩
    obtain ⟨ig, rfl, _⟩ := own_some (by have h9 := hri.ro; rw [(HLR.out (LENS.out hsol).1 hm1).1] at h9; exact h9) hn0
    obtain ⟨og, rfl, _⟩ := own_some (by have h9 := hro.ro; rw [(HLR.out (LENS.out hsol).2 hm2).1] at h9; exact h9) hn0
    obtain ⟨V6, hV6⟩ : ∃ V6 : World, w6.alloc (.cells #[.slice (some ⟨ig, 0, none⟩) n tic, .slice (some ⟨og, 0, none⟩) n toc] 30) = V6 := ⟨_, rfl⟩
    have HBV6 : Hid (Below w6.heap.size w6 V6) := by show Below _ _ _; rw [← hV6]; exact (Below.refl _ _).alloc (Nat.le_refl _) _
    have HWS6 : Hid (WrSt w5 w6.heap.size ig tic og toc n V6) := by
      obtain ⟨h1, h2⟩ := HLR.out (LENS.out hsol).1 hm1
      obtain ⟨h3, h4⟩ := HLR.out (LENS.out hsol).2 hm2
      refine ⟨below_step hB6 HBV6.out, ?_, (hri.keep HBV6.out).wrow h1.symm h2, (hro.keep HBV6.out).wrow h3.symm h4⟩
      rw [← hV6]
      exact (MapKept.heap_alloc w6 _).1
    have t0 : V6.cell? ⟨w6.heap.size, 0, none⟩ = some (.slice (some ⟨ig, 0, none⟩) n tic) := cell_heap HWS6.out.box 0
    clear hri hro hsol hm1 hm2 hB6
    go_wp2_with fail
    clear hV6 t0
    go_loopw [46] (fun iv wr => ∃ j : Nat, j ≤ n ∧ iv = .int .i64 (j : Int) ∧ WrSt w5 w6.heap.size ig tic og toc n wr) (fun iv _ => n - (intOf iv).toNat)
    case atStart => exact ⟨0, Nat.zero_le _, rfl, HWS6.out⟩
    case round =>
      clear HWS6
      obtain ⟨j, hj, rfl, hst⟩ := hrel
      have HST := Lib.hid hst
      have hj0 : (0 : Int) ≤ (j : Int) := by omega
      clear hst
      by_cases hlt : j < n
      · have hlt2 : (j : Int) < (n : Int) := by omega
        obtain ⟨iarr, hig, hir⟩ := HST.out.inr
        obtain ⟨ia, iln, icp, hi1, hi2, hi3⟩ := hir j hlt
        have HI3 := Lib.hid hi3
        have ILN := Lib.hid hi2
        have t0 : wr.cell? ⟨w6.heap.size, 0, none⟩ = some (.slice (some ⟨ig, 0, none⟩) n tic) := cell_heap HST.out.box 0
        have r0 : wr.cell? ⟨ig, j, none⟩ = some (.slice ia iln icp) := (cell_heap hig j).trans hi1
        have HR0 := Lib.hid r0
        have hin0 : (0 : Int) ≤ (iln : Int) := by omega
        clear hig hir hi1 hi3
        go_wp2_with fail
        clear t0 r0
        obtain ⟨wo, hwo⟩ : ∃ wo : World, wo = wr := ⟨_, rfl⟩
        rw [← hwo] at HST HI3 HR0 ⊢
        clear hwo
        go_loopw [55] (fun iv wi => ∃ m : Nat, m ≤ iln ∧ iv = .int .i64 (m : Int) ∧ WrSt w5 w6.heap.size ig tic og toc n wi ∧ RowK w5.heap.size wi ia iln ∧ wi.cell? ⟨ig, j, none⟩ = some (.slice ia iln icp)) (fun iv _ => iln - (intOf iv).toNat)
        case atStart => exact ⟨0, Nat.zero_le _, rfl, HST.out, HI3.out, HR0.out⟩
        case round =>
          clear HST HI3 HR0
          obtain ⟨m, hm, rfl, hst, hrk, hr0⟩ := hrel
          have HST := Lib.hid hst
          have HRK := Lib.hid hrk
          have HR0 := Lib.hid hr0
          have hm0 : (0 : Int) ≤ (m : Int) := by omega
          clear hst hrk hr0
          by_cases hml : m < iln
          · have hml2 : (m : Int) < (iln : Int) := by omega
            rcases HRK.out with h0 | ⟨rb, cur, rfl, hrB, hrb, hrl⟩
            · omega
            have t0 : wr.cell? ⟨w6.heap.size, 0, none⟩ = some (.slice (some ⟨ig, 0, none⟩) n tic) := cell_heap HST.out.box 0
            have r0 := HR0.out
            obtain ⟨uu, huu⟩ : ∃ uu, wr.cell? ⟨rb, m, none⟩ = some uu := ⟨_, (cell_heap hrb m).trans (Array.getElem?_eq_getElem (by omega))⟩
            have f0 : wr.frozen? ⟨rb, m, none⟩ = false := frozen_heap hrb m
            obtain ⟨X, hX⟩ : ∃ X : World, wr.setCell ⟨rb, m, none⟩ (.int .i64 (-1)) = X := ⟨_, rfl⟩
            have HXS : Hid (WrSt w5 w6.heap.size ig tic og toc n X) := by
              show WrSt _ _ _ _ _ _ _ _
              rw [← hX]
              exact HST.out.set hrB hrb
            have HXK : Hid (RowK w5.heap.size X (some ⟨rb, 0, none⟩) iln) := by
              show RowK _ _ _ _
              rw [← hX]
              exact HRK.out.set hrb
            have HXR : Hid (X.cell? ⟨ig, j, none⟩ = some (.slice (some ⟨rb, 0, none⟩) iln icp)) := by
              show _ = _
              obtain ⟨arr, hg, _⟩ := HST.out.inr
              have hne : ig ≠ rb := by
                rintro rfl
                rw [hg] at hrb
                injection hrb with hrb
                injection hrb with _ e
                cases e
              rw [← hX, ← r0]
              unfold World.cell?
              rw [Below.heap_setCell _ _ _ _ (by exact hne)]
            clear hrB hrb hrl
            go_wp2_with fail
            clear hX t0 r0 huu f0
            exact ⟨⟨m + 1, by omega, by go_num, HXS.out, HXK.out, HXR.out⟩, by simp [intOf]; omega⟩
          · obtain rfl : m = iln := by omega
            obtain ⟨oarr, hog, hor⟩ := HST.out.our
            obtain ⟨oa, oln, ocp, ho1, ho2, ho3⟩ := hor j hlt
            have HO3 := Lib.hid ho3
            have t1 : wr.cell? ⟨w6.heap.size, 1, none⟩ = some (.slice (some ⟨og, 0, none⟩) n toc) := cell_heap HST.out.box 1
            have q0 : wr.cell? ⟨og, j, none⟩ = some (.slice oa oln ocp) := (cell_heap hog j).trans ho1
            have HQ0 := Lib.hid q0
            have hon0 : (0 : Int) ≤ (oln : Int) := by omega
            clear hog hor ho1 ho3 HR0 HRK
            go_wp2_with fail
            clear t1 q0
            obtain ⟨wp, hwp⟩ : ∃ wp : World, wp = wr := ⟨_, rfl⟩
            rw [← hwp] at HST HO3 HQ0 ⊢
            clear hwp
            go_loopw [72] (fun iv wi => ∃ m : Nat, m ≤ oln ∧ iv = .int .i64 (m : Int) ∧ WrSt w5 w6.heap.size ig tic og toc n wi ∧ RowK w5.heap.size wi oa oln ∧ wi.cell? ⟨og, j, none⟩ = some (.slice oa oln ocp)) (fun iv _ => oln - (intOf iv).toNat)
            case atStart => exact ⟨0, Nat.zero_le _, rfl, HST.out, HO3.out, HQ0.out⟩
            case round =>
              clear HST HO3 HQ0
              obtain ⟨k, hk, rfl, hst, hrk, hr0⟩ := hrel
              have HST := Lib.hid hst
              have HRK := Lib.hid hrk
              have HR0 := Lib.hid hr0
              have hk0 : (0 : Int) ≤ (k : Int) := by omega
              clear hst hrk hr0
              by_cases hkl : k < oln
              · have hkl2 : (k : Int) < (oln : Int) := by omega
                rcases HRK.out with h0 | ⟨rb, cur, rfl, hrB, hrb, hrl⟩
                · omega
                have t1 : wr.cell? ⟨w6.heap.size, 1, none⟩ = some (.slice (some ⟨og, 0, none⟩) n toc) := cell_heap HST.out.box 1
                have r0 := HR0.out
                obtain ⟨uu, huu⟩ : ∃ uu, wr.cell? ⟨rb, k, none⟩ = some uu := ⟨_, (cell_heap hrb k).trans (Array.getElem?_eq_getElem (by omega))⟩
                have f0 : wr.frozen? ⟨rb, k, none⟩ = false := frozen_heap hrb k
                obtain ⟨X, hX⟩ : ∃ X : World, wr.setCell ⟨rb, k, none⟩ (.int .i64 (-1)) = X := ⟨_, rfl⟩
                have HXS : Hid (WrSt w5 w6.heap.size ig tic og toc n X) := by
                  show WrSt _ _ _ _ _ _ _ _
                  rw [← hX]
                  exact HST.out.set hrB hrb
                have HXK : Hid (RowK w5.heap.size X (some ⟨rb, 0, none⟩) oln) := by
                  show RowK _ _ _ _
                  rw [← hX]
                  exact HRK.out.set hrb
                have HXR : Hid (X.cell? ⟨og, j, none⟩ = some (.slice (some ⟨rb, 0, none⟩) oln ocp)) := by
                  show _ = _
                  obtain ⟨arr, hg, _⟩ := HST.out.our
                  have hne : og ≠ rb := by
                    rintro rfl
                    rw [hg] at hrb
                    injection hrb with hrb
                    injection hrb with _ e
                    cases e
                  rw [← hX, ← r0]
                  unfold World.cell?
                  rw [Below.heap_setCell _ _ _ _ (by exact hne)]
                clear hrB hrb hrl
                go_wp2_with fail
                clear hX t1 r0 huu f0
                exact ⟨⟨k + 1, by omega, by go_num, HXS.out, HXK.out, HXR.out⟩, by simp [intOf]; omega⟩
              · obtain rfl : k = oln := by omega
                go_wp2_with fail
                exact ⟨⟨j + 1, by omega, by go_num, HST.out⟩, by simp [intOf]; omega⟩
      · obtain rfl : n = j := by omega
        have HB6 : Hid (Below w5.heap.size w5 wr) := HST.out.low
        have HB36 : Hid (Below V3.heap.size V3 wr) := below_step HB5.out HB6.out
        obtain ⟨⟨x0, x1, x2, x3⟩, _, hbw6, hfw6, _⟩ := K3.out wr HB36.out
        have HBW6 := Lib.hid hbw6
        have HFW6 := Lib.hid hfw6
        clear hbw6 hfw6
        go_wp2_with fail
        clear x0 x1 x2 x3
        refine (QO.out _ HFW6.out HBW6.out).mono ?_
        rintro e w8 ⟨uiv, uov, urin, urout, uins, uouts, rfl, hri, hro, hsol, hm1, hm2, hB8⟩
        have HUE : Hid (sins = uins ∧ souts = uouts) := HSOL.out.unique hsol HFR.out
        have HUI : Hid (RowsI w8 uiv (urin.map (·.2))) := by
          obtain ⟨h1, h2⟩ := HLR.out (LENS.out hsol).1 hm1
          exact hri.rowsI (by rw [h1]; have := HNB.out; omega) (fun p hp => by have := h2 p hp; omega)
        have HUO : Hid (RowsI w8 uov (urout.map (·.2))) := by
          obtain ⟨h1, h2⟩ := HLR.out (LENS.out hsol).2 hm2
          exact hro.rowsI (by rw [h1]; have := HNB.out; omega) (fun p hp => by have := h2 p hp; omega)
        rw [hm1, ← HUE.out.1] at HUI
        rw [hm2, ← HUE.out.2] at HUO
        obtain ⟨uia, uic, rfl⟩ : ∃ a c, uiv = .slice a n c := by
          obtain ⟨a, c, h9⟩ := hri.val
          exact ⟨a, c, by rw [h9, (HLR.out (LENS.out hsol).1 hm1).1]⟩
        obtain ⟨uoa, uoc, rfl⟩ : ∃ a c, uov = .slice a n c := by
          obtain ⟨a, c, h9⟩ := hro.val
          exact ⟨a, c, by rw [h9, (HLR.out (LENS.out hsol).2 hm2).1]⟩
        obtain ⟨V8, hV8⟩ : ∃ V8 : World, w8.alloc (.cells #[.slice uia n uic, .slice uoa n uoc] 30) = V8 := ⟨_, rfl⟩
        have HBV8 : Hid (Below w8.heap.size w8 V8) := by show Below _ _ _; rw [← hV8]; exact (Below.refl _ _).alloc (Nat.le_refl _) _
        have HS8 : Hid (V8.heap[w8.heap.size]? = some (.cells #[.slice uia n uic, .slice uoa n uoc] 30)) := by show _ = _; rw [← hV8]; exact (MapKept.heap_alloc w8 _).1
        have HB58 : Hid (Below w5.heap.size w5 V8) := below_step (below_step HB6.out hB8) HBV8.out
        have HB38 : Hid (Below V3.heap.size V3 V8) := below_step HB5.out HB58.out
        obtain ⟨⟨x0, x1, x2, x3⟩, _, hbw8, hfw8, _⟩ := K3.out V8 HB38.out
        have HBW8 := Lib.hid hbw8
        have HFW8 := Lib.hid hfw8
        clear hri hro hsol hm1 hm2 hB8 hbw8 hfw8
        go_wp2_with fail
        clear hV8 x0 x1 x2 x3
        refine (QI.out _ HFW8.out HBW8.out).mono ?_
        rintro e w9 ⟨mv, mins, mouts, mrows, mss, rfl, hlr, hll, hlm, hlsol, hlb, _, hB9⟩
        have HME : Hid (lss = mss) := inter_unique HFR.out HLSOL.out hlsol HLL.out hll HLB.out hlb
        have HMI : Hid (RowsI w9 mv (lss.map listB)) := by
          have h1 : mrows.length = R := by have := congrArg List.length hlm; simp only [List.length_map] at this; omega
          have h9 := hlr.rowsI (by rw [h1]; have := HR12.out; omega) (fun p hp => by
            have h3 : p.2 ∈ mrows.map (·.2) := List.mem_map_of_mem hp
            rw [hlm] at h3
            obtain ⟨s, _, hs⟩ := List.mem_map.1 h3
            rw [← hs]
            have := list_len s
            omega)
          rw [hlm, ← HME.out] at h9
          exact h9
        obtain ⟨ma, mc, rfl⟩ : ∃ a c, mv = .slice a mrows.length c := hlr.val
        have HB89 := Lib.hid hB9
        have HB39 : Hid (Below V3.heap.size V3 w9) := below_step HB38.out hB9
        have HB49 : Hid (Below V4.heap.size V4 w9) := below_step (below_step HB45.out HB58.out) hB9
        have HB59 : Hid (Below w5.heap.size w5 w9) := below_step HB58.out hB9
        have K9 : Hid (∀ w', Below w9.heap.size w9 w' → (w'.cell? ⟨w.heap.size, 0, none⟩ = some (.string f.name) ∧ w'.cell? ⟨w.heap.size, 1, none⟩ = some (.int .i64 (R : Int)) ∧ w'.cell? ⟨w.heap.size, 2, none⟩ = some (.slice aa f.arrays.length ac) ∧ w'.cell? ⟨w.heap.size, 3, none⟩ = some (.slice ba n bc)) ∧
            (w'.cell? ⟨w3.heap.size, 0, none⟩ = some (.string f.name) ∧ w'.cell? ⟨w3.heap.size, 1, none⟩ = some (.int .i64 (R : Int)) ∧ w'.cell? ⟨w3.heap.size, 2, none⟩ = some (.slice aa f.arrays.length ac) ∧ w'.cell? ⟨w3.heap.size, 3, none⟩ = some (.slice (some ⟨g, 0, none⟩) n bc')) ∧
            (w'.cell? ⟨w4.heap.size, 0, none⟩ = some (.slice sia n sic) ∧ w'.cell? ⟨w4.heap.size, 1, none⟩ = some (.slice soa n soc)) ∧ (w'.cell? ⟨w8.heap.size, 0, none⟩ = some (.slice uia n uic) ∧ w'.cell? ⟨w8.heap.size, 1, none⟩ = some (.slice uoa n uoc))) := fun w' h => by
          obtain ⟨hx, hg, _⟩ := K3.out w' (below_step HB39.out h)
          exact ⟨hx, hg, two_cells (((below_step HB49.out h).block _ (lt_heap HS4.out)).trans HS4.out), two_cells (((below_step HB89.out h).block _ (lt_heap HS8.out)).trans HS8.out)⟩
        have Q9 : Hid (∀ w', Below w9.heap.size w9 w' → Below w.heap.size w w' ∧ FnAt w' f aa ba ∧ FnAt w' f aa (some ⟨g, 0, none⟩) ∧ RowsI w' (.slice sia n sic) (sins.map listB) ∧ RowsI w' (.slice soa n soc) (souts.map listB) ∧ RowsI w' (.slice la lrows.length lc) (lss.map listB) ∧
            RowsI w' (.slice uia n uic) (sins.map listB) ∧ RowsI w' (.slice uoa n uoc) (souts.map listB) ∧ RowsI w' (.slice ma mrows.length mc) (lss.map listB)) := fun w' h => by
          obtain ⟨_, _, hbw, hfw, hgw⟩ := K3.out w' (below_step HB39.out h)
          have h4 := below_step HBV4.out (below_step HB49.out h)
          have h5 := below_step HB59.out h
          have h8 := below_step HBV8.out (below_step HB89.out h)
          exact ⟨hbw, hfw, hgw, HSI.out.below h4, HSO.out.below h4, HLI.out.below h5, HUI.out.below h8, HUO.out.below h8, HMI.out.below h⟩
        have QEQ : Hid (∀ w', Below w9.heap.size w9 w' → Calls Tryd.prog 32 #[.agg #[.string f.name, .int .i64 (R : Int), .slice aa f.arrays.length ac, .slice ba n bc], .agg #[.string f.name, .int .i64 (R : Int), .slice aa f.arrays.length ac, .slice (some ⟨g, 0, none⟩) n bc']] w' fun e w'' => e = .returned (.bool true) ∧ Below w'.heap.size w' w'') := fun w' h => by
          obtain ⟨_, hfw, hgw, _⟩ := Q9.out w' h
          have h9 := eqFn_any f f w' aa ba aa (some ⟨g, 0, none⟩) ac bc ac bc' hfw hgw
          rw [HREG.out, HN.out] at h9
          refine h9.mono fun e w'' ⟨⟨v, he, hv⟩, hB⟩ => ⟨?_, hB⟩
          rw [he, hv.2 rfl]
        clear hlr hll hlm hlsol hlb hB9
        obtain ⟨⟨x0, x1, x2, x3⟩, ⟨y0, y1, y2, y3⟩, _⟩ := K9.out _ (Below.refl _ _)
        go_wp2_with fail
        clear x0 x1 x2 x3 y0 y1 y2 y3
        refine (QEQ.out _ (Below.refl _ _)).mono ?_
        rintro e D1 ⟨rfl, hD1⟩
        have HD1 := Lib.hid hD1
        obtain ⟨_, _, ⟨s0, _⟩, u0, _⟩ := K9.out _ hD1
        clear hD1
        go_wp2_with fail
        clear s0 u0
        obtain ⟨_, _, _, hs1, _, _, hu1, _, _⟩ := Q9.out _ HD1.out
        refine (same30_any _ _ _ _ hs1 hu1).mono ?_
        rintro e D2 ⟨rfl, hD2⟩
        have HD2 : Hid (Below w9.heap.size w9 D2) := below_step HD1.out hD2
        clear hD2 hs1 hu1
        obtain ⟨_, _, ⟨_, s1⟩, _, u1⟩ := K9.out _ HD2.out
        go_wp2_with fail
        clear s1 u1
        obtain ⟨_, _, _, _, hs2, _, _, hu2, _⟩ := Q9.out _ HD2.out
        refine (same30_any _ _ _ _ hs2 hu2).mono ?_
        rintro e D3 ⟨rfl, hD3⟩
        have HD3 : Hid (Below w9.heap.size w9 D3) := below_step HD2.out hD3
        clear hD3 hs2 hu2
        go_wp2_with fail
        obtain ⟨_, _, _, _, _, hs3, _, _, hu3⟩ := Q9.out _ HD3.out
        refine (same30_any _ _ _ _ hs3 hu3).mono ?_
        rintro e D4 ⟨rfl, hD4⟩
        have HD4 : Hid (Below w9.heap.size w9 D4) := below_step HD3.out hD4
        clear hD4 hs3 hu3
        have HBE := Lib.hid (Q9.out _ HD4.out).1
        go_wp2_with fail
        go_ret
        exact ⟨rfl, HBE.out⟩
end Go.Proofs.YteknhnnlhhgppaaDoor
