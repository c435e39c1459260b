/-
  LivenessEquations (package ontimelaw19): the sets satisfy the equations of liveness.
-/
import Derived.Test.YteknhnnlhhgppaaDoorLiveRows
import Derived.Test.YteknhnnlhhgppaaDoorLiveForm19
import Derived.Test.YteknhnnlhhgppaaDoorLiveAwake
import Derived.Test.YteknhnnlhhgppaaDoorLiveBefore
import Derived.Test.YteknhnnlhhgppaaDoorEqsPlain
import Derived.Test.YteknhnnlhhgppaaDoorEqsSame
namespace Go.Proofs.YteknhnnlhhgppaaDoor
set_option linter.unusedVariables false
set_option linter.unusedSimpArgs false
open Go.RowKit
set_option maxRecDepth 100000
set_option maxHeartbeats 16000000

abbrev EqSt19 := EqSt Tryd.prog 3 4 48
theorem EqSt19.same {V w : World} {n s : Nat} {va : Value} (h : EqSt19 V n s w) (ha : IntsAt w va (listB s)) (hs : s < 4096) :
    Calls Tryd.prog 22 #[va, .pointer (some ⟨V.heap.size + 1, 0, none⟩)] w fun e w' => e = .returned (.bool true) ∧ Below w.heap.size w w' :=
  same_any s V.heap.size _ n va w h.sm (cell_heap h.box 0) ha hs
theorem eqs_any (f : Fn) (aa ba : Option Addr) (ac bc : Nat) (w : World) (hf : FnAt w f aa ba) (hT : TabAt 0 Lib.deBruijn64tab w) :
    Calls Tryd.prog 4 #[fnVal f.name f.regs aa f.arrays.length ac ba f.blocks.length bc] w fun e w' => e = .returned (.bool true) ∧ Below w.heap.size w w' := by
  have HF := Lib.hid hf
  have HT := Lib.hid hT
  obtain ⟨n, hn⟩ : ∃ n, f.blocks.length = n := ⟨_, rfl⟩
  have HN := Lib.hid hn
  obtain ⟨W, hW⟩ : ∃ W : World, w.alloc (.cells #[.string f.name, .int .i64 f.regs, .slice aa f.arrays.length ac, .slice ba n bc] 25) = W := ⟨_, rfl⟩
  have HBW : Hid (Below w.heap.size w W) := by show Below _ _ _; rw [← hW]; exact (Below.refl _ _).alloc (Nat.le_refl _) _
  have HX : Hid (W.heap[w.heap.size]? = some (.cells #[.string f.name, .int .i64 f.regs, .slice aa f.arrays.length ac, .slice ba n bc] 25)) := by
    show _ = _
    rw [← hW]
    exact (MapKept.heap_alloc w _).1
  have HXC : Hid (∀ w', Below W.heap.size W w' → (w'.cell? ⟨w.heap.size, 0, none⟩ = some (.string f.name) ∧ w'.cell? ⟨w.heap.size, 1, none⟩ = some (.int .i64 f.regs) ∧ w'.cell? ⟨w.heap.size, 2, none⟩ = some (.slice aa f.arrays.length ac) ∧ w'.cell? ⟨w.heap.size, 3, none⟩ = some (.slice ba n bc)) ∧ Below w.heap.size w w' ∧ FnAt w' f aa ba) := fun w' h => by
    have h9 := (h.block _ (lt_heap HX.out)).trans HX.out
    have h7 := HBW.out.trans (h.mono HBW.out.size)
    exact ⟨⟨cell_heap h9 0, cell_heap h9 1, cell_heap h9 2, cell_heap h9 3⟩, h7, HF.out.below h7⟩
  obtain ⟨⟨x0, x1, x2, x3⟩, _, _⟩ := HXC.out W (Below.refl _ _)
  have QS : Hid (∀ w', FnAt w' f aa ba → Calls Tryd.prog 20 #[.agg #[.string f.name, .int .i64 f.regs, .slice aa f.arrays.length ac, .slice ba n bc]] w' (Tells (SmallF f ∧ FormF f) w')) := fun w' h => by
    have h9 := formLaw_any f aa ba ac bc w' h
    rw [HN.out] at h9
    exact h9
  rw [hn]
  clear hf hT hn
  go_enter Tryd.func4, Tryd.ntmps4
  go_wp2_with fail
  clear hW x0 x1 x2 x3
  refine (awake_any _ (tab_keep HT.out HBW.out)).mono ?_
  rintro e w1 ⟨rfl, hB1⟩
  have HB1 := Lib.hid hB1
  obtain ⟨⟨x0, x1, x2, x3⟩, hbf, hfn⟩ := HXC.out w1 hB1
  have HBF1 := Lib.hid hbf
  have HFN1 := Lib.hid hfn
  clear hB1 hbf hfn
  go_wp2_with fail
  clear x0 x1 x2 x3
  refine (QS.out _ HFN1.out).mono ?_
  rintro e w2 ⟨r, rfl, hr, hB2⟩
  have HR := Lib.hid hr
  have HB2 : Hid (Below W.heap.size W w2) := below_step HB1.out hB2
  obtain ⟨⟨x0, x1, x2, x3⟩, hbf, hfn⟩ := HXC.out w2 HB2.out
  have HBF2 := Lib.hid hbf
  have HFN2 := Lib.hid hfn
  clear hr hB2 hbf hfn
  cases r with
  | false =>
    go_wp2_with fail
    refine (awake_any _ (tab_keep HT.out HBF2.out)).mono ?_
    rintro e w3 ⟨rfl, hB3⟩
    have HB3 : Hid (Below w.heap.size w w3) := below_step HBF2.out hB3
    clear hB3
    go_wp2_with fail
    go_ret
    exact ⟨rfl, HB3.out⟩
  | true =>
    have HSM := Lib.hid (HR.out.1 rfl).1
    have HFM := Lib.hid (HR.out.1 rfl).2
    have HFIT := Lib.hid (small_fits HSM.out)
    obtain ⟨R, hR⟩ : ∃ R : Nat, f.regs = (R : Int) := ⟨f.regs.toNat, (Int.toNat_of_nonneg HFM.out.r0).symm⟩
    have hR12 : R ≤ 12 := by have := HSM.out.rg; omega
    simp only [hR] at HX HXC ⊢
    have HREG := Lib.hid hR
    have HR12 := Lib.hid hR12
    have HFR : Hid (FormR f R) := by
      have h9 := HFM.out.small HSM.out.rg
      rw [hR, Int.toNat_natCast] at h9
      exact h9
    simp only [hR] at x1
    have QO : Hid (∀ w', FnAt w' f aa ba → Below w.heap.size w w' → Calls Tryd.prog 12 #[.agg #[.string f.name, .int .i64 (R : Int), .slice aa f.arrays.length ac, .slice ba n bc]] w' (OfEnd f R w')) := fun w' h hB => by
      have h9 := of_any f R aa ba ac bc w' h HFM.out HREG.out HR12.out HFIT.out.1 HFIT.out.2 (tab_keep HT.out hB)
      rw [HREG.out, HN.out] at h9
      exact h9
    clear hR hR12
    go_wp2_with fail
    clear x0 x1 x2 x3
    refine (QO.out _ HFN2.out HBF2.out).mono ?_
    rintro e w3 ⟨iv, ov, rin, rout, ins, outs, rfl, hri, hro, hsol, hm1, hm2, hB3⟩
    have HSOL := Lib.hid hsol
    have HM1 := Lib.hid hm1
    have HM2 := Lib.hid hm2
    have HLN : Hid (rin.length = n ∧ rout.length = n ∧ ins.length = n ∧ outs.length = n) := by
      have e1 : ins.length = n := by rw [hsol.li, HN.out]
      have e2 : outs.length = n := by rw [hsol.lo, HN.out]
      have e3 := congrArg List.length hm1
      have e4 := congrArg List.length hm2
      simp only [List.length_map] at e3 e4
      exact ⟨by omega, by omega, e1, e2⟩
    obtain ⟨iva, ivc, rfl⟩ : ∃ a c, iv = .slice a n c := by
      obtain ⟨a, c, h9⟩ := hri.val
      exact ⟨a, c, by rw [h9, HLN.out.1]⟩
    obtain ⟨ova, ovc, rfl⟩ : ∃ a c, ov = .slice a n c := by
      obtain ⟨a, c, h9⟩ := hro.val
      exact ⟨a, c, by rw [h9, HLN.out.2.1]⟩
    have hn0 : 0 < n := by have := HFM.out.one; have := HN.out; omega
    have HN0 := Lib.hid hn0
    obtain ⟨ib, rfl, _, hib, _⟩ := own_some (by have h9 := hri.ro; rw [HLN.out.1] at h9; exact h9) hn0
    obtain ⟨ob, rfl, _, hob, _⟩ := own_some (by have h9 := hro.ro; rw [HLN.out.2.1] at h9; exact h9) hn0
    have HRI := Lib.hid hri
    have HRO := Lib.hid hro
    obtain ⟨V3, hV3⟩ : ∃ V3 : World, w3.alloc (.cells #[.slice (some ⟨ib, 0, none⟩) n ivc, .slice (some ⟨ob, 0, none⟩) n ovc] 30) = V3 := ⟨_, rfl⟩
    have HBV3 : Hid (Below w3.heap.size w3 V3) := by show Below _ _ _; rw [← hV3]; exact (Below.refl _ _).alloc (Nat.le_refl _) _
    have HS3 : Hid (V3.heap[w3.heap.size]? = some (.cells #[.slice (some ⟨ib, 0, none⟩) n ivc, .slice (some ⟨ob, 0, none⟩) n ovc] 30)) := by show _ = _; rw [← hV3]; exact (MapKept.heap_alloc w3 _).1
    have HB3 : Hid (Below W.heap.size W V3) := below_step (below_step HB2.out hB3) HBV3.out
    have HRI3 := Lib.hid (HRI.out.keep HBV3.out)
    have HRO3 := Lib.hid (HRO.out.keep HBV3.out)
    have KEEP : Hid (∀ w', Below V3.heap.size V3 w' → (w'.cell? ⟨w.heap.size, 0, none⟩ = some (.string f.name) ∧ w'.cell? ⟨w.heap.size, 1, none⟩ = some (.int .i64 (R : Int)) ∧ w'.cell? ⟨w.heap.size, 2, none⟩ = some (.slice aa f.arrays.length ac) ∧ w'.cell? ⟨w.heap.size, 3, none⟩ = some (.slice ba n bc)) ∧
        (w'.cell? ⟨w3.heap.size, 0, none⟩ = some (.slice (some ⟨ib, 0, none⟩) n ivc) ∧ w'.cell? ⟨w3.heap.size, 1, none⟩ = some (.slice (some ⟨ob, 0, none⟩) n ovc)) ∧
        Below w.heap.size w w' ∧ FnAt w' f aa ba ∧ IRows w2.heap.size w' (.slice (some ⟨ib, 0, none⟩) n ivc) rin ∧ IRows w2.heap.size w' (.slice (some ⟨ob, 0, none⟩) n ovc) rout) := fun w' h => by
      obtain ⟨hx, hbw, hfw⟩ := HXC.out w' (below_step HB3.out h)
      have hs := (h.block _ (lt_heap HS3.out)).trans HS3.out
      exact ⟨hx, two_cells hs, hbw, hfw, HRI3.out.keep h, HRO3.out.keep h⟩
    obtain ⟨⟨x0, x1, x2, x3⟩, ⟨s0, s1⟩, _⟩ := KEEP.out V3 (Below.refl _ _)
    clear hB3 hri hro hsol hm1 hm2 hib hob hn0
    go_wp2_with fail
    clear hV3 x0 x1 x2 x3 s0 s1
    have hnb : n ≤ 1000 := by have := HFIT.out.1; have := HN.out; omega
    go_loopw [54] (fun i wr => ∃ j : Nat, j ≤ n ∧ i = .int .i64 (j : Int) ∧ Below V3.heap.size V3 wr) (fun i _ => n - (intOf i).toNat)
    case atStart => exact ⟨0, Nat.zero_le _, rfl, Below.refl _ _⟩
    case round =>
      obtain ⟨j, hj, rfl, hbel⟩ := hrel
      have HBEL := Lib.hid hbel
      have hj0 : (0 : Int) ≤ (j : Int) := by omega
      clear hbel
      by_cases hlt : j < n
      · have hlt2 : (j : Int) < (n : Int) := by omega
        obtain ⟨b, hb⟩ : ∃ b, f.blocks[j]? = some b := ⟨_, List.getElem?_eq_getElem (by rw [HN.out]; exact hlt)⟩
        have HB := Lib.hid hb
        obtain ⟨_, _, _, hfw, hrw, how⟩ := KEEP.out wr HBEL.out
        rcases hfw.blocks.at_ with hz | ⟨bb, off, rfl, hk⟩
        · have := HN.out; omega
        obtain ⟨ca, cc, hba, hcode⟩ := hk j b hb
        have HCODE := Lib.hid hcode
        obtain ⟨c0, c1, c2, c3, c4⟩ := hba
        have hcl1 := HFIT.out.2 b (List.mem_of_getElem? hb)
        have hcl0 : (0 : Int) ≤ (b.code.length : Int) := by omega
        have HBR := Lib.hid (HFR.out.blk b (List.mem_of_getElem? hb))
        obtain ⟨V1, hV1⟩ : ∃ V1 : World, wr.alloc (.cells #[.slice ca b.code.length cc, .int .u8 b.kind, .int .i64 b.x, .int .i64 b.to, .int .i64 b.els] 43) = V1 := ⟨_, rfl⟩
        have hV1s : V1.heap.size = wr.heap.size + 1 := by rw [← hV1]; simp
        have HBV1 : Hid (Below wr.heap.size wr V1) := by show Below _ _ _; rw [← hV1]; exact (Below.refl _ _).alloc (Nat.le_refl _) _
        have HZ1 : Hid (V1.heap[wr.heap.size]? = some (.cells #[.slice ca b.code.length cc, .int .u8 b.kind, .int .i64 b.x, .int .i64 b.to, .int .i64 b.els] 43)) := by
          show _ = _
          rw [← hV1]
          exact (MapKept.heap_alloc wr _).1
        have HBV : Hid (Below V3.heap.size V3 V1) := below_step HBEL.out HBV1.out
        have HV1S := Lib.hid hV1s
        obtain ⟨V2, hV2⟩ : ∃ V2 : World, (V1.alloc (.map #[] 0)).alloc (.cells #[.map (some V1.heap.size)] 48) = V2 := ⟨_, rfl⟩
        have HE2 : Hid (EqSt19 V1 0 0 V2) := by show EqSt _ _ _ _ _ _ _ _; rw [← hV2]; exact EqSt.made _ _ _ _ _
        have HBE : Hid (∀ nn ss w', EqSt19 V1 nn ss w' → Below V3.heap.size V3 w') := fun nn ss w' h => below_step HBV.out h.low
        have ROW : Hid (∀ nn ss w', EqSt19 V1 nn ss w' → w'.cell? ⟨wr.heap.size, 0, none⟩ = some (.slice ca b.code.length cc) ∧ w'.cell? ⟨wr.heap.size, 1, none⟩ = some (.int .u8 b.kind) ∧ w'.cell? ⟨wr.heap.size, 2, none⟩ = some (.int .i64 b.x) ∧
            w'.cell? ⟨wr.heap.size, 3, none⟩ = some (.int .i64 b.to) ∧ w'.cell? ⟨wr.heap.size, 4, none⟩ = some (.int .i64 b.els) ∧ w'.cell? ⟨V1.heap.size + 1, 0, none⟩ = some (.map (some V1.heap.size))) := fun nn ss w' h => by
          have h9 := (h.low.block _ (lt_heap HZ1.out)).trans HZ1.out
          exact ⟨cell_heap h9 0, cell_heap h9 1, cell_heap h9 2, cell_heap h9 3, cell_heap h9 4, cell_heap h.box 0⟩
        obtain ⟨b0, b1, b2, b3, b4, m0⟩ := ROW.out _ _ _ HE2.out
        have QSU : Hid (∀ w', Calls Tryd.prog 21 #[.agg #[.slice ca b.code.length cc, .int .u8 b.kind, .int .i64 b.x, .int .i64 b.to, .int .i64 b.els]] w' (IntsNew b.succ w')) := fun w' => succ_any b ca cc w'
        clear hk hcode hb hfw hrw how hV1s
        have hmm := @run_makeMap Tryd.prog
        go_wp2_with fail
        clear hV1 hV2 c0 c1 c2 c3 c4 b0 b1 b2 b3 b4 m0
        refine (QSU.out _).mono ?_
        rintro e w5 ⟨v5, rfl, hi5, hB5⟩
        have HE5 := Lib.hid (HE2.out.keep hB5)
        obtain ⟨lsu, hlsu⟩ : ∃ l, b.succ = l := ⟨_, rfl⟩
        have HLSU := Lib.hid hlsu
        have hlsn : lsu.length ≤ 2 := by rw [← hlsu]; exact succ_len b
        have HFAR := Lib.hid hi5.far
        rw [hlsu] at HFAR
        obtain ⟨sa, sc, rfl, hsat⟩ := HFAR.out
        have HSAT := Lib.hid hsat
        have HV2 : Hid (V1.heap.size < V2.heap.size) := by
          show _ < _
          have := lt_heap HE2.out.box
          omega
        have HSB := HBR.out.succ
        rw [hlsu] at HSB
        have HSUC := Lib.hid HSB
        clear hi5 hB5 hlsu HFAR hsat HSB
        go_wp2_with fail
        obtain ⟨wo, rfl⟩ : ∃ wo : World, wo = wr := ⟨_, rfl⟩
        go_loopw [63] (fun i wi => ∃ (p nn : Nat), p ≤ lsu.length ∧ i = .int .i64 (p : Int) ∧ nn ≤ 12 * p ∧ EqSt19 V1 nn (gatherB ins (lsu.take p) 0) wi ∧ w5.grownBy wi (some V1.heap.size)) (fun i _ => lsu.length - (intOf i).toNat)
        case atStart => exact ⟨0, 0, Nat.zero_le _, rfl, Nat.zero_le _, HE5.out, grown_refl _ _⟩
        case round =>
          obtain ⟨p, nn, hp, rfl, hnn, hes, hgr⟩ := hrel
          have HES := Lib.hid hes
          have HGR := Lib.hid hgr
          have HNN := Lib.hid hnn
          have hp0 : (0 : Int) ≤ (p : Int) := by omega
          clear hes hgr hnn
          by_cases hpl : p < lsu.length
          · have hpl2 : (p : Int) < (lsu.length : Int) := by omega
            obtain ⟨t, ht⟩ : ∃ t, lsu[p]? = some t := ⟨_, List.getElem?_eq_getElem hpl⟩
            obtain ⟨ht0, ht1⟩ := HSUC.out t (List.mem_of_getElem? ht)
            obtain ⟨q, rfl⟩ := Int.eq_ofNat_of_zero_le ht0
            have hq : q < n := by have := HN.out; omega
            have hq2 : (q : Int) < (n : Int) := by omega
            have hq0 : (0 : Int) ≤ (q : Int) := by omega
            rcases HSAT.out with h0 | ⟨eb, eo, rfl, heb, _, hec⟩
            · omega
            have heb2 : eb ≠ V1.heap.size := by have := HV2.out; omega
            have e1 := grown_cell HGR.out heb2 (hec p _ ht)
            have HTK : Hid (gatherB ins (lsu.take (p + 1)) 0 = useB (listB (ins.getD q 0)) (gatherB ins (lsu.take p) 0)) := by
              show _ = _
              rw [take_snoc ht, gatherB_snoc, Int.toNat_natCast]
            obtain ⟨_, ⟨s0, _⟩, _, _, hrw, _⟩ := KEEP.out wr (HBE.out _ _ _ HES.out)
            obtain ⟨uq, huq⟩ := row_get (j := q) HM1.out (by rw [HLN.out.2.2.1]; exact hq)
            have e2 := hrw.cellAt huq
            have HUQ := Lib.hid huq
            have hiq := hrw.get huq
            obtain ⟨ql, hql⟩ : ∃ l, listB (ins.getD q 0) = l := ⟨_, rfl⟩
            have HQL := Lib.hid hql
            rw [hql] at hiq HTK
            have hq12 : ql.length ≤ 12 := by rw [← hql]; exact list_len _
            obtain ⟨ua, uc, rfl, _⟩ := hiq
            have HQIN : Hid (∀ r ∈ ql, 0 ≤ r ∧ r < (R : Int)) := fun r hr => by
              rw [← hql] at hr
              exact list_in (HSOL.out.bi q) hr
            clear ht ht0 ht1 hec hrw huq hql heb2
            go_wp2_with fail
            clear e1 e2 s0
            obtain ⟨sP, hsP⟩ : ∃ s, gatherB ins (lsu.take p) 0 = s := ⟨_, rfl⟩
            rw [hsP] at HES HTK
            clear hsP
            obtain ⟨wp0, hwp0⟩ : ∃ wo : World, wo = wr := ⟨_, rfl⟩
            rw [← hwp0] at HES HGR ⊢
            clear hwp0
            go_loopw [73] (fun i wi => ∃ (m nm : Nat), m ≤ ql.length ∧ i = .int .i64 (m : Int) ∧ nm ≤ 12 * p + m ∧ EqSt19 V1 nm (useB (ql.take m) sP) wi ∧ w5.grownBy wi (some V1.heap.size)) (fun i _ => ql.length - (intOf i).toNat)
            case atStart => exact ⟨0, nn, Nat.zero_le _, rfl, HNN.out, HES.out, HGR.out⟩
            case round =>
              clear HES HGR
              obtain ⟨m, nm, hm, rfl, hnm, hes, hgr⟩ := hrel
              have HES := Lib.hid hes
              have HGR := Lib.hid hgr
              have HNM := Lib.hid hnm
              have hm0 : (0 : Int) ≤ (m : Int) := by omega
              clear hes hgr hnm
              by_cases hml : m < ql.length
              · have hml2 : (m : Int) < (ql.length : Int) := by omega
                obtain ⟨x, hx⟩ : ∃ x, ql[m]? = some x := ⟨_, List.getElem?_eq_getElem hml⟩
                obtain ⟨hx0, hx1⟩ := HQIN.out x (List.mem_of_getElem? hx)
                obtain ⟨r, rfl⟩ := Int.eq_ofNat_of_zero_le hx0
                have hr12 : r < 12 := by have := HR12.out; omega
                have HTM : Hid (useB (ql.take (m + 1)) sP = addB (useB (ql.take m) sP) r) := by
                  show _ = _
                  rw [take_snoc hx, useB_snoc, Int.toNat_natCast]
                obtain ⟨_, _, _, _, hrw, _⟩ := KEEP.out wr (HBE.out _ _ _ HES.out)
                have hiq := hrw.get HUQ.out
                rw [HQL.out] at hiq
                obtain ⟨ua', uc', hve, hcc⟩ := hiq
                injection hve with hva hvl hvc
                subst hva
                subst hvc
                clear hvl
                rcases hcc with h0 | ⟨ub, uo, rfl, _, hcc⟩
                · omega
                have e1 := hcc m _ hx
                obtain ⟨_, _, _, _, _, m0⟩ := ROW.out _ _ _ HES.out
                have HSM9 := Lib.hid HES.out.sm
                clear hcc hx hx0 hx1 hrw
                go_wp2_with (first
                  | (at_mapUpdate; refine wpList_store_set _ rfl _ _ _ 48 rfl 3 4 Tryd.underlying3 Tryd.underlying4 Tryd.underlying48 V1.heap.size nm (useB (ql.take m) sP) rfl HSM9.out r rfl rfl hr12 (by have := HNM.out; unfold maxLen; omega) ?_)
                  | go_in)
                intro w6 hsm6 hg6
                have HES6 : Hid (EqSt19 V1 (nm + 1) (useB (ql.take (m + 1)) sP) w6) := by
                  show EqSt _ _ _ _ _ _ _ _
                  rw [HTM.out]
                  exact HES.out.turn hg6 hsm6
                have HGR6 := Lib.hid (grown_step HGR.out hg6)
                clear hsm6 hg6 e1 m0
                go_wp2_with fail
                exact ⟨⟨m + 1, nm + 1, by omega, by go_num, by have := HNM.out; omega, HES6.out, HGR6.out⟩, by simp [intOf]; omega⟩
              · obtain rfl : m = ql.length := by omega
                have HTF : Hid (EqSt19 V1 nm (gatherB ins (lsu.take (p + 1)) 0) wr) := by
                  show EqSt _ _ _ _ _ _ _ _
                  rw [HTK.out]
                  have h9 := HES.out
                  rwa [List.take_length] at h9
                go_wp2_with fail
                exact ⟨⟨p + 1, nm, by omega, by go_num, by have := HNM.out; omega, HTF.out, HGR.out⟩, by simp [intOf]; omega⟩
          · obtain rfl : p = lsu.length := by omega
            obtain ⟨o, ho⟩ : ∃ o, outs.getD j 0 = o := ⟨_, rfl⟩
            have HO := Lib.hid ho
            have HES2 : Hid (EqSt19 V1 nn o wr) := by
              show EqSt _ _ _ _ _ _ _ _
              have h9 := HES.out
              rw [List.take_length, ← HLSU.out, HSOL.out.joined HR12.out HB.out, HO.out] at h9
              exact h9
            have ho12 : o < 2 ^ R := by rw [← ho]; exact HSOL.out.bo j
            have HO12 := Lib.hid ho12
            have h4096 : ∀ s, s < 2 ^ R → s < 4096 := fun s hs => Nat.lt_of_lt_of_le hs (Nat.pow_le_pow_right (n := 2) (by omega) HR12.out)
            have H4096 := Lib.hid h4096
            have hnn25 : nn ≤ 24 := by have := HNN.out; omega
            have HN25 := Lib.hid hnn25
            obtain ⟨uo, huo⟩ := row_get (j := j) HM2.out (by rw [HLN.out.2.2.2]; exact hlt)
            have HUO := Lib.hid huo
            obtain ⟨_, ⟨_, s1⟩, _, _, _, how⟩ := KEEP.out wr (HBE.out _ _ _ HES2.out)
            have e1 := how.cellAt huo
            have hio := how.get huo
            rw [ho] at hio
            have QSAME : Hid (∀ nn s va w', EqSt19 V1 nn s w' → IntsAt w' va (listB s) → s < 2 ^ R → Calls Tryd.prog 22 #[va, .pointer (some ⟨V1.heap.size + 1, 0, none⟩)] w' fun e w'' => e = .returned (.bool true) ∧ Below w'.heap.size w' w'') := fun nn s va w' h1 h2 h3 => h1.same h2 (H4096.out s h3)
            clear HES HGR HNN ho huo how ho12 h4096 hnn25
            have HIO := Lib.hid hio
            clear hio
            go_wp2_with fail
            clear e1 s1
            refine (QSAME.out _ _ _ _ HES2.out HIO.out HO12.out).mono ?_
            rintro e w6 ⟨rfl, hB6⟩
            have HES6 := Lib.hid (HES2.out.keep hB6)
            obtain ⟨_, b1, _, _, _, _⟩ := ROW.out _ _ _ HES6.out
            clear hB6 HES2 HIO
            have HEND : Hid (blkB b (b.code.length + 1) o = lastB b o) := by
              show _ = _
              unfold blkB
              rw [List.drop_eq_nil_of_le (by omega)]
              rfl
            have QB : Hid (∀ (at_ : Nat) w', Below V3.heap.size V3 w' → at_ ≤ b.code.length → Calls Tryd.prog 15 #[.agg #[.string f.name, .int .i64 (R : Int), .slice aa f.arrays.length ac, .slice (some ⟨bb, off, none⟩) n bc], .agg #[.slice (some ⟨ib, 0, none⟩) n ivc, .slice (some ⟨ob, 0, none⟩) n ovc], .int .i64 (j : Int), .int .i64 (at_ : Int)] w' fun e w'' => ∃ v, e = .returned v ∧ IntsAt w'' v (listB (blkB b at_ o)) ∧ Below w'.heap.size w' w'') := fun at_ w' h hat => by
              obtain ⟨_, _, hbw, hfw, _, how⟩ := KEEP.out w' h
              have hou : rout[j]? = some (uo, listB o) := by
                rw [HUO.out, HO.out]
              have h9 := before_any f R aa (some ⟨bb, off, none⟩) ac bc (.slice (some ⟨ib, 0, none⟩) n ivc) (.slice (some ⟨ob, 0, none⟩) n ovc) w2.heap.size o j at_ b rout uo w' hfw HFM.out HREG.out HR12.out HFIT.out.1 HFIT.out.2 (tab_keep HT.out hbw) ⟨_, _, _, rfl⟩ how (by rw [HLN.out.2.1, HN.out]) HB.out hat hou HO12.out
              rw [HREG.out, HN.out] at h9
              exact h9.mono fun e w'' ⟨v, h1, h2, h3⟩ => ⟨v, h1, h2.at_, h3⟩
            by_cases hkd : b.kind = 2
            case' pos =>
              have e2 : (b.kind == 2) = true := by simp [hkd]
              obtain ⟨hbx0, hbx1⟩ := HBR.out.fin hkd
              obtain ⟨r, hr⟩ := Int.eq_ofNat_of_zero_le hbx0
              have hr12 : r < 12 := by have := HR12.out; omega
              have HSM9 := Lib.hid HES6.out.sm
              have HRX := Lib.hid hr
              have HLB : Hid (lastB b o = addB o r) := by show _ = _; unfold lastB; rw [if_pos hkd, hr, Int.toNat_natCast]
              obtain ⟨_, _, b2, _, _, m0⟩ := ROW.out _ _ _ HES6.out
              clear hkd hbx0 hbx1 hr
              go_wp2_with (at_mapUpdate; refine wpList_store_set _ rfl _ _ _ 48 rfl 3 4 Tryd.underlying3 Tryd.underlying4 Tryd.underlying48 V1.heap.size nn o rfl HSM9.out r (congrArg (Value.int .i64) HRX.out) rfl hr12 (by have := HN25.out; unfold maxLen; omega) ?_)
              skip
              intro wl hsm7 hg7
              have HESL : Hid (∃ nL, nL ≤ 30 ∧ EqSt19 V1 nL (lastB b o) wl) := by
                refine ⟨nn + 1, by have := HN25.out; omega, ?_⟩
                show EqSt _ _ _ _ _ _ _ _
                rw [HLB.out]
                exact HES6.out.turn hg7 hsm7
              obtain ⟨b0, _⟩ := ROW.out _ _ _ HESL.out.choose_spec.2
              clear hsm7 hg7 b2 m0 b1 e2 hr12 HSM9 HLB HRX
            case' neg =>
              have e2 : (b.kind == 2) = false := by simp [hkd]
              obtain ⟨wl, hwl⟩ : ∃ wl : World, wl = w6 := ⟨_, rfl⟩
              have HESL : Hid (∃ nL, nL ≤ 30 ∧ EqSt19 V1 nL (lastB b o) wl) := by
                refine ⟨nn, by have := HN25.out; omega, ?_⟩
                show EqSt _ _ _ _ _ _ _ _
                unfold lastB
                rw [if_neg hkd, hwl]
                exact HES6.out
              obtain ⟨b0, _⟩ := ROW.out _ _ _ HES6.out
              rw [← hwl] at b0 b1 ⊢
              clear hwl
            case pos =>
              go_wp2_with fail
              clear b0
              go_loopw [13] (fun i wi => ∃ (q nn : Nat), q ≤ b.code.length + 1 ∧ i = .int .i64 ((q : Int) - 1) ∧ nn ≤ 30 + 2 * (b.code.length + 1 - q) ∧ EqSt19 V1 nn (blkB b q o) wi) (fun i _ => (intOf i + 1).toNat)
              case atStart =>
                obtain ⟨nL, h1, h2⟩ := HESL.out
                exact ⟨b.code.length + 1, nL, Nat.le_refl _, by go_num, by omega, by show EqSt _ _ _ _ _ _ _ _; rw [HEND.out]; exact h2⟩
              case round =>
                clear HESL HES6
                obtain ⟨q, nq, hq, rfl, hnq, hes⟩ := hrel
                have HES := Lib.hid hes
                have HNQ := Lib.hid hnq
                clear hes hnq
                rcases Nat.eq_zero_or_pos q with rfl | hpos
                · skip
                  obtain ⟨ui, hui⟩ := row_get (j := j) HM1.out (by rw [HLN.out.2.2.1]; exact hlt)
                  obtain ⟨_, ⟨s0, _⟩, _, _, hrw, _⟩ := KEEP.out wr (HBE.out _ _ _ HES.out)
                  have e1 := hrw.cellAt hui
                  have hii := hrw.get hui
                  rw [HSOL.out.eqi j b HB.out, HO.out] at hii
                  have HII := Lib.hid hii
                  clear hui hrw hii
                  go_wp2_with fail
                  clear e1 s0
                  refine (QSAME.out _ _ _ _ HES.out HII.out (blkB_lt HBR.out HO12.out)).mono ?_
                  rintro e w7 ⟨rfl, hB7⟩
                  have HB7 := Lib.hid (HBE.out _ _ _ (HES.out.keep hB7))
                  clear hB7
                  go_wp2_with fail
                  exact ⟨⟨j + 1, by omega, by go_num, HB7.out⟩, by simp [intOf]; omega⟩
                · obtain ⟨a, rfl⟩ : ∃ a, q = a + 1 := ⟨q - 1, by omega⟩
                  have ha0 : (0 : Int) ≤ (a : Int) := by omega
                  have hqa : ((a + 1 : Nat) : Int) - 1 = (a : Int) := by omega
                  rw [hqa]
                  have HNX : Hid ((intOf (.int .i64 ((a : Int) - 1)) + 1).toNat < (intOf (.int .i64 (a : Int)) + 1).toNat) := by
                    show _ < _
                    (simp [intOf]) <;> omega
                  clear hqa
                  by_cases hal : a < b.code.length
                  · skip
                    have hal2 : (a : Int) < (b.code.length : Int) := by omega
                    obtain ⟨i, hi⟩ : ∃ i, b.code[a]? = some i := ⟨_, List.getElem?_eq_getElem hal⟩
                    have HI := Lib.hid hi
                    have HINS := Lib.hid (HBR.out.ins i (List.mem_of_getElem? hi)).2.2
                    have HCK : Hid (∀ nn ss w', EqSt19 V1 nn ss w' → CodeAt w' ca b.code) := fun nn ss w' h => (HCODE.out.below HBV1.out).below (below_self h.low (Nat.le_refl _))
                    have HCO := HCK.out _ _ _ HES.out
                    rcases HCO.at_ with h0 | ⟨cb, co, rfl, hcc⟩
                    · omega
                    obtain ⟨i0, i1, i2, i3, i4, i5⟩ := hcc a i hi
                    obtain ⟨b0, _⟩ := ROW.out _ _ _ HES.out
                    have QDE : Hid (∀ w', Calls Tryd.prog 23 #[.agg #[.int .u8 i.op, .int .i64 i.dst, .int .i64 i.x, .int .i64 i.y, .int .i64 i.imm, .string i.sym]] w' (DefOk i w')) := fun w' => defines_any i w'
                    have QUS : Hid (∀ w', Calls Tryd.prog 24 #[.agg #[.int .u8 i.op, .int .i64 i.dst, .int .i64 i.x, .int .i64 i.y, .int .i64 i.imm, .string i.sym]] w' (IntsNew i.uses w')) := fun w' => uses_any i w'
                    have HBL : Hid (∀ w', EqSt19 V1 nq (blkB b (a + 1) o) w' → True) := fun _ _ => trivial
                    clear hcc hi HCO HBL
                    go_wp2_with fail
                    clear i0 i1 i2 i3 i4 i5 b0
                    refine (QDE.out _).mono ?_
                    rintro e w7 ⟨rfl, hB7⟩
                    have HES7 := Lib.hid (HES.out.keep hB7)
                    clear hB7 HES
                    obtain ⟨dv, hdv⟩ : ∃ d, i.defines = d := ⟨_, rfl⟩
                    have HDV := Lib.hid hdv
                    rw [hdv]
                    obtain ⟨b0, _, _, _, _, m0⟩ := ROW.out _ _ _ HES7.out
                    cases dv with
                    | none =>
                      have HESD : Hid (EqSt19 V1 nq (defB i (blkB b (a + 1) o)) w7) := by
                        show EqSt _ _ _ _ _ _ _ _
                        unfold defB
                        rw [HDV.out]
                        exact HES7.out
                      clear hdv HES7 m0
                      clear b0
                      have HCO := HCK.out _ _ _ HESD.out
                      rcases HCO.at_ with h0 | ⟨cb', co', hcb, hcc⟩
                      · omega
                      injection hcb with hcb
                      injection hcb with hcb1 hcb2
                      subst hcb1
                      subst hcb2
                      obtain ⟨i0, i1, i2, i3, i4, i5⟩ := hcc a i HI.out
                      obtain ⟨b0, _⟩ := ROW.out _ _ _ HESD.out
                      clear hcc HCO
                      go_wp2_with fail
                      clear i0 i1 i2 i3 i4 i5 b0
                      refine (QUS.out _).mono ?_
                      rintro e w8 ⟨v8, rfl, hi8, hB8⟩
                      have HES8 := Lib.hid (HESD.out.keep hB8)
                      obtain ⟨lu, hlu⟩ : ∃ l, i.uses = l := ⟨_, rfl⟩
                      have HLU := Lib.hid hlu
                      have hlun : lu.length ≤ 2 := by rw [← hlu]; exact uses_len i
                      have HUIN : Hid (∀ r ∈ lu, 0 ≤ r ∧ r < (R : Int)) := by
                        show ∀ r ∈ lu, _
                        rw [← hlu]
                        exact HINS.out.use
                      have HFAR := Lib.hid hi8.far
                      rw [hlu] at HFAR
                      obtain ⟨va, vc, rfl, hvat⟩ := HFAR.out
                      have HVAT : Hid (lu.length = 0 ∨ ∃ b_1 off, va = some ⟨b_1, off, none⟩ ∧ b_1 ≠ V1.heap.size ∧ ∀ (i : Nat) (x : Int), lu[i]? = some x → w8.cell? ⟨b_1, off + i, none⟩ = some (.int .i64 x)) := by
                        rcases hvat with h | ⟨b1, o1, h1, h2, h3, h4⟩
                        · exact .inl h
                        · exact .inr ⟨b1, o1, h1, by have := HESD.out.sm.lt; omega, h4⟩
                      clear hi8 hB8 hlu HFAR hvat HESD
                      go_wp2_with fail
                      obtain ⟨S0, hS0⟩ : ∃ s, defB i (blkB b (a + 1) o) = s := ⟨_, rfl⟩
                      have HS0 := Lib.hid hS0
                      rw [hS0] at HES8
                      clear hS0
                      go_loopw [127] (fun iv wi => ∃ (m nm : Nat), m ≤ lu.length ∧ iv = .int .i64 (m : Int) ∧ nm ≤ nq + m ∧ EqSt19 V1 nm (useB (lu.take m) S0) wi ∧ w8.grownBy wi (some V1.heap.size)) (fun iv _ => lu.length - (intOf iv).toNat)
                      case atStart => exact ⟨0, nq, Nat.zero_le _, rfl, Nat.le_refl _, HES8.out, grown_refl _ _⟩
                      case round =>
                        clear HES8
                        obtain ⟨m, nm, hm, rfl, hnm, hes, hgr⟩ := hrel
                        have HES := Lib.hid hes
                        have HGR := Lib.hid hgr
                        have HNM := Lib.hid hnm
                        have hm0 : (0 : Int) ≤ (m : Int) := by omega
                        clear hes hgr hnm
                        by_cases hml : m < lu.length
                        · have hml2 : (m : Int) < (lu.length : Int) := by omega
                          obtain ⟨x, hx⟩ : ∃ x, lu[m]? = some x := ⟨_, List.getElem?_eq_getElem hml⟩
                          obtain ⟨hx0, hx1⟩ := HUIN.out x (List.mem_of_getElem? hx)
                          obtain ⟨r, rfl⟩ := Int.eq_ofNat_of_zero_le hx0
                          have hr12 : r < 12 := by have := HR12.out; omega
                          have HTM : Hid (useB (lu.take (m + 1)) S0 = addB (useB (lu.take m) S0) r) := by
                            show _ = _
                            rw [take_snoc hx, useB_snoc, Int.toNat_natCast]
                          rcases HVAT.out with h0 | ⟨ub, uo', rfl, hub, hcc⟩
                          · omega
                          have e1 := grown_cell HGR.out hub (hcc m _ hx)
                          obtain ⟨_, _, _, _, _, m0⟩ := ROW.out _ _ _ HES.out
                          have HSM9 := Lib.hid HES.out.sm
                          clear hcc hx hx0 hx1 hub
                          go_wp2_with (first
                            | (at_mapUpdate; refine wpList_store_set _ rfl _ _ _ 48 rfl 3 4 Tryd.underlying3 Tryd.underlying4 Tryd.underlying48 V1.heap.size nm (useB (lu.take m) S0) rfl HSM9.out r rfl rfl hr12 (by have := HNM.out; have := HNQ.out; unfold maxLen; omega) ?_)
                            | go_in)
                          intro w6 hsm6 hg6
                          have HES6 : Hid (EqSt19 V1 (nm + 1) (useB (lu.take (m + 1)) S0) w6) := by
                            show EqSt _ _ _ _ _ _ _ _
                            rw [HTM.out]
                            exact HES.out.turn hg6 hsm6
                          have HGR6 := Lib.hid (grown_step HGR.out hg6)
                          clear hsm6 hg6 e1 m0
                          go_wp2_with fail
                          exact ⟨⟨m + 1, nm + 1, by omega, by go_num, by have := HNM.out; omega, HES6.out, HGR6.out⟩, by simp [intOf]; omega⟩
                        · obtain rfl : m = lu.length := by omega
                          obtain ⟨nE, hnE⟩ : ∃ k, k = nm := ⟨_, rfl⟩
                          have HESE : Hid (EqSt19 V1 nE (blkB b a o) wr) := by
                            show EqSt _ _ _ _ _ _ _ _
                            have h9 := HES.out
                            rw [List.take_length, ← HLU.out, ← HS0.out] at h9
                            rw [blkB_step HI.out, hnE]
                            exact h9
                          have HNE : Hid (nE ≤ 30 + 2 * (b.code.length + 1 - a)) := by
                            show _ ≤ _
                            have := HNM.out
                            have := HNQ.out
                            omega
                          have hale : a ≤ b.code.length := by omega
                          obtain ⟨b0, _⟩ := ROW.out _ _ _ HESE.out
                          clear hnE HES HGR HNM
                          obtain ⟨⟨x0, x1, x2, x3⟩, ⟨s0, s1⟩, _⟩ := KEEP.out _ (HBE.out _ _ _ HESE.out)
                          have HBLT : Hid (blkB b a o < 2 ^ R) := blkB_lt HBR.out HO12.out
                          have HALE : Hid (a ≤ b.code.length) := hale
                          clear hale
                          go_wp2_with fail
                          clear x0 x1 x2 x3 s0 s1 b0
                          refine (QB.out a _ (HBE.out _ _ _ HESE.out) HALE.out).mono ?_
                          rintro e wb ⟨vb, rfl, hib, hBb⟩
                          have HESB := Lib.hid (HESE.out.keep hBb)
                          have HIB := Lib.hid hib
                          clear hib hBb
                          go_wp2_with fail
                          refine (QSAME.out _ _ _ _ HESB.out HIB.out HBLT.out).mono ?_
                          rintro e we ⟨rfl, hBe⟩
                          have HESF := Lib.hid (HESB.out.keep hBe)
                          clear hBe
                          go_wp2_with fail
                          exact ⟨⟨a, nE, by have := HALE.out; omega, by go_num, HNE.out, HESF.out⟩, HNX.out⟩
                    | some d =>
                      obtain ⟨hd0, hd1⟩ := HINS.out.dfn d hdv
                      obtain ⟨r, rfl⟩ := Int.eq_ofNat_of_zero_le hd0
                      have hr12 : r < 12 := by have := HR12.out; omega
                      have HSM9 := Lib.hid HES7.out.sm
                      have HB12 : Hid (blkB b (a + 1) o < 2 ^ 12) := H4096.out _ (blkB_lt HBR.out HO12.out)
                      clear hdv hd0 hd1
                      go_wp2_with (first
                        | (at_delete; refine wpList_delete_set _ rfl _ _ 48 3 rfl 4 Tryd.underlying3 Tryd.underlying48 V1.heap.size nq (blkB b (a + 1) o) rfl HSM9.out r rfl HB12.out hr12 ?_)
                        | go_in)
                      intro wd hsm9 hg9
                      have HESD : Hid (EqSt19 V1 nq (defB i (blkB b (a + 1) o)) wd) := by
                        show EqSt _ _ _ _ _ _ _ _
                        unfold defB
                        rw [HDV.out]
                        simp only [Int.toNat_natCast]
                        exact HES7.out.turn hg9 hsm9
                      clear b0 m0 hsm9 hg9 HES7 HSM9 HB12
                      obtain ⟨b0, _⟩ := ROW.out _ _ _ HESD.out
                      clear b0
                      have HCO := HCK.out _ _ _ HESD.out
                      rcases HCO.at_ with h0 | ⟨cb', co', hcb, hcc⟩
                      · omega
                      injection hcb with hcb
                      injection hcb with hcb1 hcb2
                      subst hcb1
                      subst hcb2
                      obtain ⟨i0, i1, i2, i3, i4, i5⟩ := hcc a i HI.out
                      obtain ⟨b0, _⟩ := ROW.out _ _ _ HESD.out
                      clear hcc HCO
                      go_wp2_with fail
                      clear i0 i1 i2 i3 i4 i5 b0
                      refine (QUS.out _).mono ?_
                      rintro e w8 ⟨v8, rfl, hi8, hB8⟩
                      have HES8 := Lib.hid (HESD.out.keep hB8)
                      obtain ⟨lu, hlu⟩ : ∃ l, i.uses = l := ⟨_, rfl⟩
                      have HLU := Lib.hid hlu
                      have hlun : lu.length ≤ 2 := by rw [← hlu]; exact uses_len i
                      have HUIN : Hid (∀ r ∈ lu, 0 ≤ r ∧ r < (R : Int)) := by
                        show ∀ r ∈ lu, _
                        rw [← hlu]
                        exact HINS.out.use
                      have HFAR := Lib.hid hi8.far
                      rw [hlu] at HFAR
                      obtain ⟨va, vc, rfl, hvat⟩ := HFAR.out
                      have HVAT : Hid (lu.length = 0 ∨ ∃ b_1 off, va = some ⟨b_1, off, none⟩ ∧ b_1 ≠ V1.heap.size ∧ ∀ (i : Nat) (x : Int), lu[i]? = some x → w8.cell? ⟨b_1, off + i, none⟩ = some (.int .i64 x)) := by
                        rcases hvat with h | ⟨b1, o1, h1, h2, h3, h4⟩
                        · exact .inl h
                        · exact .inr ⟨b1, o1, h1, by have := HESD.out.sm.lt; omega, h4⟩
                      clear hi8 hB8 hlu HFAR hvat HESD
                      go_wp2_with fail
                      obtain ⟨S0, hS0⟩ : ∃ s, defB i (blkB b (a + 1) o) = s := ⟨_, rfl⟩
                      have HS0 := Lib.hid hS0
                      rw [hS0] at HES8
                      clear hS0
                      go_loopw [127] (fun iv wi => ∃ (m nm : Nat), m ≤ lu.length ∧ iv = .int .i64 (m : Int) ∧ nm ≤ nq + m ∧ EqSt19 V1 nm (useB (lu.take m) S0) wi ∧ w8.grownBy wi (some V1.heap.size)) (fun iv _ => lu.length - (intOf iv).toNat)
                      case atStart => exact ⟨0, nq, Nat.zero_le _, rfl, Nat.le_refl _, HES8.out, grown_refl _ _⟩
                      case round =>
                        clear HES8
                        obtain ⟨m, nm, hm, rfl, hnm, hes, hgr⟩ := hrel
                        have HES := Lib.hid hes
                        have HGR := Lib.hid hgr
                        have HNM := Lib.hid hnm
                        have hm0 : (0 : Int) ≤ (m : Int) := by omega
                        clear hes hgr hnm
                        by_cases hml : m < lu.length
                        · have hml2 : (m : Int) < (lu.length : Int) := by omega
                          obtain ⟨x, hx⟩ : ∃ x, lu[m]? = some x := ⟨_, List.getElem?_eq_getElem hml⟩
                          obtain ⟨hx0, hx1⟩ := HUIN.out x (List.mem_of_getElem? hx)
                          obtain ⟨r, rfl⟩ := Int.eq_ofNat_of_zero_le hx0
                          have hr12 : r < 12 := by have := HR12.out; omega
                          have HTM : Hid (useB (lu.take (m + 1)) S0 = addB (useB (lu.take m) S0) r) := by
                            show _ = _
                            rw [take_snoc hx, useB_snoc, Int.toNat_natCast]
                          rcases HVAT.out with h0 | ⟨ub, uo', rfl, hub, hcc⟩
                          · omega
                          have e1 := grown_cell HGR.out hub (hcc m _ hx)
                          obtain ⟨_, _, _, _, _, m0⟩ := ROW.out _ _ _ HES.out
                          have HSM9 := Lib.hid HES.out.sm
                          clear hcc hx hx0 hx1 hub
                          go_wp2_with (first
                            | (at_mapUpdate; refine wpList_store_set _ rfl _ _ _ 48 rfl 3 4 Tryd.underlying3 Tryd.underlying4 Tryd.underlying48 V1.heap.size nm (useB (lu.take m) S0) rfl HSM9.out r rfl rfl hr12 (by have := HNM.out; have := HNQ.out; unfold maxLen; omega) ?_)
                            | go_in)
                          intro w6 hsm6 hg6
                          have HES6 : Hid (EqSt19 V1 (nm + 1) (useB (lu.take (m + 1)) S0) w6) := by
                            show EqSt _ _ _ _ _ _ _ _
                            rw [HTM.out]
                            exact HES.out.turn hg6 hsm6
                          have HGR6 := Lib.hid (grown_step HGR.out hg6)
                          clear hsm6 hg6 e1 m0
                          go_wp2_with fail
                          exact ⟨⟨m + 1, nm + 1, by omega, by go_num, by have := HNM.out; omega, HES6.out, HGR6.out⟩, by simp [intOf]; omega⟩
                        · obtain rfl : m = lu.length := by omega
                          obtain ⟨nE, hnE⟩ : ∃ k, k = nm := ⟨_, rfl⟩
                          have HESE : Hid (EqSt19 V1 nE (blkB b a o) wr) := by
                            show EqSt _ _ _ _ _ _ _ _
                            have h9 := HES.out
                            rw [List.take_length, ← HLU.out, ← HS0.out] at h9
                            rw [blkB_step HI.out, hnE]
                            exact h9
                          have HNE : Hid (nE ≤ 30 + 2 * (b.code.length + 1 - a)) := by
                            show _ ≤ _
                            have := HNM.out
                            have := HNQ.out
                            omega
                          have hale : a ≤ b.code.length := by omega
                          obtain ⟨b0, _⟩ := ROW.out _ _ _ HESE.out
                          clear hnE HES HGR HNM
                          obtain ⟨⟨x0, x1, x2, x3⟩, ⟨s0, s1⟩, _⟩ := KEEP.out _ (HBE.out _ _ _ HESE.out)
                          have HBLT : Hid (blkB b a o < 2 ^ R) := blkB_lt HBR.out HO12.out
                          have HALE : Hid (a ≤ b.code.length) := hale
                          clear hale
                          go_wp2_with fail
                          clear x0 x1 x2 x3 s0 s1 b0
                          refine (QB.out a _ (HBE.out _ _ _ HESE.out) HALE.out).mono ?_
                          rintro e wb ⟨vb, rfl, hib, hBb⟩
                          have HESB := Lib.hid (HESE.out.keep hBb)
                          have HIB := Lib.hid hib
                          clear hib hBb
                          go_wp2_with fail
                          refine (QSAME.out _ _ _ _ HESB.out HIB.out HBLT.out).mono ?_
                          rintro e we ⟨rfl, hBe⟩
                          have HESF := Lib.hid (HESB.out.keep hBe)
                          clear hBe
                          go_wp2_with fail
                          exact ⟨⟨a, nE, by have := HALE.out; omega, by go_num, HNE.out, HESF.out⟩, HNX.out⟩
                  · have HAE : Hid (a = b.code.length) := by show _ = _; omega
                    have hge : decide ((a : Int) < (b.code.length : Int)) = false := by simp; omega
                    obtain ⟨nE, hnE⟩ : ∃ k, k = nq := ⟨_, rfl⟩
                    have HESE : Hid (EqSt19 V1 nE (blkB b a o) wr) := by
                      show EqSt _ _ _ _ _ _ _ _
                      have h9 := HES.out
                      rw [HAE.out, HEND.out, ← blkB_end] at h9
                      rw [HAE.out, hnE]
                      exact h9
                    have HNE : Hid (nE ≤ 30 + 2 * (b.code.length + 1 - a)) := by
                      show _ ≤ _
                      have := HNQ.out
                      omega
                    have hale : a ≤ b.code.length := by omega
                    obtain ⟨b0, _⟩ := ROW.out _ _ _ HESE.out
                    clear hnE HES HNQ
                    obtain ⟨⟨x0, x1, x2, x3⟩, ⟨s0, s1⟩, _⟩ := KEEP.out _ (HBE.out _ _ _ HESE.out)
                    have HBLT : Hid (blkB b a o < 2 ^ R) := blkB_lt HBR.out HO12.out
                    have HALE : Hid (a ≤ b.code.length) := hale
                    clear hale
                    go_wp2_with fail
                    clear x0 x1 x2 x3 s0 s1 b0
                    refine (QB.out a _ (HBE.out _ _ _ HESE.out) HALE.out).mono ?_
                    rintro e wb ⟨vb, rfl, hib, hBb⟩
                    have HESB := Lib.hid (HESE.out.keep hBb)
                    have HIB := Lib.hid hib
                    clear hib hBb
                    go_wp2_with fail
                    refine (QSAME.out _ _ _ _ HESB.out HIB.out HBLT.out).mono ?_
                    rintro e we ⟨rfl, hBe⟩
                    have HESF := Lib.hid (HESB.out.keep hBe)
                    clear hBe
                    go_wp2_with fail
                    exact ⟨⟨a, nE, by have := HALE.out; omega, by go_num, HNE.out, HESF.out⟩, HNX.out⟩
            case neg =>
              go_wp2_with fail
              clear b0
              go_loopw [13] (fun i wi => ∃ (q nn : Nat), q ≤ b.code.length + 1 ∧ i = .int .i64 ((q : Int) - 1) ∧ nn ≤ 30 + 2 * (b.code.length + 1 - q) ∧ EqSt19 V1 nn (blkB b q o) wi) (fun i _ => (intOf i + 1).toNat)
              case atStart =>
                obtain ⟨nL, h1, h2⟩ := HESL.out
                exact ⟨b.code.length + 1, nL, Nat.le_refl _, by go_num, by omega, by show EqSt _ _ _ _ _ _ _ _; rw [HEND.out]; exact h2⟩
              case round =>
                clear HESL HES6
                obtain ⟨q, nq, hq, rfl, hnq, hes⟩ := hrel
                have HES := Lib.hid hes
                have HNQ := Lib.hid hnq
                clear hes hnq
                rcases Nat.eq_zero_or_pos q with rfl | hpos
                · skip
                  obtain ⟨ui, hui⟩ := row_get (j := j) HM1.out (by rw [HLN.out.2.2.1]; exact hlt)
                  obtain ⟨_, ⟨s0, _⟩, _, _, hrw, _⟩ := KEEP.out wr (HBE.out _ _ _ HES.out)
                  have e1 := hrw.cellAt hui
                  have hii := hrw.get hui
                  rw [HSOL.out.eqi j b HB.out, HO.out] at hii
                  have HII := Lib.hid hii
                  clear hui hrw hii
                  go_wp2_with fail
                  clear e1 s0
                  refine (QSAME.out _ _ _ _ HES.out HII.out (blkB_lt HBR.out HO12.out)).mono ?_
                  rintro e w7 ⟨rfl, hB7⟩
                  have HB7 := Lib.hid (HBE.out _ _ _ (HES.out.keep hB7))
                  clear hB7
                  go_wp2_with fail
                  exact ⟨⟨j + 1, by omega, by go_num, HB7.out⟩, by simp [intOf]; omega⟩
                · obtain ⟨a, rfl⟩ : ∃ a, q = a + 1 := ⟨q - 1, by omega⟩
                  have ha0 : (0 : Int) ≤ (a : Int) := by omega
                  have hqa : ((a + 1 : Nat) : Int) - 1 = (a : Int) := by omega
                  rw [hqa]
                  have HNX : Hid ((intOf (.int .i64 ((a : Int) - 1)) + 1).toNat < (intOf (.int .i64 (a : Int)) + 1).toNat) := by
                    show _ < _
                    (simp [intOf]) <;> omega
                  clear hqa
                  by_cases hal : a < b.code.length
                  · skip
                    have hal2 : (a : Int) < (b.code.length : Int) := by omega
                    obtain ⟨i, hi⟩ : ∃ i, b.code[a]? = some i := ⟨_, List.getElem?_eq_getElem hal⟩
                    have HI := Lib.hid hi
                    have HINS := Lib.hid (HBR.out.ins i (List.mem_of_getElem? hi)).2.2
                    have HCK : Hid (∀ nn ss w', EqSt19 V1 nn ss w' → CodeAt w' ca b.code) := fun nn ss w' h => (HCODE.out.below HBV1.out).below (below_self h.low (Nat.le_refl _))
                    have HCO := HCK.out _ _ _ HES.out
                    rcases HCO.at_ with h0 | ⟨cb, co, rfl, hcc⟩
                    · omega
                    obtain ⟨i0, i1, i2, i3, i4, i5⟩ := hcc a i hi
                    obtain ⟨b0, _⟩ := ROW.out _ _ _ HES.out
                    have QDE : Hid (∀ w', Calls Tryd.prog 23 #[.agg #[.int .u8 i.op, .int .i64 i.dst, .int .i64 i.x, .int .i64 i.y, .int .i64 i.imm, .string i.sym]] w' (DefOk i w')) := fun w' => defines_any i w'
                    have QUS : Hid (∀ w', Calls Tryd.prog 24 #[.agg #[.int .u8 i.op, .int .i64 i.dst, .int .i64 i.x, .int .i64 i.y, .int .i64 i.imm, .string i.sym]] w' (IntsNew i.uses w')) := fun w' => uses_any i w'
                    have HBL : Hid (∀ w', EqSt19 V1 nq (blkB b (a + 1) o) w' → True) := fun _ _ => trivial
                    clear hcc hi HCO HBL
                    go_wp2_with fail
                    clear i0 i1 i2 i3 i4 i5 b0
                    refine (QDE.out _).mono ?_
                    rintro e w7 ⟨rfl, hB7⟩
                    have HES7 := Lib.hid (HES.out.keep hB7)
                    clear hB7 HES
                    obtain ⟨dv, hdv⟩ : ∃ d, i.defines = d := ⟨_, rfl⟩
                    have HDV := Lib.hid hdv
                    rw [hdv]
                    obtain ⟨b0, _, _, _, _, m0⟩ := ROW.out _ _ _ HES7.out
                    cases dv with
                    | none =>
                      have HESD : Hid (EqSt19 V1 nq (defB i (blkB b (a + 1) o)) w7) := by
                        show EqSt _ _ _ _ _ _ _ _
                        unfold defB
                        rw [HDV.out]
                        exact HES7.out
                      clear hdv HES7 m0
                      clear b0
                      have HCO := HCK.out _ _ _ HESD.out
                      rcases HCO.at_ with h0 | ⟨cb', co', hcb, hcc⟩
                      · omega
                      injection hcb with hcb
                      injection hcb with hcb1 hcb2
                      subst hcb1
                      subst hcb2
                      obtain ⟨i0, i1, i2, i3, i4, i5⟩ := hcc a i HI.out
                      obtain ⟨b0, _⟩ := ROW.out _ _ _ HESD.out
                      clear hcc HCO
                      go_wp2_with fail
                      clear i0 i1 i2 i3 i4 i5 b0
                      refine (QUS.out _).mono ?_
                      rintro e w8 ⟨v8, rfl, hi8, hB8⟩
                      have HES8 := Lib.hid (HESD.out.keep hB8)
                      obtain ⟨lu, hlu⟩ : ∃ l, i.uses = l := ⟨_, rfl⟩
                      have HLU := Lib.hid hlu
                      have hlun : lu.length ≤ 2 := by rw [← hlu]; exact uses_len i
                      have HUIN : Hid (∀ r ∈ lu, 0 ≤ r ∧ r < (R : Int)) := by
                        show ∀ r ∈ lu, _
                        rw [← hlu]
                        exact HINS.out.use
                      have HFAR := Lib.hid hi8.far
                      rw [hlu] at HFAR
                      obtain ⟨va, vc, rfl, hvat⟩ := HFAR.out
                      have HVAT : Hid (lu.length = 0 ∨ ∃ b_1 off, va = some ⟨b_1, off, none⟩ ∧ b_1 ≠ V1.heap.size ∧ ∀ (i : Nat) (x : Int), lu[i]? = some x → w8.cell? ⟨b_1, off + i, none⟩ = some (.int .i64 x)) := by
                        rcases hvat with h | ⟨b1, o1, h1, h2, h3, h4⟩
                        · exact .inl h
                        · exact .inr ⟨b1, o1, h1, by have := HESD.out.sm.lt; omega, h4⟩
                      clear hi8 hB8 hlu HFAR hvat HESD
                      go_wp2_with fail
                      obtain ⟨S0, hS0⟩ : ∃ s, defB i (blkB b (a + 1) o) = s := ⟨_, rfl⟩
                      have HS0 := Lib.hid hS0
                      rw [hS0] at HES8
                      clear hS0
                      go_loopw [127] (fun iv wi => ∃ (m nm : Nat), m ≤ lu.length ∧ iv = .int .i64 (m : Int) ∧ nm ≤ nq + m ∧ EqSt19 V1 nm (useB (lu.take m) S0) wi ∧ w8.grownBy wi (some V1.heap.size)) (fun iv _ => lu.length - (intOf iv).toNat)
                      case atStart => exact ⟨0, nq, Nat.zero_le _, rfl, Nat.le_refl _, HES8.out, grown_refl _ _⟩
                      case round =>
                        clear HES8
                        obtain ⟨m, nm, hm, rfl, hnm, hes, hgr⟩ := hrel
                        have HES := Lib.hid hes
                        have HGR := Lib.hid hgr
                        have HNM := Lib.hid hnm
                        have hm0 : (0 : Int) ≤ (m : Int) := by omega
                        clear hes hgr hnm
                        by_cases hml : m < lu.length
                        · have hml2 : (m : Int) < (lu.length : Int) := by omega
                          obtain ⟨x, hx⟩ : ∃ x, lu[m]? = some x := ⟨_, List.getElem?_eq_getElem hml⟩
                          obtain ⟨hx0, hx1⟩ := HUIN.out x (List.mem_of_getElem? hx)
                          obtain ⟨r, rfl⟩ := Int.eq_ofNat_of_zero_le hx0
                          have hr12 : r < 12 := by have := HR12.out; omega
                          have HTM : Hid (useB (lu.take (m + 1)) S0 = addB (useB (lu.take m) S0) r) := by
                            show _ = _
                            rw [take_snoc hx, useB_snoc, Int.toNat_natCast]
                          rcases HVAT.out with h0 | ⟨ub, uo', rfl, hub, hcc⟩
                          · omega
                          have e1 := grown_cell HGR.out hub (hcc m _ hx)
                          obtain ⟨_, _, _, _, _, m0⟩ := ROW.out _ _ _ HES.out
                          have HSM9 := Lib.hid HES.out.sm
                          clear hcc hx hx0 hx1 hub
                          go_wp2_with (first
                            | (at_mapUpdate; refine wpList_store_set _ rfl _ _ _ 48 rfl 3 4 Tryd.underlying3 Tryd.underlying4 Tryd.underlying48 V1.heap.size nm (useB (lu.take m) S0) rfl HSM9.out r rfl rfl hr12 (by have := HNM.out; have := HNQ.out; unfold maxLen; omega) ?_)
                            | go_in)
                          intro w6 hsm6 hg6
                          have HES6 : Hid (EqSt19 V1 (nm + 1) (useB (lu.take (m + 1)) S0) w6) := by
                            show EqSt _ _ _ _ _ _ _ _
                            rw [HTM.out]
                            exact HES.out.turn hg6 hsm6
                          have HGR6 := Lib.hid (grown_step HGR.out hg6)
                          clear hsm6 hg6 e1 m0
                          go_wp2_with fail
                          exact ⟨⟨m + 1, nm + 1, by omega, by go_num, by have := HNM.out; omega, HES6.out, HGR6.out⟩, by simp [intOf]; omega⟩
                        · obtain rfl : m = lu.length := by omega
                          obtain ⟨nE, hnE⟩ : ∃ k, k = nm := ⟨_, rfl⟩
                          have HESE : Hid (EqSt19 V1 nE (blkB b a o) wr) := by
                            show EqSt _ _ _ _ _ _ _ _
                            have h9 := HES.out
                            rw [List.take_length, ← HLU.out, ← HS0.out] at h9
                            rw [blkB_step HI.out, hnE]
                            exact h9
                          have HNE : Hid (nE ≤ 30 + 2 * (b.code.length + 1 - a)) := by
                            show _ ≤ _
                            have := HNM.out
                            have := HNQ.out
                            omega
                          have hale : a ≤ b.code.length := by omega
                          obtain ⟨b0, _⟩ := ROW.out _ _ _ HESE.out
                          clear hnE HES HGR HNM
                          obtain ⟨⟨x0, x1, x2, x3⟩, ⟨s0, s1⟩, _⟩ := KEEP.out _ (HBE.out _ _ _ HESE.out)
                          have HBLT : Hid (blkB b a o < 2 ^ R) := blkB_lt HBR.out HO12.out
                          have HALE : Hid (a ≤ b.code.length) := hale
                          clear hale
                          go_wp2_with fail
                          clear x0 x1 x2 x3 s0 s1 b0
                          refine (QB.out a _ (HBE.out _ _ _ HESE.out) HALE.out).mono ?_
                          rintro e wb ⟨vb, rfl, hib, hBb⟩
                          have HESB := Lib.hid (HESE.out.keep hBb)
                          have HIB := Lib.hid hib
                          clear hib hBb
                          go_wp2_with fail
                          refine (QSAME.out _ _ _ _ HESB.out HIB.out HBLT.out).mono ?_
                          rintro e we ⟨rfl, hBe⟩
                          have HESF := Lib.hid (HESB.out.keep hBe)
                          clear hBe
                          go_wp2_with fail
                          exact ⟨⟨a, nE, by have := HALE.out; omega, by go_num, HNE.out, HESF.out⟩, HNX.out⟩
                    | some d =>
                      obtain ⟨hd0, hd1⟩ := HINS.out.dfn d hdv
                      obtain ⟨r, rfl⟩ := Int.eq_ofNat_of_zero_le hd0
                      have hr12 : r < 12 := by have := HR12.out; omega
                      have HSM9 := Lib.hid HES7.out.sm
                      have HB12 : Hid (blkB b (a + 1) o < 2 ^ 12) := H4096.out _ (blkB_lt HBR.out HO12.out)
                      clear hdv hd0 hd1
                      go_wp2_with (first
                        | (at_delete; refine wpList_delete_set _ rfl _ _ 48 3 rfl 4 Tryd.underlying3 Tryd.underlying48 V1.heap.size nq (blkB b (a + 1) o) rfl HSM9.out r rfl HB12.out hr12 ?_)
                        | go_in)
                      intro wd hsm9 hg9
                      have HESD : Hid (EqSt19 V1 nq (defB i (blkB b (a + 1) o)) wd) := by
                        show EqSt _ _ _ _ _ _ _ _
                        unfold defB
                        rw [HDV.out]
                        simp only [Int.toNat_natCast]
                        exact HES7.out.turn hg9 hsm9
                      clear b0 m0 hsm9 hg9 HES7 HSM9 HB12
                      obtain ⟨b0, _⟩ := ROW.out _ _ _ HESD.out
                      clear b0
                      have HCO := HCK.out _ _ _ HESD.out
                      rcases HCO.at_ with h0 | ⟨cb', co', hcb, hcc⟩
                      · omega
                      injection hcb with hcb
                      injection hcb with hcb1 hcb2
                      subst hcb1
                      subst hcb2
                      obtain ⟨i0, i1, i2, i3, i4, i5⟩ := hcc a i HI.out
                      obtain ⟨b0, _⟩ := ROW.out _ _ _ HESD.out
                      clear hcc HCO
                      go_wp2_with fail
                      clear i0 i1 i2 i3 i4 i5 b0
                      refine (QUS.out _).mono ?_
                      rintro e w8 ⟨v8, rfl, hi8, hB8⟩
                      have HES8 := Lib.hid (HESD.out.keep hB8)
                      obtain ⟨lu, hlu⟩ : ∃ l, i.uses = l := ⟨_, rfl⟩
                      have HLU := Lib.hid hlu
                      have hlun : lu.length ≤ 2 := by rw [← hlu]; exact uses_len i
                      have HUIN : Hid (∀ r ∈ lu, 0 ≤ r ∧ r < (R : Int)) := by
                        show ∀ r ∈ lu, _
                        rw [← hlu]
                        exact HINS.out.use
                      have HFAR := Lib.hid hi8.far
                      rw [hlu] at HFAR
                      obtain ⟨va, vc, rfl, hvat⟩ := HFAR.out
                      have HVAT : Hid (lu.length = 0 ∨ ∃ b_1 off, va = some ⟨b_1, off, none⟩ ∧ b_1 ≠ V1.heap.size ∧ ∀ (i : Nat) (x : Int), lu[i]? = some x → w8.cell? ⟨b_1, off + i, none⟩ = some (.int .i64 x)) := by
                        rcases hvat with h | ⟨b1, o1, h1, h2, h3, h4⟩
                        · exact .inl h
                        · exact .inr ⟨b1, o1, h1, by have := HESD.out.sm.lt; omega, h4⟩
                      clear hi8 hB8 hlu HFAR hvat HESD
                      go_wp2_with fail
                      obtain ⟨S0, hS0⟩ : ∃ s, defB i (blkB b (a + 1) o) = s := ⟨_, rfl⟩
                      have HS0 := Lib.hid hS0
                      rw [hS0] at HES8
                      clear hS0
                      go_loopw [127] (fun iv wi => ∃ (m nm : Nat), m ≤ lu.length ∧ iv = .int .i64 (m : Int) ∧ nm ≤ nq + m ∧ EqSt19 V1 nm (useB (lu.take m) S0) wi ∧ w8.grownBy wi (some V1.heap.size)) (fun iv _ => lu.length - (intOf iv).toNat)
                      case atStart => exact ⟨0, nq, Nat.zero_le _, rfl, Nat.le_refl _, HES8.out, grown_refl _ _⟩
                      case round =>
                        clear HES8
                        obtain ⟨m, nm, hm, rfl, hnm, hes, hgr⟩ := hrel
                        have HES := Lib.hid hes
                        have HGR := Lib.hid hgr
                        have HNM := Lib.hid hnm
                        have hm0 : (0 : Int) ≤ (m : Int) := by omega
                        clear hes hgr hnm
                        by_cases hml : m < lu.length
                        · have hml2 : (m : Int) < (lu.length : Int) := by omega
                          obtain ⟨x, hx⟩ : ∃ x, lu[m]? = some x := ⟨_, List.getElem?_eq_getElem hml⟩
                          obtain ⟨hx0, hx1⟩ := HUIN.out x (List.mem_of_getElem? hx)
                          obtain ⟨r, rfl⟩ := Int.eq_ofNat_of_zero_le hx0
                          have hr12 : r < 12 := by have := HR12.out; omega
                          have HTM : Hid (useB (lu.take (m + 1)) S0 = addB (useB (lu.take m) S0) r) := by
                            show _ = _
                            rw [take_snoc hx, useB_snoc, Int.toNat_natCast]
                          rcases HVAT.out with h0 | ⟨ub, uo', rfl, hub, hcc⟩
                          · omega
                          have e1 := grown_cell HGR.out hub (hcc m _ hx)
                          obtain ⟨_, _, _, _, _, m0⟩ := ROW.out _ _ _ HES.out
                          have HSM9 := Lib.hid HES.out.sm
                          clear hcc hx hx0 hx1 hub
                          go_wp2_with (first
                            | (at_mapUpdate; refine wpList_store_set _ rfl _ _ _ 48 rfl 3 4 Tryd.underlying3 Tryd.underlying4 Tryd.underlying48 V1.heap.size nm (useB (lu.take m) S0) rfl HSM9.out r rfl rfl hr12 (by have := HNM.out; have := HNQ.out; unfold maxLen; omega) ?_)
                            | go_in)
                          intro w6 hsm6 hg6
                          have HES6 : Hid (EqSt19 V1 (nm + 1) (useB (lu.take (m + 1)) S0) w6) := by
                            show EqSt _ _ _ _ _ _ _ _
                            rw [HTM.out]
                            exact HES.out.turn hg6 hsm6
                          have HGR6 := Lib.hid (grown_step HGR.out hg6)
                          clear hsm6 hg6 e1 m0
                          go_wp2_with fail
                          exact ⟨⟨m + 1, nm + 1, by omega, by go_num, by have := HNM.out; omega, HES6.out, HGR6.out⟩, by simp [intOf]; omega⟩
                        · obtain rfl : m = lu.length := by omega
                          obtain ⟨nE, hnE⟩ : ∃ k, k = nm := ⟨_, rfl⟩
                          have HESE : Hid (EqSt19 V1 nE (blkB b a o) wr) := by
                            show EqSt _ _ _ _ _ _ _ _
                            have h9 := HES.out
                            rw [List.take_length, ← HLU.out, ← HS0.out] at h9
                            rw [blkB_step HI.out, hnE]
                            exact h9
                          have HNE : Hid (nE ≤ 30 + 2 * (b.code.length + 1 - a)) := by
                            show _ ≤ _
                            have := HNM.out
                            have := HNQ.out
                            omega
                          have hale : a ≤ b.code.length := by omega
                          obtain ⟨b0, _⟩ := ROW.out _ _ _ HESE.out
                          clear hnE HES HGR HNM
                          obtain ⟨⟨x0, x1, x2, x3⟩, ⟨s0, s1⟩, _⟩ := KEEP.out _ (HBE.out _ _ _ HESE.out)
                          have HBLT : Hid (blkB b a o < 2 ^ R) := blkB_lt HBR.out HO12.out
                          have HALE : Hid (a ≤ b.code.length) := hale
                          clear hale
                          go_wp2_with fail
                          clear x0 x1 x2 x3 s0 s1 b0
                          refine (QB.out a _ (HBE.out _ _ _ HESE.out) HALE.out).mono ?_
                          rintro e wb ⟨vb, rfl, hib, hBb⟩
                          have HESB := Lib.hid (HESE.out.keep hBb)
                          have HIB := Lib.hid hib
                          clear hib hBb
                          go_wp2_with fail
                          refine (QSAME.out _ _ _ _ HESB.out HIB.out HBLT.out).mono ?_
                          rintro e we ⟨rfl, hBe⟩
                          have HESF := Lib.hid (HESB.out.keep hBe)
                          clear hBe
                          go_wp2_with fail
                          exact ⟨⟨a, nE, by have := HALE.out; omega, by go_num, HNE.out, HESF.out⟩, HNX.out⟩
                  · have HAE : Hid (a = b.code.length) := by show _ = _; omega
                    have hge : decide ((a : Int) < (b.code.length : Int)) = false := by simp; omega
                    obtain ⟨nE, hnE⟩ : ∃ k, k = nq := ⟨_, rfl⟩
                    have HESE : Hid (EqSt19 V1 nE (blkB b a o) wr) := by
                      show EqSt _ _ _ _ _ _ _ _
                      have h9 := HES.out
                      rw [HAE.out, HEND.out, ← blkB_end] at h9
                      rw [HAE.out, hnE]
                      exact h9
                    have HNE : Hid (nE ≤ 30 + 2 * (b.code.length + 1 - a)) := by
                      show _ ≤ _
                      have := HNQ.out
                      omega
                    have hale : a ≤ b.code.length := by omega
                    obtain ⟨b0, _⟩ := ROW.out _ _ _ HESE.out
                    clear hnE HES HNQ
                    obtain ⟨⟨x0, x1, x2, x3⟩, ⟨s0, s1⟩, _⟩ := KEEP.out _ (HBE.out _ _ _ HESE.out)
                    have HBLT : Hid (blkB b a o < 2 ^ R) := blkB_lt HBR.out HO12.out
                    have HALE : Hid (a ≤ b.code.length) := hale
                    clear hale
                    go_wp2_with fail
                    clear x0 x1 x2 x3 s0 s1 b0
                    refine (QB.out a _ (HBE.out _ _ _ HESE.out) HALE.out).mono ?_
                    rintro e wb ⟨vb, rfl, hib, hBb⟩
                    have HESB := Lib.hid (HESE.out.keep hBb)
                    have HIB := Lib.hid hib
                    clear hib hBb
                    go_wp2_with fail
                    refine (QSAME.out _ _ _ _ HESB.out HIB.out HBLT.out).mono ?_
                    rintro e we ⟨rfl, hBe⟩
                    have HESF := Lib.hid (HESB.out.keep hBe)
                    clear hBe
                    go_wp2_with fail
                    exact ⟨⟨a, nE, by have := HALE.out; omega, by go_num, HNE.out, HESF.out⟩, HNX.out⟩
      · obtain rfl : n = j := by omega
        obtain ⟨_, _, hbw, _⟩ := KEEP.out wr HBEL.out
        have HBN := Lib.hid hbw
        clear hbw
        go_wp2_with fail
        go_ret
        exact ⟨rfl, HBN.out⟩
end Go.Proofs.YteknhnnlhhgppaaDoor
