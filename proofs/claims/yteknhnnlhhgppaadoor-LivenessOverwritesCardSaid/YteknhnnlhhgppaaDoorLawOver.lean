/-
  LivenessOverwrites (package ontimelaw19): a register that is not live may be overwritten.
-/
import Derived.Test.YteknhnnlhhgppaaDoorBehave
import Derived.Test.YteknhnnlhhgppaaDoorMg45
import Derived.Test.YteknhnnlhhgppaaDoorMg38
import Derived.Test.YteknhnnlhhgppaaDoorMg46
import Derived.Test.YteknhnnlhhgppaaDoorMg43
import Derived.Test.YteknhnnlhhgppaaDoorLiveAwake
import Derived.Deep.RegionHeld3
import Derived.Deep.DeepCutAuto
namespace Go.Proofs.YteknhnnlhhgppaaDoor
set_option linter.unusedVariables false
set_option linter.unusedSimpArgs false
open Go.RowKit
set_option maxRecDepth 100000
set_option maxHeartbeats 16000000

theorem overwrites_any (f : Fn) (shared : List (ByteArray × Int)) (arrays objects : List (List Int)) (inp : List Int) (aa ba sa ara oba ia : Option Addr) (ac bc sc arc obc ic : Nat) (x y v : Int) (w : World) (hf : FnAt w f aa ba) (hc : CallAt w shared arrays objects inp sa ara oba ia) (hz : CallSz shared arrays objects)
    (hx : 0 ≤ x ∧ x ≤ 255) (hy : 0 ≤ y ∧ y ≤ 255) (hv : -2147483648 ≤ v ∧ v ≤ 2147483647) (hT : TabAt 0 Lib.deBruijn64tab w) :
    Calls Tryd.prog 8 #[callV f aa ac ba bc shared arrays objects inp sa sc ara arc oba obc ia ic, .int .u8 x, .int .u8 y, .int .i32 v] w fun e w' => e = .returned (.bool true) ∧ Below w.heap.size w w' := by
  have HF := Lib.hid hf
  have HC := Lib.hid hc
  have HZ := Lib.hid hz
  have HT := Lib.hid hT
  obtain ⟨n, hn⟩ : ∃ n, f.blocks.length = n := ⟨_, rfl⟩
  have HN := Lib.hid hn
  obtain ⟨W, hW⟩ : ∃ W : World, w.alloc (.cells #[.string f.name, .int .i64 f.regs, .slice aa f.arrays.length ac, .slice ba n bc, .slice sa shared.length sc, .slice ara arrays.length arc, .slice oba objects.length obc, .slice ia inp.length ic] 68) = W := ⟨_, rfl⟩
  have HBW : Hid (Below w.heap.size w W) := by show Below _ _ _; rw [← hW]; exact mem_alloc _ _
  have HX : Hid (W.heap[w.heap.size]? = some (.cells #[.string f.name, .int .i64 f.regs, .slice aa f.arrays.length ac, .slice ba n bc, .slice sa shared.length sc, .slice ara arrays.length arc, .slice oba objects.length obc, .slice ia inp.length ic] 68)) := by
    show _ = _
    rw [← hW]
    exact mem_new _ _
  have HXC : Hid (∀ w', Below W.heap.size W w' → (w'.cell? ⟨w.heap.size, 0, none⟩ = some (.string f.name) ∧ w'.cell? ⟨w.heap.size, 1, none⟩ = some (.int .i64 f.regs) ∧ w'.cell? ⟨w.heap.size, 2, none⟩ = some (.slice aa f.arrays.length ac) ∧ w'.cell? ⟨w.heap.size, 3, none⟩ = some (.slice ba n bc)) ∧ Below w.heap.size w w' ∧ FnAt w' f aa ba) := fun w' h => by
    have h9 := mem_keep HX.out h
    have h7 := mem_then HBW.out h
    exact ⟨⟨cell_heap h9 0, cell_heap h9 1, cell_heap h9 2, cell_heap h9 3⟩, h7, HF.out.below h7⟩
  have HXD : Hid (∀ w', Below W.heap.size W w' → (w'.cell? ⟨w.heap.size, 4, none⟩ = some (.slice sa shared.length sc) ∧ w'.cell? ⟨w.heap.size, 5, none⟩ = some (.slice ara arrays.length arc) ∧ w'.cell? ⟨w.heap.size, 6, none⟩ = some (.slice oba objects.length obc) ∧ w'.cell? ⟨w.heap.size, 7, none⟩ = some (.slice ia inp.length ic)) ∧ CallAt w' shared arrays objects inp sa ara oba ia) := fun w' h => by
    have h9 := mem_keep HX.out h
    exact ⟨⟨cell_heap h9 4, cell_heap h9 5, cell_heap h9 6, cell_heap h9 7⟩, HC.out.below (mem_then HBW.out h)⟩
  obtain ⟨⟨x0, x1, x2, x3⟩, _, _⟩ := HXC.out W (Below.refl _ _)
  have QS : Hid (∀ w', FnAt w' f aa ba → Calls Tryd.prog 20 #[.agg #[.string f.name, .int .i64 f.regs, .slice aa f.arrays.length ac, .slice ba n bc]] w' (Tells (SmallF f ∧ FormF f) w')) := fun w' h => by
    have h9 := formLaw_any f aa ba ac bc w' h
    rw [HN.out] at h9
    exact h9
  unfold callV
  rw [hn]
  clear hf hT hn hc hz
  go_enter Tryd.func8, Tryd.ntmps8
  go_wp2_with fail
  clear hW x0 x1 x2 x3
  refine (awake_any _ (tab_keep HT.out HBW.out)).mono ?_
  rintro e w1 ⟨rfl, hB1⟩
  have HB1 := Lib.hid hB1
  obtain ⟨⟨x0, x1, x2, x3⟩, hbf, hfn⟩ := HXC.out w1 hB1
  have HBF1 := Lib.hid hbf
  have HFN1 := Lib.hid hfn
  clear hB1 hbf hfn
  go_wp2_with fail
  clear x0 x1 x2 x3
  refine (QS.out _ HFN1.out).mono ?_
  rintro e w2 ⟨r, rfl, hr, hB2⟩
  have HR := Lib.hid hr
  have HB2 : Hid (Below W.heap.size W w2) := below_step HB1.out hB2
  obtain ⟨⟨x0, x1, x2, x3⟩, hbf, hfn⟩ := HXC.out w2 HB2.out
  have HBF2 := Lib.hid hbf
  have HFN2 := Lib.hid hfn
  clear hr hB2 hbf hfn
  cases r with
  | false =>
    go_wp2_with fail
    refine (awake_any _ (tab_keep HT.out HBF2.out)).mono ?_
    rintro e w3 ⟨rfl, hB3⟩
    have HB3 : Hid (Below w.heap.size w w3) := below_step HBF2.out hB3
    clear hB3
    go_wp2_with fail
    go_ret
    exact ⟨rfl, HB3.out⟩
  | true =>
    have HSM := Lib.hid (HR.out.1 rfl).1
    have HFM := Lib.hid (HR.out.1 rfl).2
    have HFIT := Lib.hid (small_fits HSM.out)
    obtain ⟨R, hR⟩ : ∃ R : Nat, f.regs = (R : Int) := ⟨f.regs.toNat, (Int.toNat_of_nonneg HFM.out.r0).symm⟩
    have hR12 : R ≤ 12 := by have := HSM.out.rg; omega
    simp only [hR] at HX HXC ⊢
    have HREG := Lib.hid hR
    have HR12 := Lib.hid hR12
    have HFR : Hid (FormR f R) := by
      have h9 := HFM.out.small HSM.out.rg
      rw [hR, Int.toNat_natCast] at h9
      exact h9
    simp only [hR] at x1
    clear hR
    have hn0 : 0 < n := by have := HFM.out.one; have := HN.out; omega
    have HN0 := Lib.hid hn0
    have hnb : n ≤ 1000 := by have := HFIT.out.1; have := HN.out; omega
    have HNB := Lib.hid hnb
    have hnp : (0 : Int) < (n : Int) := by omega
    obtain ⟨k, hk⟩ : ∃ k : Nat, x % (n : Int) = (k : Int) := ⟨(x % (n : Int)).toNat, by have := Int.emod_nonneg x (b := (n : Int)) (by omega); omega⟩
    have hkn : k < n := by have := Int.emod_lt_of_pos x hnp; omega
    have hxm : x.tmod (n : Int) = (k : Int) := by rw [Int.tmod_eq_emod_of_nonneg hx.1]; exact hk
    have hwx : IntKind.i64.wrap x = x := by rw [IntKind.wrap_i64]; omega
    have hwy : IntKind.i64.wrap y = y := by rw [IntKind.wrap_i64]; omega
    have hnne : (n : Int) ≠ 0 := by omega
    have hk0 : (0 : Int) ≤ (k : Int) := by omega
    have hkI : (k : Int) < (n : Int) := by omega
    obtain ⟨q0, hq0⟩ : ∃ q0, f.blocks[k]? = some q0 := ⟨_, List.getElem?_eq_getElem (by rw [HN.out]; exact hkn)⟩
    have HQ0 := Lib.hid hq0
    have hql : q0.code.length ≤ 20 := HSM.out.cd q0 (List.mem_of_getElem? hq0)
    have HQL := Lib.hid hql
    have HKN := Lib.hid hkn
    obtain ⟨len, hlen⟩ : ∃ l, q0.code.length = l := ⟨_, rfl⟩
    have HLEN := Lib.hid hlen
    rw [hlen] at hql
    have hlp : (0 : Int) < (len : Int) + 1 := by omega
    obtain ⟨i, hi⟩ : ∃ i : Nat, y % ((len : Int) + 1) = (i : Int) := ⟨(y % ((len : Int) + 1)).toNat, by have := Int.emod_nonneg y (b := (len : Int) + 1) (by omega); omega⟩
    have hil : i ≤ len := by have := Int.emod_lt_of_pos y hlp; omega
    have HIL := Lib.hid hil
    have hym : y.tmod ((len : Int) + 1) = (i : Int) := by rw [Int.tmod_eq_emod_of_nonneg hy.1]; exact hi
    have hlne : (len : Int) + 1 ≠ 0 := by omega
    have hwl : IntKind.i64.wrap ((len : Int) + 1) = (len : Int) + 1 := by rw [IntKind.wrap_i64]; omega
    rcases HFN2.out.blocks.at_ with h0 | ⟨bb, off, rfl, hcell⟩
    · have := HN.out; omega
    obtain ⟨ca, cc, hba, _⟩ := hcell k q0 hq0
    obtain ⟨z0, z1, z2, z3, z4⟩ := hba
    rw [hlen] at z0
    have QO : Hid (∀ w', FnAt w' f aa (some ⟨bb, off, none⟩) → Below w.heap.size w w' → Calls Tryd.prog 12 #[.agg #[.string f.name, .int .i64 (R : Int), .slice aa f.arrays.length ac, .slice (some ⟨bb, off, none⟩) n bc]] w' (OfEnd f R w')) := fun w' h hB => by
      have h9 := of_any f R aa (some ⟨bb, off, none⟩) ac bc w' h HFM.out HREG.out HR12.out HFIT.out.1 HFIT.out.2 (tab_keep HT.out hB)
      rw [HREG.out, HN.out] at h9
      exact h9
    have QCP : Hid (∀ w', FnAt w' f aa (some ⟨bb, off, none⟩) → Calls Tryd.prog 25 #[.agg #[.string f.name, .int .i64 (R : Int), .slice aa f.arrays.length ac, .slice (some ⟨bb, off, none⟩) n bc]] w' fun e w'' => ∃ (g bc' : Nat) (l : List BlkP), e = .returned (fnVal f.name (R : Int) aa f.arrays.length ac (some ⟨g, 0, none⟩) n bc') ∧
        BlkOwn w'.heap.size 43 54 w'' (.slice (some ⟨g, 0, none⟩) n bc') l ∧ l.map (·.blk) = f.blocks ∧ Below w'.heap.size w' w'') := fun w' h => by
      have h9 := copied19_any f aa (some ⟨bb, off, none⟩) ac bc w' h HFM.out.one (by have := HFIT.out.1; omega) HFIT.out.2
      rw [HREG.out, HN.out] at h9
      exact h9
    have HV := Lib.hid hv
    clear hlen hk hi hcell hq0 hkn hv
    go_wp2_with fail
    clear x0 x1 x2 x3 z0 z1 z2 z3 z4 hxm hym hwx hwy hlne hwl hnne
    refine (QO.out _ HFN2.out HBF2.out).mono ?_
    rintro e w3 ⟨iv, ov, rin, rout, ins, outs, rfl, hri, hro, hsol, hm1, hm2, hB3⟩
    have HSOL := Lib.hid hsol
    have HM2 := Lib.hid hm2
    have HLN : Hid (rin.length = n ∧ rout.length = n ∧ ins.length = n ∧ outs.length = n) := by
      have e1 : ins.length = n := by rw [hsol.li, HN.out]
      have e2 : outs.length = n := by rw [hsol.lo, HN.out]
      have e3 := congrArg List.length hm1
      have e4 := congrArg List.length hm2
      simp only [List.length_map] at e3 e4
      exact ⟨by omega, by omega, e1, e2⟩
    obtain ⟨iva, ivc, rfl⟩ : ∃ a c, iv = .slice a n c := by
      obtain ⟨a, c, h9⟩ := hri.val
      exact ⟨a, c, by rw [h9, HLN.out.1]⟩
    obtain ⟨ova, ovc, rfl⟩ : ∃ a c, ov = .slice a n c := by
      obtain ⟨a, c, h9⟩ := hro.val
      exact ⟨a, c, by rw [h9, HLN.out.2.1]⟩
    have HRO := Lib.hid hro
    obtain ⟨V3, hV3⟩ : ∃ V3 : World, w3.alloc (.cells #[.slice iva n ivc, .slice ova n ovc] 30) = V3 := ⟨_, rfl⟩
    have HBV3 : Hid (Below w3.heap.size w3 V3) := by show Below _ _ _; rw [← hV3]; exact mem_alloc _ _
    have HS3 : Hid (V3.heap[w3.heap.size]? = some (.cells #[.slice iva n ivc, .slice ova n ovc] 30)) := by show _ = _; rw [← hV3]; exact mem_new _ _
    have HB3 : Hid (Below W.heap.size W V3) := mem_then HB2.out (mem_then hB3 HBV3.out)
    have HRO3 := Lib.hid (HRO.out.keep HBV3.out)
    obtain ⟨uo, huo⟩ := row_get (j := k) HM2.out (by rw [HLN.out.2.2.2]; exact HKN.out)
    have HUO := Lib.hid huo
    obtain ⟨o, ho⟩ : ∃ o, outs.getD k 0 = o := ⟨_, rfl⟩
    rw [ho] at huo
    have HO := Lib.hid ho
    have HO12 : Hid (o < 2 ^ R) := by show _ < _; rw [← ho]; exact hsol.bo k
    obtain ⟨Lb, hLb⟩ : ∃ L, blkB q0 i o = L := ⟨_, rfl⟩
    have HLB := Lib.hid hLb
    have HLB12 : Hid (Lb < 4096) := by
      show _ < _
      have h1 : Lb < 2 ^ R := by rw [← hLb]; exact blkB_lt (k := i) (HFR.out.blk q0 (List.mem_of_getElem? HQ0.out)) HO12.out
      exact Nat.lt_of_lt_of_le h1 (Nat.pow_le_pow_right (n := 2) (by omega) HR12.out)
    have QB : Hid (∀ w', Below V3.heap.size V3 w' → Calls Tryd.prog 15 #[.agg #[.string f.name, .int .i64 (R : Int), .slice aa f.arrays.length ac, .slice (some ⟨bb, off, none⟩) n bc], .agg #[.slice iva n ivc, .slice ova n ovc], .int .i64 (k : Int), .int .i64 (i : Int)] w' fun e w'' => ∃ v, e = .returned v ∧ IntsAt w'' v (listB Lb) ∧ Below w'.heap.size w' w'') := fun w' h => by
      obtain ⟨_, hbw, hfw⟩ := HXC.out w' (mem_then HB3.out h)
      have h9 := before_any f R aa (some ⟨bb, off, none⟩) ac bc (.slice iva n ivc) (.slice ova n ovc) w2.heap.size o k i q0 rout uo w' hfw HFM.out HREG.out HR12.out HFIT.out.1 HFIT.out.2 (tab_keep HT.out hbw) ⟨_, _, _, rfl⟩ (HRO3.out.keep h) (by rw [HLN.out.2.1, HN.out]) HQ0.out (by rw [HLEN.out]; exact HIL.out) (by rw [← HO.out]; exact HUO.out) HO12.out
      rw [HREG.out, HN.out, HLB.out] at h9
      exact h9.mono fun e w'' ⟨v, h1, h2, h3⟩ => ⟨v, h1, h2.at_, h3⟩
    obtain ⟨⟨x0, x1, x2, x3⟩, _, _⟩ := HXC.out V3 HB3.out
    obtain ⟨s0, s1⟩ := two_cells HS3.out
    clear hri hro hsol hm1 hm2 hB3 huo ho hLb
    go_wp2_with fail
    clear hV3 x0 x1 x2 x3 s0 s1
    refine (QB.out V3 (Below.refl _ _)).mono ?_
    rintro e w4 ⟨lv, rfl, hli, hB4⟩
    have HLI := Lib.hid hli
    obtain ⟨la, lc, rfl, _⟩ := hli
    have HLL : Hid ((listB Lb).length ≤ 1000000) := by
      show _ ≤ _
      have := list_len Lb
      omega
    have HB4 : Hid (Below W.heap.size W w4) := mem_then HB3.out hB4
    obtain ⟨⟨x0, x1, x2, x3⟩, hbf, hfn⟩ := HXC.out w4 HB4.out
    have HBF4 := Lib.hid hbf
    have HFN4 := Lib.hid hfn
    clear hB4 hbf hfn
    go_wp2_with fail
    clear x0 x1 x2 x3
    refine (QCP.out _ HFN4.out).mono ?_
    rintro e w5 ⟨g, bc', l0, rfl, hown5, hl0, hB5⟩
    obtain ⟨V5, hV5⟩ : ∃ V5 : World, w5.alloc (.cells #[.string f.name, .int .i64 (R : Int), .slice aa f.arrays.length ac, .slice (some ⟨g, 0, none⟩) n bc'] 25) = V5 := ⟨_, rfl⟩
    have HBV5 : Hid (Below w5.heap.size w5 V5) := by show Below _ _ _; rw [← hV5]; exact mem_alloc _ _
    have hG5 : V5.heap[w5.heap.size]? = some (.cells #[.string f.name, .int .i64 (R : Int), .slice aa f.arrays.length ac, .slice (some ⟨g, 0, none⟩) n bc'] 25) := by rw [← hV5]; exact mem_new _ _
    have HM5 : Hid (∃ ca cc, MgAt w4 w5.heap.size g n bc' #[.string f.name, .int .i64 (R : Int), .slice aa f.arrays.length ac, .slice (some ⟨g, 0, none⟩) n bc'] V5 (f.blocks.set k (putBlk q0 i (overP Lb v 0))) k ca cc) := by
      have hll : l0.length = n := by have := congrArg List.length hl0; rw [List.length_map] at this; rw [this, HN.out]
      refine ⟨_, _, mem_then hB5 HBV5.out, hG5, l0, hown5.keep HBV5.out, ?_, ?_, l0[k]'(by rw [hll]; exact HKN.out), List.getElem?_eq_getElem _, rfl, rfl⟩
      · rw [hl0]
        exact (set_same HQ0.out (by show putBlk q0 i [] = q0; unfold putBlk; rw [putAt_none])).symm
      · rw [List.length_set, HN.out]
    have KG : Hid (∀ wr L ca cc, MgAt w4 w5.heap.size g n bc' #[.string f.name, .int .i64 (R : Int), .slice aa f.arrays.length ac, .slice (some ⟨g, 0, none⟩) n bc'] wr L k ca cc → (wr.cell? ⟨w5.heap.size, 0, none⟩ = some (.string f.name) ∧ wr.cell? ⟨w5.heap.size, 1, none⟩ = some (.int .i64 (R : Int)) ∧ wr.cell? ⟨w5.heap.size, 2, none⟩ = some (.slice aa f.arrays.length ac) ∧ wr.cell? ⟨w5.heap.size, 3, none⟩ = some (.slice (some ⟨g, 0, none⟩) n bc')) ∧ Below W.heap.size W wr) := fun wr L ca cc h =>
      ⟨⟨mem_cell h.box 0, mem_cell h.box 1, mem_cell h.box 2, mem_cell h.box 3⟩, mem_then HB4.out h.low⟩
    have HIC : Hid (isI64 v ∧ IntKind.i64.wrap v = v) := ⟨by have := HV.out; unfold isI64; omega, by have := HV.out; rw [IntKind.wrap_i64]; omega⟩
    obtain ⟨⟨x0, x1, x2, x3⟩, _, _⟩ := HXC.out V5 (mem_then HB4.out (mem_then hB5 HBV5.out))
    clear hown5 hl0 hB5 HBV5 hG5
    go_wp2_with fail
    clear hV5 x0 x1 x2 x3
    have hR12 := HR12.out
    go_loopw [64] (fun iv wr => ∃ r : Nat, r ≤ R ∧ iv = .int .i64 (r : Int) ∧ ∃ ca cc, MgAt w4 w5.heap.size g n bc' #[.string f.name, .int .i64 (R : Int), .slice aa f.arrays.length ac, .slice (some ⟨g, 0, none⟩) n bc'] wr (f.blocks.set k (putBlk q0 i (overP Lb v r))) k ca cc) (fun iv _ => R - (intOf iv).toNat)
    case atStart => exact ⟨0, Nat.zero_le _, rfl, HM5.out⟩
    case round =>
      clear HM5
      obtain ⟨r, hr, rfl, ca, cc, hmg⟩ := hrel
      have HMG := Lib.hid hmg
      have hr0 : (0 : Int) ≤ (r : Int) := by omega
      clear hmg
      by_cases hlt : r < R
      · have hlt2 : (r : Int) < (R : Int) := by omega
        have HLT := Lib.hid hlt
        have QC : Hid (∀ w', Below w4.heap.size w4 w' → Calls Tryd.prog 26 #[.slice la (listB Lb).length lc, .int .i64 (r : Int)] w' (fun e w'' => e = .returned (.bool (Lb.testBit r)) ∧ ∃ m, w'' = w'.drewN m)) := fun w' h => by
          refine (contains_any' (listB Lb) (r : Int) (.slice la (listB Lb).length lc) w' (HLI.out.below h) HLL.out).mono ?_
          rintro e w'' ⟨h1, h2⟩
          refine ⟨?_, h2⟩
          rw [h1]
          congr 2
          cases hb : Lb.testBit r with
          | true => exact decide_eq_true ((mem_list HLB12.out).2 hb)
          | false => exact decide_eq_false (fun h9 => by rw [(mem_list HLB12.out).1 h9] at hb; cases hb)
        go_wp2_with fail
        refine (QC.out _ HMG.out.low).mono ?_
        rintro e w6 ⟨rfl, hD⟩
        have HMG6 := Lib.hid (HMG.out.keep (below_drew hD))
        clear hD HMG QC
        cases hb : Lb.testBit r with
        | true =>
          have HNX : Hid (∃ ca cc, MgAt w4 w5.heap.size g n bc' #[.string f.name, .int .i64 (R : Int), .slice aa f.arrays.length ac, .slice (some ⟨g, 0, none⟩) n bc'] w6 (f.blocks.set k (putBlk q0 i (overP Lb v (r + 1)))) k ca cc) := by
            show ∃ _ _, _
            rw [overP_live hb]
            exact ⟨_, _, HMG6.out⟩
          clear hb
          go_wp2_with fail
          exact ⟨⟨r + 1, by omega, by go_num, HNX.out⟩, by simp [intOf]; omega⟩
        | false =>
          obtain ⟨P, hP⟩ : ∃ P, overP Lb v r = P := ⟨_, rfl⟩
          have hPl : P.length ≤ r := by rw [← hP]; exact overP_len _ _ _
          have HNXT := Lib.hid (overP_dead (v := v) hb)
          rw [hP] at HMG6 HNXT
          have HPW : Hid (∀ z ∈ P, z.Wf) := fun z hz => by
            rw [← hP] at hz
            obtain ⟨x9, h1, rfl, _⟩ := overP_mem hz
            exact setI_wf HV.out (by omega)
          obtain ⟨m, hm⟩ : ∃ m, (putAt q0.code i P).length = m := ⟨_, rfl⟩
          have HM := Lib.hid hm
          have hml : m ≤ 40 := by rw [← hm, putAt_len (by rw [HLEN.out]; exact HIL.out), HLEN.out]; omega
          have him : i ≤ m := by rw [← hm, putAt_len (by rw [HLEN.out]; exact HIL.out), HLEN.out]; have := HIL.out; omega
          clear hP hb hm
          have HQAT : Hid ((f.blocks.set k (putBlk q0 i P))[k]? = some (putBlk q0 i P)) := List.getElem?_set_self (by rw [HN.out]; exact HKN.out)
          have HS : Hid (∀ w', MgAt w4 w5.heap.size g n bc' #[.string f.name, .int .i64 (R : Int), .slice aa f.arrays.length ac, .slice (some ⟨g, 0, none⟩) n bc'] w' (f.blocks.set k (putBlk q0 i P)) k ca cc → w'.cell? ⟨w5.heap.size, 3, none⟩ = some (.slice (some ⟨g, 0, none⟩) n bc') ∧ w'.cell? ⟨g, k * 5, none⟩ = some (.slice ca m cc)) := fun w' h => ⟨(KG.out _ _ _ _ h).1.2.2.2, by
            have h9 := (h.cp.blk HQAT.out).1
            rw [show (putBlk q0 i P).code.length = m from HM.out] at h9
            exact h9⟩
          have HMD := Lib.hid (HMG6.out.keep (V := World.drew w6) (below_drew ⟨1, rfl⟩))
          have hwv := HIC.out.2
          clear HMG6
          go_upto_region 14 with fail
          refine wp_region_z 18 (S := fun w' => w'.cell? ⟨w5.heap.size, 3, none⟩ = some (.slice (some ⟨g, 0, none⟩) n bc') ∧ w'.cell? ⟨g, k * 5, none⟩ = some (.slice ca m cc)) (by kernel_rfl) (HS.out _ HMD.out) (fun hHeld => ?_)
          generalize hwd : World.drew w6 = D at hHeld HMD ⊢
          clear hwd
          refine wpAnyZ_take (i := 0) (v := .pointer (some ⟨w5.heap.size, 3, none⟩)) rfl (by kernel_rfl) (by kernel_rfl) (by kernel_rfl) (by kernel_rfl) (fun _ _ _ h => h) (Or.inl ⟨by rfl, ?_⟩) (by assumption) ?_
          · intro w' hSw; go_simp
          (try simp only [Act.put, List.getElem_toArray, List.getElem_cons_zero, List.setIfInBounds_toArray, List.set_cons_zero, List.set_cons_succ])
          refine wpAnyZ_take (i := 1) (v := .slice (some ⟨g, 0, none⟩) n bc') rfl (by kernel_rfl) (by kernel_rfl) (by kernel_rfl) (by kernel_rfl) (fun _ _ _ h => h) (Or.inl ⟨by rfl, ?_⟩) (by assumption) ?_
          · intro w' hSw; obtain ⟨z0, z1⟩ := hSw; go_simp
          (try simp only [Act.put, List.getElem_toArray, List.getElem_cons_zero, List.getElem_cons_succ, List.setIfInBounds_toArray, List.set_cons_zero, List.set_cons_succ])
          refine wpAnyZ_take (i := 2) (v := .int .i64 (k : Int)) rfl (by kernel_rfl) (by kernel_rfl) (by kernel_rfl) (by kernel_rfl) (fun _ _ _ h => h) (Or.inl ⟨by rfl, ?_⟩) (by assumption) ?_
          · intro w' hSw; go_simp
          (try simp only [Act.put, List.getElem_toArray, List.getElem_cons_zero, List.getElem_cons_succ, List.setIfInBounds_toArray, List.set_cons_zero, List.set_cons_succ])
          refine wpAnyZ_take (i := 3) (v := .pointer (some ⟨w5.heap.size, 3, none⟩)) rfl (by kernel_rfl) (by kernel_rfl) (by kernel_rfl) (by kernel_rfl) (fun _ _ _ h => h) (Or.inl ⟨by rfl, ?_⟩) (by assumption) ?_
          · intro w' hSw; go_simp
          (try simp only [Act.put, List.getElem_toArray, List.getElem_cons_zero, List.getElem_cons_succ, List.setIfInBounds_toArray, List.set_cons_zero, List.set_cons_succ])
          refine wpAnyZ_take (i := 4) (v := .slice (some ⟨g, 0, none⟩) n bc') rfl (by kernel_rfl) (by kernel_rfl) (by kernel_rfl) (by kernel_rfl) (fun _ _ _ h => h) (Or.inl ⟨by rfl, ?_⟩) (by assumption) ?_
          · intro w' hSw; obtain ⟨z0, z1⟩ := hSw; go_simp
          (try simp only [Act.put, List.getElem_toArray, List.getElem_cons_zero, List.getElem_cons_succ, List.setIfInBounds_toArray, List.set_cons_zero, List.set_cons_succ])
          refine wpAnyZ_take (i := 5) (v := .int .i64 (k : Int)) rfl (by kernel_rfl) (by kernel_rfl) (by kernel_rfl) (by kernel_rfl) (fun _ _ _ h => h) (Or.inl ⟨by rfl, ?_⟩) (by assumption) ?_
          · intro w' hSw; go_simp
          (try simp only [Act.put, List.getElem_toArray, List.getElem_cons_zero, List.getElem_cons_succ, List.setIfInBounds_toArray, List.set_cons_zero, List.set_cons_succ])
          refine wpAnyZ_take (i := 6) (v := .pointer (some ⟨g, k * 5, none⟩)) rfl (by kernel_rfl) (by kernel_rfl) (by kernel_rfl) (by kernel_rfl) (fun _ _ _ h => h) (Or.inl ⟨by rfl, ?_⟩) (by assumption) ?_
          · intro w' hSw; go_simp
          (try simp only [Act.put, List.getElem_toArray, List.getElem_cons_zero, List.getElem_cons_succ, List.setIfInBounds_toArray, List.set_cons_zero, List.set_cons_succ])
          refine wpAnyZ_take (i := 7) (v := .pointer (some ⟨g, k * 5, none⟩)) rfl (by kernel_rfl) (by kernel_rfl) (by kernel_rfl) (by kernel_rfl) (fun _ _ _ h => h) (Or.inl ⟨by rfl, ?_⟩) (by assumption) ?_
          · intro w' hSw; go_simp
          (try simp only [Act.put, List.getElem_toArray, List.getElem_cons_zero, List.getElem_cons_succ, List.setIfInBounds_toArray, List.set_cons_zero, List.set_cons_succ])
          refine wpAnyZ_take (i := 8) (v := .slice ca m cc) rfl (by kernel_rfl) (by kernel_rfl) (by kernel_rfl) (by kernel_rfl) (fun _ _ _ h => h) (Or.inl ⟨by rfl, ?_⟩) (by assumption) ?_
          · intro w' hSw; obtain ⟨z0, z1⟩ := hSw; go_simp
          (try simp only [Act.put, List.getElem_toArray, List.getElem_cons_zero, List.getElem_cons_succ, List.setIfInBounds_toArray, List.set_cons_zero, List.set_cons_succ])
          refine wpAnyZ_take (i := 9) (v := .int .i64 (i : Int)) rfl (by kernel_rfl) (by kernel_rfl) (by kernel_rfl) (by kernel_rfl) (fun _ _ _ h => h) (Or.inl ⟨by rfl, ?_⟩) (by assumption) ?_
          · intro w' hSw; go_simp
          (try simp only [Act.put, List.getElem_toArray, List.getElem_cons_zero, List.getElem_cons_succ, List.setIfInBounds_toArray, List.set_cons_zero, List.set_cons_succ])
          refine wpAnyZ_take (i := 10) (v := .int .i64 (r : Int)) rfl (by kernel_rfl) (by kernel_rfl) (by kernel_rfl) (by kernel_rfl) (fun _ _ _ h => h) (Or.inl ⟨by rfl, ?_⟩) (by assumption) ?_
          · intro w' hSw; go_simp
          (try simp only [Act.put, List.getElem_toArray, List.getElem_cons_zero, List.getElem_cons_succ, List.setIfInBounds_toArray, List.set_cons_zero, List.set_cons_succ])
          refine wpAnyZ_take (i := 11) (v := .int .i32 v) rfl (by kernel_rfl) (by kernel_rfl) (by kernel_rfl) (by kernel_rfl) (fun _ _ _ h => h) (Or.inl ⟨by rfl, ?_⟩) (by assumption) ?_
          · intro w' hSw; go_simp
          (try simp only [Act.put, List.getElem_toArray, List.getElem_cons_zero, List.getElem_cons_succ, List.setIfInBounds_toArray, List.set_cons_zero, List.set_cons_succ])
          refine wpAnyZ_take (i := 12) (v := .int .i64 v) rfl (by kernel_rfl) (by kernel_rfl) (by kernel_rfl) (by kernel_rfl) (fun _ _ _ h => h) (Or.inl ⟨by rfl, ?_⟩) (by assumption) ?_
          · intro w' hSw; go_simp
          (try simp only [Act.put, List.getElem_toArray, List.getElem_cons_zero, List.getElem_cons_succ, List.setIfInBounds_toArray, List.set_cons_zero, List.set_cons_succ])
          refine wpAnyZ_ready (rs := [13]) (by kernel_rfl) (by simp) (AllReadyZ.cons rfl (fun K hK => ?_) AllReadyZ.nil)
          go_simp
          refine (ins_any 1 (r : Int) 0 0 v _).mono ?_
          rintro e wa ⟨rfl, hBa⟩
          have HMA := Lib.hid (HMD.out.keep hBa)
          clear hBa HMD
          refine hK.out _ _ (HS.out _ HMA.out) (fun hHeld => ?_)
          clear hK K
          rename_i hOld
          clear hOld
          (try simp only [Act.put, List.getElem_toArray, List.getElem_cons_zero, List.getElem_cons_succ, List.setIfInBounds_toArray, List.set_cons_zero, List.set_cons_succ])
          refine wpAnyZ_ready (rs := [14]) (by kernel_rfl) (by simp) (AllReadyZ.cons rfl (fun K hK => ?_) AllReadyZ.nil)
          go_simp
          obtain ⟨Vb, hVb⟩ : ∃ V : World, wa.alloc (.cells #[.int .u8 1, .int .i64 (r : Int), .int .i64 0, .int .i64 0, .int .i64 v, .string ⟨#[]⟩] 54) = V := ⟨_, rfl⟩
          rw [hVb]
          have HBB : Hid (Below wa.heap.size wa Vb) := by show Below _ _ _; rw [← hVb]; exact mem_alloc _ _
          have HVB : Hid (Vb.heap[wa.heap.size]? = some (.cells #[.int .u8 (setI v r).op, .int .i64 (setI v r).dst, .int .i64 (setI v r).x, .int .i64 (setI v r).y, .int .i64 (setI v r).imm, .string (setI v r).sym] 54)) := by show _ = _; rw [← hVb]; exact mem_new _ _
          have HMB := Lib.hid (HMA.out.keep HBB.out)
          have HCR := Lib.hid (HMB.out.codeRow HQAT.out)
          have HLT9 : Hid (∀ z, (Value.slice ca m cc).ownBlock = some z → z < wa.heap.size) := fun z hz => by
            have h9 := (HMA.out.codeRow HQAT.out).1
            rw [show (putBlk q0 i P).code.length = m from HM.out] at h9
            exact (ownsRow_lt h9 hz).2
          have QIN := insert_any w4.heap.size ca m cc i wa.heap.size (putAt q0.code i P) (setI v r) 54 Vb (by have h9 := HCR.out.1; rw [show (putBlk q0 i P).code.length = m from HM.out] at h9; exact h9) HMB.out.low.size (by omega) him HVB.out (fun e => by have := HLT9.out _ e; omega)
          rw [putAt_one (by rw [HLEN.out]; exact HIL.out)] at QIN
          clear hVb
          refine hK.out _ _ (HS.out _ HMB.out) (fun hHeld => ?_)
          clear hK K
          rename_i hOld
          clear hOld
          (try simp only [Act.put, List.getElem_toArray, List.getElem_cons_zero, List.getElem_cons_succ, List.setIfInBounds_toArray, List.set_cons_zero, List.set_cons_succ])
          refine wpAnyZ_ready (rs := [15]) (by kernel_rfl) (by simp) (AllReadyZ.cons rfl (fun K hK => ?_) AllReadyZ.nil)
          go_simp
          refine QIN.mono ?_
          rintro e wb ⟨gx, cap, rfl, hown, hgrow, hown2⟩
          have HOWN := Lib.hid hown
          have HGR := Lib.hid hgrow
          have HO2 := Lib.hid hown2
          have HKP : Hid (wb.cell? ⟨w5.heap.size, 3, none⟩ = some (.slice (some ⟨g, 0, none⟩) n bc') ∧ wb.cell? ⟨g, k * 5, none⟩ = some (.slice ca m cc)) := by
            obtain ⟨h8, h9⟩ := HS.out _ HMB.out
            have h7 := HCR.out.2
            rw [show (putBlk q0 i P).code.length = m from HM.out] at h7
            exact ⟨hgrow.cell h8 (fun e => h7.1 e.symm), hgrow.cell h9 (fun e => h7.2.1 e.symm)⟩
          have HFZ : Hid (wb.frozen? ⟨g, k * 5, none⟩ = false) := by
            have h7 := HCR.out.2
            rw [show (putBlk q0 i P).code.length = m from HM.out] at h7
            show _ = _
            rw [World.frozen?_of_block (hgrow.block g HMB.out.cp.low.2 (fun e => h7.2.1 e.symm))]
            exact (HMB.out.cp.blk HQAT.out).2.2.2.1 _
          clear hown hgrow hown2 QIN
          refine hK.out _ _ (HKP.out) (fun hHeld => ?_)
          clear hK K
          rename_i hOld
          clear hOld
          (try simp only [Act.put, List.getElem_toArray, List.getElem_cons_zero, List.getElem_cons_succ, List.setIfInBounds_toArray, List.set_cons_zero, List.set_cons_succ])
          refine wpAnyZ_ready (rs := [16]) (by kernel_rfl) (by simp) (AllReadyZ.cons rfl (fun K hK => ?_) AllReadyZ.nil)
          go_simp
          refine hK.out _ _ (HKP.out) (fun hHeld => ?_)
          clear hK K
          rename_i hOld
          clear hOld
          (try simp only [Act.put, List.getElem_toArray, List.getElem_cons_zero, List.getElem_cons_succ, List.setIfInBounds_toArray, List.set_cons_zero, List.set_cons_succ])
          refine wpAnyZ_ready (rs := [17]) (by kernel_rfl) (by simp) (AllReadyZ.cons rfl (fun K hK => ?_) AllReadyZ.nil)
          go_simp
          refine hK.out _ _ (HKP.out) (fun hHeld => ?_)
          clear hK K
          rename_i hOld
          clear hOld
          (try simp only [Act.put, List.getElem_toArray, List.getElem_cons_zero, List.getElem_cons_succ, List.setIfInBounds_toArray, List.set_cons_zero, List.set_cons_succ])
          obtain ⟨z0, z1⟩ := HKP.out
          have z2 := HFZ.out
          refine wpAnyZ_ready (rs := [18]) (by kernel_rfl) (by simp) (AllReadyZ.last rfl (by decide) (fun K hK => ?_) AllReadyZ.nil)
          go_simp
          refine hK.out _ _ ?_
          clear hK K
          (try simp only [Act.put, List.getElem_toArray, List.getElem_cons_zero, List.getElem_cons_succ, List.setIfInBounds_toArray, List.set_cons_zero, List.set_cons_succ])
          clear z0 z1 z2 hHeld
          refine wpAnyZ_done (by kernel_rfl) ?_ _
          have HNX : Hid (∃ ca cc, MgAt w4 w5.heap.size g n bc' #[.string f.name, .int .i64 (R : Int), .slice aa f.arrays.length ac, .slice (some ⟨g, 0, none⟩) n bc'] (wb.setCell ⟨g, k * 5, none⟩ (.slice (some ⟨gx, 0, none⟩) (m + 1) cap)) (f.blocks.set k (putBlk q0 i (overP Lb v (r + 1)))) k ca cc) := by
            have h0 : (putAt q0.code i (setI v r :: P)).length = m + 1 := by
              have h7 := HM.out
              rw [putAt_len (by rw [HLEN.out]; exact HIL.out)] at h7 ⊢
              rw [List.length_cons]
              omega
            have h7 := HO2.out
            have h6 := HGR.out
            have h5 := HOWN.out
            rw [← h0] at h5
            rw [← HM.out] at h7 h6
            have h9 := HMB.out.put (code := putAt q0.code i (setI v r :: P)) HQAT.out (Below.refl _ _) (fun z hz => ?_) (by rw [h0]; omega) h6 h5 h7
            · rw [List.set_set, h0] at h9
              rw [HNXT.out]
              exact ⟨_, _, h9⟩
            · rcases mem_putAt hz with h1 | h1
              · exact HCR.out.2.2.2 z (putAt_of h1)
              · rcases List.mem_cons.1 h1 with rfl | h1
                · exact setI_wf HV.out (by omega)
                · exact HPW.out z h1
          go_wp2_with fail
          exact ⟨⟨r + 1, by omega, by go_num, HNX.out⟩, by simp [intOf]; omega⟩
      · obtain rfl : R = r := by omega
        have HBWR : Hid (Below W.heap.size W wr) := (KG.out _ _ _ _ HMG.out).2
        obtain ⟨⟨x0, x1, x2, x3⟩, hbf, hfn⟩ := HXC.out wr HBWR.out
        obtain ⟨⟨x4, x5, x6, x7⟩, hca⟩ := HXD.out wr HBWR.out
        obtain ⟨⟨y0, y1, y2, y3⟩, _⟩ := KG.out _ _ _ _ HMG.out
        have QBH : Hid (Calls Tryd.prog 34 #[.agg #[.string f.name, .int .i64 (R : Int), .slice aa f.arrays.length ac, .slice (some ⟨bb, off, none⟩) n bc, .slice sa shared.length sc, .slice ara arrays.length arc, .slice oba objects.length obc, .slice ia inp.length ic], .agg #[.string f.name, .int .i64 (R : Int), .slice aa f.arrays.length ac, .slice (some ⟨bb, off, none⟩) n bc], .agg #[.string f.name, .int .i64 (R : Int), .slice aa f.arrays.length ac, .slice (some ⟨g, 0, none⟩) n bc']] wr
            fun e w' => e = .returned (.bool true) ∧ Below wr.heap.size wr w') := by
          have hg : FnAt wr { f with blocks := putFn f k i (overP Lb v R) } aa (some ⟨g, 0, none⟩) := by
            have h9 := HMG.out.cp.blks
            rw [putFn_set HQ0.out] at h9
            exact ⟨hfn.arrays, h9, hfn.regs, hfn.name⟩
          have hl : (putFn f k i (overP Lb v R)).length = n := by
            unfold putFn
            rw [List.length_mapIdx, HN.out]
          have hrs : (runOf f shared arrays objects inp 600).err = 3 ∨ (runOf { f with blocks := putFn f k i (overP Lb v R) } shared arrays objects inp 600).err = 13 ∨ Oc.like (runOf f shared arrays objects inp 600) (runOf { f with blocks := putFn f k i (overP Lb v R) } shared arrays objects inp 600) := by
            cases hv : runFits f shared arrays objects with
            | false => exact .inl (by unfold runOf; rw [hv]; rfl)
            | true => exact .inr (run_over HFR.out HSOL.out HQ0.out (by rw [HLEN.out]; exact HIL.out) (by rw [HO.out, HLB.out]; exact overP_deadP R Lb v) (overP_word R Lb v HV.out) hv)
          have h9 := behaves_any f { f with blocks := putFn f k i (overP Lb v R) } shared arrays objects inp aa (some ⟨bb, off, none⟩) aa (some ⟨g, 0, none⟩) sa ara oba ia ac bc ac bc' sc arc obc ic wr hfn hg hca HZ.out hrs
          unfold callV at h9
          simp only [hl, HREG.out, HN.out] at h9
          exact h9
        have HBF := Lib.hid hbf
        clear hbf hfn hca HMG
        go_wp2_with fail
        refine QBH.out.mono ?_
        rintro e w11 ⟨rfl, hB11⟩
        have HBE : Hid (Below w.heap.size w w11) := mem_then HBF.out hB11
        clear hB11 x0 x1 x2 x3 x4 x5 x6 x7 y0 y1 y2 y3
        go_wp2_with fail
        go_ret
        exact ⟨rfl, HBE.out⟩
end Go.Proofs.YteknhnnlhhgppaaDoor
