/-
  LivenessBounds (package ontimelaw19): a register is live somewhere only if it is used somewhere; without its definitions it is live wherever it was.
-/
import Derived.Test.YteknhnnlhhgppaaDoorBoundsSt
import Derived.Test.YteknhnnlhhgppaaDoorBoundsPt
import Derived.Test.YteknhnnlhhgppaaDoorLiveForm19
import Derived.Test.YteknhnnlhhgppaaDoorLiveAwake
import Derived.Test.YteknhnnlhhgppaaDoorLiveBefore
namespace Go.Proofs.YteknhnnlhhgppaaDoor
set_option linter.unusedVariables false
set_option linter.unusedSimpArgs false
open Go.RowKit
set_option maxRecDepth 100000
set_option maxHeartbeats 16000000

def R10 (P : World → Prop) (a a' : Act) (w' : World) : Prop :=
  ∃ y48 y49 y50 y51 y52 y53 y54 y55 y56 y57 y58 y59 y60 y61 y62 y63 y64 y65 y66 y67, a' = { a with tmps := ((((((((((((((((((((a.tmps.setIfInBounds 48 y48).setIfInBounds 49 y49).setIfInBounds 50 y50).setIfInBounds 51 y51).setIfInBounds 52 y52).setIfInBounds 53 y53).setIfInBounds 54 y54).setIfInBounds 55 y55).setIfInBounds 56 y56).setIfInBounds 57 y57).setIfInBounds 58 y58).setIfInBounds 59 y59).setIfInBounds 60 y60).setIfInBounds 61 y61).setIfInBounds 62 y62).setIfInBounds 63 y63).setIfInBounds 64 y64).setIfInBounds 65 y65).setIfInBounds 66 y66).setIfInBounds 67 y67) } ∧ P w'
def R14 (P : World → Prop) (a a' : Act) (w' : World) : Prop :=
  ∃ y80 y81 y82 y83 y84 y85 y86, a' = { a with tmps := (((((((a.tmps.setIfInBounds 80 y80).setIfInBounds 81 y81).setIfInBounds 82 y82).setIfInBounds 83 y83).setIfInBounds 84 y84).setIfInBounds 85 y85).setIfInBounds 86 y86) } ∧ P w'
abbrev BndSt19 := BndSt 25 43 54
/-- the flag is stored -/
theorem flag_set {V w : World} {gb g n c : Nat} {cells : Array Value} {l : List BlkP} {u : Bool} (u' : Bool) (h : BndSt19 V gb g n c cells l w) (hb : w.heap[gb + 1]? = some (.cells #[.bool u] 4)) :
    BndSt19 V gb g n c cells l (w.setCell ⟨gb + 1, 0, none⟩ (.bool u')) ∧ (w.setCell ⟨gb + 1, 0, none⟩ (.bool u')).heap[gb + 1]? = some (.cells #[.bool u'] 4) :=
  ⟨h.flag hb (Nat.le_trans h.up (Nat.le_succ _)) (by decide) (by decide) (by decide), by rw [setCell_heap hb]; simp⟩
theorem points_bounds (f : Fn) (aa ba : Option Addr) (ac bc R n fb sb rb ub gb tb : Nat) (w : World) (hf : FnAt w f aa ba) (hreg : f.regs = (R : Int)) (hn : f.blocks.length = n) (hcl : ∀ b ∈ f.blocks, b.code.length ≤ 1000000)
    (QC : ∀ (k at_ : Nat) (b : Blk) (w' : World), Below w.heap.size w w' → f.blocks[k]? = some b → at_ ≤ b.code.length → Calls Tryd.prog 28 #[.int .i64 (k : Int), .int .i64 (at_ : Int), .pointer (some ⟨fb, 0, none⟩), .pointer (some ⟨sb, 0, none⟩), .pointer (some ⟨rb, 0, none⟩), .pointer (some ⟨ub, 0, none⟩), .pointer (some ⟨gb, 0, none⟩), .pointer (some ⟨tb, 0, none⟩)] w' fun e w'' => e = .returned (.bool true) ∧ Below w'.heap.size w' w'') :
    Calls Tryd.prog 18 #[.agg #[.string f.name, .int .i64 (R : Int), .slice aa f.arrays.length ac, .slice ba n bc], .func (.func 28) #[] #[.pointer (some ⟨fb, 0, none⟩), .pointer (some ⟨sb, 0, none⟩), .pointer (some ⟨rb, 0, none⟩), .pointer (some ⟨ub, 0, none⟩), .pointer (some ⟨gb, 0, none⟩), .pointer (some ⟨tb, 0, none⟩)]] w fun e w' => e = .returned (.bool true) ∧ Below w.heap.size w w' := by
  have HF := Lib.hid hf
  have HN := Lib.hid hn
  have HCL := Lib.hid hcl
  have HQC := Lib.hid QC
  have hfits := hf.blocks.fits
  rw [hn] at hfits
  obtain ⟨W, hW⟩ : ∃ W : World, w.alloc (.cells #[.string f.name, .int .i64 (R : Int), .slice aa f.arrays.length ac, .slice ba n bc] 25) = W := ⟨_, rfl⟩
  have HBW : Hid (Below w.heap.size w W) := by show Below _ _ _; rw [← hW]; exact (Below.refl _ _).alloc (Nat.le_refl _) _
  have HX : Hid (W.heap[w.heap.size]? = some (.cells #[.string f.name, .int .i64 (R : Int), .slice aa f.arrays.length ac, .slice ba n bc] 25)) := by
    show _ = _
    rw [← hW]
    exact (MapKept.heap_alloc w _).1
  have x3 : W.cell? ⟨w.heap.size, 3, none⟩ = some (.slice ba n bc) := cell_heap HX.out 3
  clear hf hn hcl QC hreg
  go_enter Tryd.func18, Tryd.ntmps18
  go_wp2_with fail
  clear hW x3
  go_loopw [11] (fun i wr => ∃ j : Nat, j ≤ n ∧ i = .int .i64 (j : Int) ∧ Below W.heap.size W wr) (fun i _ => n - (intOf i).toNat)
  case atStart => exact ⟨0, Nat.zero_le _, rfl, Below.refl _ _⟩
  case round =>
    obtain ⟨j, hj, rfl, hbel⟩ := hrel
    have HBEL := Lib.hid hbel
    have HBF : Hid (Below w.heap.size w wr) := HBW.out.trans (hbel.mono HBW.out.size)
    have hj0 : (0 : Int) ≤ (j : Int) := by omega
    clear hbel
    by_cases hlt : j < n
    · have hlt2 : (j : Int) < (n : Int) := by omega
      obtain ⟨b, hb⟩ : ∃ b, f.blocks[j]? = some b := ⟨_, List.getElem?_eq_getElem (by rw [HN.out]; exact hlt)⟩
      have HB := Lib.hid hb
      rcases HF.out.blocks.at_ with hz | ⟨bb, off, rfl, hk⟩
      · have := HN.out; omega
      obtain ⟨ca, cc, hba, _⟩ := hk j b hb
      obtain ⟨c0, c1, c2, c3, c4⟩ := hba.below HBF.out
      obtain ⟨V1, hV1⟩ : ∃ V1 : World, wr.alloc (.cells #[.slice ca b.code.length cc, .int .u8 b.kind, .int .i64 b.x, .int .i64 b.to, .int .i64 b.els] 43) = V1 := ⟨_, rfl⟩
      have HBV1 : Hid (Below wr.heap.size wr V1) := by show Below _ _ _; rw [← hV1]; exact (Below.refl _ _).alloc (Nat.le_refl _) _
      have HZ1 : Hid (V1.heap[wr.heap.size]? = some (.cells #[.slice ca b.code.length cc, .int .u8 b.kind, .int .i64 b.x, .int .i64 b.to, .int .i64 b.els] 43)) := by
        show _ = _
        rw [← hV1]
        exact (MapKept.heap_alloc wr _).1
      have HBV : Hid (Below W.heap.size W V1) := below_step HBEL.out HBV1.out
      have HBVF : Hid (Below w.heap.size w V1) := below_step HBF.out HBV1.out
      have hcl1 := HCL.out b (List.mem_of_getElem? hb)
      have hcl0 : (0 : Int) ≤ (b.code.length : Int) := by omega
      clear hk hba hb
      go_wp2_with fail
      clear hV1 c0 c1 c2 c3 c4
      obtain ⟨wo, rfl⟩ : ∃ wo : World, wo = wr := ⟨_, rfl⟩
      go_loopw [7] (fun i wi => ∃ m : Nat, m ≤ b.code.length + 1 ∧ i = .int .i64 (m : Int) ∧ Below V1.heap.size V1 wi) (fun i _ => b.code.length + 1 - (intOf i).toNat)
      case atStart => exact ⟨0, Nat.zero_le _, rfl, Below.refl _ _⟩
      case round =>
        obtain ⟨m, hm, rfl, hbm⟩ := hrel
        have HBM := Lib.hid hbm
        have HBMF : Hid (Below w.heap.size w wr) := below_step HBVF.out hbm
        have hm0 : (0 : Int) ≤ (m : Int) := by omega
        have d0 : wr.cell? ⟨wo.heap.size, 0, none⟩ = some (.slice ca b.code.length cc) := cell_heap ((hbm.block _ (lt_heap HZ1.out)).trans HZ1.out) 0
        clear hbm
        by_cases hml : m ≤ b.code.length
        · have hml2 : (m : Int) ≤ (b.code.length : Int) := by omega
          go_wp2_with fail
          refine (HQC.out j m b _ HBMF.out HB.out hml).mono ?_
          rintro e w4 ⟨rfl, hB4⟩
          have HB4 : Hid (Below V1.heap.size V1 w4) := below_step HBM.out hB4
          clear hB4 d0
          go_wp2_with fail
          exact ⟨⟨m + 1, by omega, by go_num, HB4.out⟩, by simp [intOf]; omega⟩
        · obtain rfl : m = b.code.length + 1 := by omega
          have hgt : decide ((b.code.length : Int) + 1 ≤ (b.code.length : Int)) = false := by simp; omega
          have HBN : Hid (Below W.heap.size W wr) := below_step HBV.out HBM.out
          go_wp2_with fail
          exact ⟨⟨j + 1, by omega, by go_num, HBN.out⟩, by simp [intOf]; omega⟩
    · obtain rfl : j = n := by omega
      go_wp2_with fail
      go_ret
      exact ⟨rfl, HBF.out⟩
theorem bounds_any (f : Fn) (aa ba : Option Addr) (ac bc : Nat) (x : Int) (w : World) (hf : FnAt w f aa ba) (hx : 0 ≤ x ∧ x ≤ 255) (hT : TabAt 0 Lib.deBruijn64tab w) :
    Calls Tryd.prog 5 #[fnVal f.name f.regs aa f.arrays.length ac ba f.blocks.length bc, .int .u8 x] w fun e w' => e = .returned (.bool true) ∧ Below w.heap.size w w' := by
  have HF := Lib.hid hf
  have HT := Lib.hid hT
  obtain ⟨n, hn⟩ : ∃ n, f.blocks.length = n := ⟨_, rfl⟩
  have HN := Lib.hid hn
  obtain ⟨W, hW⟩ : ∃ W : World, w.alloc (.cells #[.string f.name, .int .i64 f.regs, .slice aa f.arrays.length ac, .slice ba n bc] 25) = W := ⟨_, rfl⟩
  have HBW : Hid (Below w.heap.size w W) := by show Below _ _ _; rw [← hW]; exact (Below.refl _ _).alloc (Nat.le_refl _) _
  have HX : Hid (W.heap[w.heap.size]? = some (.cells #[.string f.name, .int .i64 f.regs, .slice aa f.arrays.length ac, .slice ba n bc] 25)) := by
    show _ = _
    rw [← hW]
    exact (MapKept.heap_alloc w _).1
  have HXC : Hid (∀ w', Below W.heap.size W w' → (w'.cell? ⟨w.heap.size, 0, none⟩ = some (.string f.name) ∧ w'.cell? ⟨w.heap.size, 1, none⟩ = some (.int .i64 f.regs) ∧ w'.cell? ⟨w.heap.size, 2, none⟩ = some (.slice aa f.arrays.length ac) ∧ w'.cell? ⟨w.heap.size, 3, none⟩ = some (.slice ba n bc)) ∧ Below w.heap.size w w' ∧ FnAt w' f aa ba) := fun w' h => by
    have h9 := (h.block _ (lt_heap HX.out)).trans HX.out
    have h7 := HBW.out.trans (h.mono HBW.out.size)
    exact ⟨⟨cell_heap h9 0, cell_heap h9 1, cell_heap h9 2, cell_heap h9 3⟩, h7, HF.out.below h7⟩
  obtain ⟨⟨x0, x1, x2, x3⟩, _, _⟩ := HXC.out W (Below.refl _ _)
  have QS : Hid (∀ w', FnAt w' f aa ba → Calls Tryd.prog 20 #[.agg #[.string f.name, .int .i64 f.regs, .slice aa f.arrays.length ac, .slice ba n bc]] w' (Tells (SmallF f ∧ FormF f) w')) := fun w' h => by
    have h9 := formLaw_any f aa ba ac bc w' h
    rw [HN.out] at h9
    exact h9
  rw [hn]
  clear hf hT hn
  go_enter Tryd.func5, Tryd.ntmps5
  go_wp2_with fail
  clear hW x0 x1 x2 x3
  refine (awake_any _ (tab_keep HT.out HBW.out)).mono ?_
  rintro e w1 ⟨rfl, hB1⟩
  have HB1 := Lib.hid hB1
  obtain ⟨⟨x0, x1, x2, x3⟩, hbf, hfn⟩ := HXC.out w1 hB1
  have HBF1 := Lib.hid hbf
  have HFN1 := Lib.hid hfn
  clear hB1 hbf hfn
  go_wp2_with fail
  clear x0 x1 x2 x3
  refine (QS.out _ HFN1.out).mono ?_
  rintro e w2 ⟨r, rfl, hr, hB2⟩
  have HR := Lib.hid hr
  have HB2 : Hid (Below W.heap.size W w2) := below_step HB1.out hB2
  obtain ⟨⟨x0, x1, x2, x3⟩, hbf, hfn⟩ := HXC.out w2 HB2.out
  have HBF2 := Lib.hid hbf
  have HFN2 := Lib.hid hfn
  clear hr hB2 hbf hfn
  cases r with
  | false =>
    go_wp2_with fail
    refine (awake_any _ (tab_keep HT.out HBF2.out)).mono ?_
    rintro e w3 ⟨rfl, hB3⟩
    have HB3 : Hid (Below w.heap.size w w3) := below_step HBF2.out hB3
    clear hB3
    go_wp2_with fail
    go_ret
    exact ⟨rfl, HB3.out⟩
  | true =>
    have HSM := Lib.hid (HR.out.1 rfl).1
    have HFM := Lib.hid (HR.out.1 rfl).2
    have HFIT := Lib.hid (small_fits HSM.out)
    obtain ⟨R, hR⟩ : ∃ R : Nat, f.regs = (R : Int) := ⟨f.regs.toNat, (Int.toNat_of_nonneg HFM.out.r0).symm⟩
    have hR12 : R ≤ 12 := by have := HSM.out.rg; omega
    simp only [hR] at HX HXC ⊢
    have HREG := Lib.hid hR
    have HR12 := Lib.hid hR12
    have HFR : Hid (FormR f R) := by
      have h9 := HFM.out.small HSM.out.rg
      rw [hR, Int.toNat_natCast] at h9
      exact h9
    simp only [hR] at x1
    have QO : Hid (∀ w', FnAt w' f aa ba → Below w.heap.size w w' → Calls Tryd.prog 12 #[.agg #[.string f.name, .int .i64 (R : Int), .slice aa f.arrays.length ac, .slice ba n bc]] w' (OfEnd f R w')) := fun w' h hB => by
      have h9 := of_any f R aa ba ac bc w' h HFM.out HREG.out HR12.out HFIT.out.1 HFIT.out.2 (tab_keep HT.out hB)
      rw [HREG.out, HN.out] at h9
      exact h9
    clear hR hR12
    rcases Nat.eq_zero_or_pos R with hR0 | hRp
    · subst hR0
      go_wp2_with fail
      refine (awake_any _ (tab_keep HT.out HBF2.out)).mono ?_
      rintro e w3 ⟨rfl, hB3⟩
      have HB3 : Hid (Below w.heap.size w w3) := below_step HBF2.out hB3
      clear hB3
      go_wp2_with fail
      go_ret
      exact ⟨rfl, HB3.out⟩
    · have hR12 := HR12.out
      have hne : ((R : Int) == 0) = false := by simp; omega
      have hR1 : (1 : Int) ≤ (R : Int) := by omega
      obtain ⟨r, hr⟩ := Int.eq_ofNat_of_zero_le (Int.emod_nonneg x (show (R : Int) ≠ 0 by omega))
      have hrR : r < R := by have := Int.emod_lt_of_pos x (show (0 : Int) < (R : Int) by omega); omega
      have HRR := Lib.hid hrR
      obtain ⟨V2, hV2⟩ : ∃ V2 : World, w2.alloc (.cells #[.int .i64 (r : Int)] 3) = V2 := ⟨_, rfl⟩
      have HBV2 : Hid (Below w2.heap.size w2 V2) := by show Below _ _ _; rw [← hV2]; exact (Below.refl _ _).alloc (Nat.le_refl _) _
      have HRB : Hid (V2.heap[w2.heap.size]? = some (.cells #[.int .i64 (r : Int)] 3)) := by show _ = _; rw [← hV2]; exact (MapKept.heap_alloc w2 _).1
      have HBW2 : Hid (Below W.heap.size W V2) := below_step HB2.out HBV2.out
      obtain ⟨⟨y0, y1, y2, y3⟩, _, _⟩ := HXC.out V2 HBW2.out
      clear hrR
      go_wp2_with fail
      clear x0 x1 x2 x3 y0 y1 y2 y3 hV2 hr
      obtain ⟨_, hbf2, hfn2⟩ := HXC.out V2 HBW2.out
      refine (QO.out _ hfn2 hbf2).mono ?_
      rintro e w3 ⟨iv, ov, rin, rout, ins, outs, rfl, hri, hro, hsol, hm1, hm2, hB3⟩
      clear hbf2 hfn2
      have HSOL := Lib.hid hsol
      have HM2 := Lib.hid hm2
      have HLN : Hid (rin.length = n ∧ rout.length = n ∧ ins.length = n ∧ outs.length = n) := by
        have e1 : ins.length = n := by rw [hsol.li, HN.out]
        have e2 : outs.length = n := by rw [hsol.lo, HN.out]
        have e3 := congrArg List.length hm1
        have e4 := congrArg List.length hm2
        simp only [List.length_map] at e3 e4
        exact ⟨by omega, by omega, e1, e2⟩
      obtain ⟨iva, ivc, rfl⟩ : ∃ a c, iv = .slice a n c := by
        obtain ⟨a, c, h9⟩ := hri.val
        exact ⟨a, c, by rw [h9, HLN.out.1]⟩
      obtain ⟨ova, ovc, rfl⟩ : ∃ a c, ov = .slice a n c := by
        obtain ⟨a, c, h9⟩ := hro.val
        exact ⟨a, c, by rw [h9, HLN.out.2.1]⟩
      have hn0 : 0 < n := by have := HFM.out.one; have := HN.out; omega
      have HN0 := Lib.hid hn0
      have HRI := Lib.hid hri
      have HRO := Lib.hid hro
      obtain ⟨V3, hV3⟩ : ∃ V3 : World, w3.alloc (.cells #[.slice iva n ivc, .slice ova n ovc] 30) = V3 := ⟨_, rfl⟩
      have HBV3 : Hid (Below w3.heap.size w3 V3) := by show Below _ _ _; rw [← hV3]; exact (Below.refl _ _).alloc (Nat.le_refl _) _
      have HS3 : Hid (V3.heap[w3.heap.size]? = some (.cells #[.slice iva n ivc, .slice ova n ovc] 30)) := by show _ = _; rw [← hV3]; exact (MapKept.heap_alloc w3 _).1
      have HB23 : Hid (Below V2.heap.size V2 V3) := below_step hB3 HBV3.out
      have HB3 : Hid (Below W.heap.size W V3) := below_step HBW2.out HB23.out
      have HRO3 := Lib.hid (HRO.out.keep HBV3.out)
      have KEEP : Hid (∀ w', Below V3.heap.size V3 w' → (w'.cell? ⟨w.heap.size, 0, none⟩ = some (.string f.name) ∧ w'.cell? ⟨w.heap.size, 1, none⟩ = some (.int .i64 (R : Int)) ∧ w'.cell? ⟨w.heap.size, 2, none⟩ = some (.slice aa f.arrays.length ac) ∧ w'.cell? ⟨w.heap.size, 3, none⟩ = some (.slice ba n bc)) ∧
          (w'.cell? ⟨w3.heap.size, 0, none⟩ = some (.slice iva n ivc) ∧ w'.cell? ⟨w3.heap.size, 1, none⟩ = some (.slice ova n ovc)) ∧ w'.cell? ⟨w2.heap.size, 0, none⟩ = some (.int .i64 (r : Int)) ∧
          Below w.heap.size w w' ∧ FnAt w' f aa ba ∧ IRows V2.heap.size w' (.slice ova n ovc) rout) := fun w' h => by
        obtain ⟨hx, hbw, hfw⟩ := HXC.out w' (below_step HB3.out h)
        have hs := (h.block _ (lt_heap HS3.out)).trans HS3.out
        have hr9 := (below_step HB23.out h)
        exact ⟨hx, two_cells hs, cell_heap ((hr9.block _ (lt_heap HRB.out)).trans HRB.out) 0, hbw, hfw, HRO3.out.keep h⟩
      obtain ⟨⟨x0, x1, x2, x3⟩, ⟨s0, s1⟩, _, hbw3, hfw3, _⟩ := KEEP.out V3 (Below.refl _ _)
      have HFW3 := Lib.hid hfw3
      have QCP : Hid (Calls Tryd.prog 25 #[.agg #[.string f.name, .int .i64 (R : Int), .slice aa f.arrays.length ac, .slice ba n bc]] V3 fun e w' => ∃ (g bc' : Nat) (l : List BlkP), e = .returned (fnVal f.name (R : Int) aa f.arrays.length ac (some ⟨g, 0, none⟩) n bc') ∧
          BlkOwn V3.heap.size 43 54 w' (.slice (some ⟨g, 0, none⟩) n bc') l ∧ l.map (·.blk) = f.blocks ∧ Below V3.heap.size V3 w') := by
        have h9 := copied19_any f aa ba ac bc V3 HFW3.out HFM.out.one (by have := HFIT.out.1; omega) HFIT.out.2
        rw [HREG.out, HN.out] at h9
        exact h9
      clear hri hro hsol hm1 hm2 hB3 hbw3 hfw3
      go_wp2_with fail
      clear hV3 x0 x1 x2 x3 s0 s1
      refine QCP.out.mono ?_
      rintro e w4 ⟨g, bc', l0, rfl, hown4, hl0, hB4⟩
      have HOW4 := Lib.hid hown4
      have HL0 := Lib.hid hl0
      obtain ⟨V4, hV4⟩ : ∃ V4 : World, (w4.alloc (.cells #[.string f.name, .int .i64 (R : Int), .slice aa f.arrays.length ac, .slice (some ⟨g, 0, none⟩) n bc'] 25)).alloc (.cells #[.bool false] 4) = V4 := ⟨_, rfl⟩
      have HST4 : Hid (BndSt19 V3 w4.heap.size g n bc' #[.string f.name, .int .i64 (R : Int), .slice aa f.arrays.length ac, .slice (some ⟨g, 0, none⟩) n bc'] l0 V4 ∧ V4.heap[w4.heap.size + 1]? = some (.cells #[.bool false] 4)) := by
        have hz : (w4.alloc (.cells #[.string f.name, .int .i64 (R : Int), .slice aa f.arrays.length ac, .slice (some ⟨g, 0, none⟩) n bc'] 25)).heap.size = w4.heap.size + 1 := by simp
        have hb9 : Below w4.heap.size w4 V4 := by rw [← hV4]; exact ((Below.refl _ _).alloc (Nat.le_refl _) _).alloc (by simp) _
        refine ⟨⟨?_, hown4.keep hb9, below_step hB4 hb9, hB4.size⟩, ?_⟩
        · rw [← hV4, Below.heap_alloc _ _ _ (by simp)]
          exact (MapKept.heap_alloc w4 _).1
        · rw [← hV4]
          have := (MapKept.heap_alloc (w4.alloc (.cells #[.string f.name, .int .i64 (R : Int), .slice aa f.arrays.length ac, .slice (some ⟨g, 0, none⟩) n bc'] 25)) (.cells #[.bool false] 4)).1
          rwa [hz] at this
      have g3 : V4.cell? ⟨w4.heap.size, 3, none⟩ = some (.slice (some ⟨g, 0, none⟩) n bc') := cell_heap HST4.out.1.gx 3
      have u0 : V4.cell? ⟨w4.heap.size + 1, 0, none⟩ = some (.bool false) := cell_heap HST4.out.2 0
      have u1 : V4.frozen? ⟨w4.heap.size + 1, 0, none⟩ = false := frozen_heap HST4.out.2 0
      have u2 := setCell_self u0
      clear hown4 hl0 hB4
      go_wp2_with fail
      clear hV4 g3 u0 u1 u2
      have hnb : n ≤ 1000 := by have := HFIT.out.1; have := HN.out; omega
      go_loopw [45] (fun iv wr => ∃ (j : Nat) (l : List BlkP) (u : Bool), j ≤ n ∧ iv = .int .i64 (j : Int) ∧ BndSt19 V3 w4.heap.size g n bc' #[.string f.name, .int .i64 (R : Int), .slice aa f.arrays.length ac, .slice (some ⟨g, 0, none⟩) n bc'] l wr ∧ wr.heap[w4.heap.size + 1]? = some (.cells #[.bool u] 4) ∧
          ZapL r f l j 0 ∧ (∀ (i : Nat) (b : Blk), i < j → f.blocks[i]? = some b → UsedBlk r b → u = true)) (fun iv _ => n - (intOf iv).toNat)
      case atStart => exact ⟨0, l0, false, Nat.zero_le _, rfl, HST4.out.1, HST4.out.2, ZapL.start HL0.out, fun i b hi => absurd hi (by omega)⟩
      case round =>
        clear HST4
        obtain ⟨j, l, u, hj, rfl, hst, hfl, hzl, hus⟩ := hrel
        have HST := Lib.hid hst
        have HFL := Lib.hid hfl
        have HZL := Lib.hid hzl
        have HUS := Lib.hid hus
        have hj0 : (0 : Int) ≤ (j : Int) := by omega
        clear hst hfl hzl hus
        by_cases hlt : j < n
        · have hlt2 : (j : Int) < (n : Int) := by omega
          obtain ⟨b, hb⟩ : ∃ b, f.blocks[j]? = some b := ⟨_, List.getElem?_eq_getElem (by rw [HN.out]; exact hlt)⟩
          have HB := Lib.hid hb
          obtain ⟨pa, pc, hp⟩ := HZL.out.at_ hb
          rw [zapC_none] at hp
          have HP := Lib.hid hp
          have hcl1 := HFIT.out.2 b (List.mem_of_getElem? hb)
          have hcl0 : (0 : Int) ≤ (b.code.length : Int) := by omega
          have BLK : Hid (∀ (l : List BlkP) (q : Blk) (pa : Option Addr) (pc : Nat) w', BndSt19 V3 w4.heap.size g n bc' #[.string f.name, .int .i64 (R : Int), .slice aa f.arrays.length ac, .slice (some ⟨g, 0, none⟩) n bc'] l w' → l[j]? = some ⟨q, pa, pc⟩ →
              w'.cell? ⟨w4.heap.size, 3, none⟩ = some (.slice (some ⟨g, 0, none⟩) n bc') ∧ w'.cell? ⟨g, j * 5, none⟩ = some (.slice pa q.code.length pc) ∧ w'.cell? ⟨g, j * 5 + 1, none⟩ = some (.int .u8 q.kind) ∧ w'.cell? ⟨g, j * 5 + 2, none⟩ = some (.int .i64 q.x) ∧ w'.cell? ⟨w2.heap.size, 0, none⟩ = some (.int .i64 (r : Int))) := fun l q pa pc w' h hq => by
            have hc : ∀ (o : Nat) (v : Value), o < 5 → (BlkP.mk q pa pc).cells[o]? = some v → w'.cell? ⟨g, j * 5 + o, none⟩ = some v := fun o v ho hv => own_cell h.row.row ((flat_get BlkP.cells_len hq ho).trans hv)
            exact ⟨cell_heap h.gx 3, hc 0 _ (by omega) rfl, hc 1 _ (by omega) rfl, hc 2 _ (by omega) rfl, (KEEP.out _ h.low).2.2.1⟩
          obtain ⟨g3, k0, k1, k2, r0⟩ := BLK.out _ _ _ _ _ HST.out hp
          have u0 : wr.cell? ⟨w4.heap.size + 1, 0, none⟩ = some (.bool u) := cell_heap HFL.out 0
          have u1 : wr.frozen? ⟨w4.heap.size + 1, 0, none⟩ = false := frozen_heap HFL.out 0
          clear hb hp
          go_wp2_with fail
          refine cut_wp (R10 (fun w' => BndSt19 V3 w4.heap.size g n bc' #[.string f.name, .int .i64 (R : Int), .slice aa f.arrays.length ac, .slice (some ⟨g, 0, none⟩) n bc'] l w' ∧ ∃ u' : Bool, w'.heap[w4.heap.size + 1]? = some (.cells #[.bool u'] 4) ∧ (u = true → u' = true) ∧ (b.kind = 2 ∧ b.x = (r : Int) → u' = true))) ?_ ?_
          · skip
            have HS : Hid (∀ w', BndSt19 V3 w4.heap.size g n bc' #[.string f.name, .int .i64 (R : Int), .slice aa f.arrays.length ac, .slice (some ⟨g, 0, none⟩) n bc'] l w' → (w'.cell? ⟨w4.heap.size, 3, none⟩ = some (.slice (some ⟨g, 0, none⟩) n bc') ∧ w'.cell? ⟨g, j * 5 + 1, none⟩ = some (.int .u8 b.kind) ∧ w'.cell? ⟨g, j * 5 + 2, none⟩ = some (.int .i64 b.x) ∧ w'.cell? ⟨w2.heap.size, 0, none⟩ = some (.int .i64 (r : Int)))) := fun w' h => by
              obtain ⟨a0, _, a1, a2, a3⟩ := BLK.out _ _ _ _ _ h HP.out
              exact ⟨a0, a1, a2, a3⟩
            have HSD := Lib.hid (HST.out.keep (Below.refl wr.heap.size wr).drew)
            have HFD : Hid (wr.drew.heap[w4.heap.size + 1]? = some (.cells #[.bool u] 4)) := HFL.out
            refine wp_region_held_drew (S := fun w' => w'.cell? ⟨w4.heap.size, 3, none⟩ = some (.slice (some ⟨g, 0, none⟩) n bc') ∧ w'.cell? ⟨g, j * 5 + 1, none⟩ = some (.int .u8 b.kind) ∧ w'.cell? ⟨g, j * 5 + 2, none⟩ = some (.int .i64 b.x) ∧ w'.cell? ⟨w2.heap.size, 0, none⟩ = some (.int .i64 (r : Int))) (by kernel_rfl) (HS.out _ HSD.out) (fun hHeld => ?_)
            clear g3 k0 k1 k2 r0 u0 u1
            generalize hwd : wr.drew = D at hHeld HSD HFD ⊢
            clear hwd
            have u0 : D.cell? ⟨w4.heap.size + 1, 0, none⟩ = some (.bool u) := cell_heap HFD.out 0
            have u1 : D.frozen? ⟨w4.heap.size + 1, 0, none⟩ = false := frozen_heap HFD.out 0
            refine wpAnyH_ready (rs := [0]) (by kernel_rfl) (by simp) (AllReadyH.cons rfl (fun K hK => ?_) AllReadyH.nil)
            go_simp
            refine hK.out _ _ (hHeld) (fun hHeld => ?_)
            clear hK K
            rename_i hOld
            clear hOld
            (try simp only [Act.put, List.getElem_toArray, List.getElem_cons_zero, List.getElem_cons_succ, List.setIfInBounds_toArray, List.set_cons_zero, List.set_cons_succ])
            refine wpAnyH_take (i := 1) (v := .bool u) rfl (by kernel_rfl) (by kernel_rfl) (by kernel_rfl) (fun _ _ _ h => h) (Or.inl ⟨by rfl, ?_⟩) (by assumption) ?_
            · intro w' hSw; go_simp
            (try simp only [Act.put, List.getElem_toArray, List.getElem_cons_zero, List.getElem_cons_succ, List.setIfInBounds_toArray, List.set_cons_zero, List.set_cons_succ])
            cases u with
            | true =>
              refine wpAnyH_take (i := 2) (v := undef) rfl (by kernel_rfl) (by kernel_rfl) (by kernel_rfl) (fun _ _ _ h => h) (Or.inr ⟨by rfl, rfl⟩) (by assumption) ?_
              (try simp only [Act.put, List.getElem_toArray, List.getElem_cons_zero, List.getElem_cons_succ, List.setIfInBounds_toArray, List.set_cons_zero, List.set_cons_succ])
              refine wpAnyH_take (i := 4) (v := undef) rfl (by kernel_rfl) (by kernel_rfl) (by kernel_rfl) (fun _ _ _ h => h) (Or.inr ⟨by rfl, rfl⟩) (by assumption) ?_
              (try simp only [Act.put, List.getElem_toArray, List.getElem_cons_zero, List.getElem_cons_succ, List.setIfInBounds_toArray, List.set_cons_zero, List.set_cons_succ])
              refine wpAnyH_take (i := 3) (v := undef) rfl (by kernel_rfl) (by kernel_rfl) (by kernel_rfl) (fun _ _ _ h => h) (Or.inr ⟨by rfl, rfl⟩) (by assumption) ?_
              (try simp only [Act.put, List.getElem_toArray, List.getElem_cons_zero, List.getElem_cons_succ, List.setIfInBounds_toArray, List.set_cons_zero, List.set_cons_succ])
              refine wpAnyH_take (i := 5) (v := undef) rfl (by kernel_rfl) (by kernel_rfl) (by kernel_rfl) (fun _ _ _ h => h) (Or.inr ⟨by rfl, rfl⟩) (by assumption) ?_
              (try simp only [Act.put, List.getElem_toArray, List.getElem_cons_zero, List.getElem_cons_succ, List.setIfInBounds_toArray, List.set_cons_zero, List.set_cons_succ])
              refine wpAnyH_take (i := 6) (v := undef) rfl (by kernel_rfl) (by kernel_rfl) (by kernel_rfl) (fun _ _ _ h => h) (Or.inr ⟨by rfl, rfl⟩) (by assumption) ?_
              (try simp only [Act.put, List.getElem_toArray, List.getElem_cons_zero, List.getElem_cons_succ, List.setIfInBounds_toArray, List.set_cons_zero, List.set_cons_succ])
              refine wpAnyH_take (i := 7) (v := undef) rfl (by kernel_rfl) (by kernel_rfl) (by kernel_rfl) (fun _ _ _ h => h) (Or.inr ⟨by rfl, rfl⟩) (by assumption) ?_
              (try simp only [Act.put, List.getElem_toArray, List.getElem_cons_zero, List.getElem_cons_succ, List.setIfInBounds_toArray, List.set_cons_zero, List.set_cons_succ])
              refine wpAnyH_take (i := 8) (v := undef) rfl (by kernel_rfl) (by kernel_rfl) (by kernel_rfl) (fun _ _ _ h => h) (Or.inr ⟨by rfl, rfl⟩) (by assumption) ?_
              (try simp only [Act.put, List.getElem_toArray, List.getElem_cons_zero, List.getElem_cons_succ, List.setIfInBounds_toArray, List.set_cons_zero, List.set_cons_succ])
              refine wpAnyH_take (i := 9) (v := undef) rfl (by kernel_rfl) (by kernel_rfl) (by kernel_rfl) (fun _ _ _ h => h) (Or.inr ⟨by rfl, rfl⟩) (by assumption) ?_
              (try simp only [Act.put, List.getElem_toArray, List.getElem_cons_zero, List.getElem_cons_succ, List.setIfInBounds_toArray, List.set_cons_zero, List.set_cons_succ])
              refine wpAnyH_take (i := 10) (v := undef) rfl (by kernel_rfl) (by kernel_rfl) (by kernel_rfl) (fun _ _ _ h => h) (Or.inr ⟨by rfl, rfl⟩) (by assumption) ?_
              (try simp only [Act.put, List.getElem_toArray, List.getElem_cons_zero, List.getElem_cons_succ, List.setIfInBounds_toArray, List.set_cons_zero, List.set_cons_succ])
              refine wpAnyH_take (i := 12) (v := undef) rfl (by kernel_rfl) (by kernel_rfl) (by kernel_rfl) (fun _ _ _ h => h) (Or.inr ⟨by rfl, rfl⟩) (by assumption) ?_
              (try simp only [Act.put, List.getElem_toArray, List.getElem_cons_zero, List.getElem_cons_succ, List.setIfInBounds_toArray, List.set_cons_zero, List.set_cons_succ])
              refine wpAnyH_take (i := 11) (v := undef) rfl (by kernel_rfl) (by kernel_rfl) (by kernel_rfl) (fun _ _ _ h => h) (Or.inr ⟨by rfl, rfl⟩) (by assumption) ?_
              (try simp only [Act.put, List.getElem_toArray, List.getElem_cons_zero, List.getElem_cons_succ, List.setIfInBounds_toArray, List.set_cons_zero, List.set_cons_succ])
              refine wpAnyH_take (i := 13) (v := undef) rfl (by kernel_rfl) (by kernel_rfl) (by kernel_rfl) (fun _ _ _ h => h) (Or.inr ⟨by rfl, rfl⟩) (by assumption) ?_
              (try simp only [Act.put, List.getElem_toArray, List.getElem_cons_zero, List.getElem_cons_succ, List.setIfInBounds_toArray, List.set_cons_zero, List.set_cons_succ])
              refine wpAnyH_take (i := 14) (v := undef) rfl (by kernel_rfl) (by kernel_rfl) (by kernel_rfl) (fun _ _ _ h => h) (Or.inr ⟨by rfl, rfl⟩) (by assumption) ?_
              (try simp only [Act.put, List.getElem_toArray, List.getElem_cons_zero, List.getElem_cons_succ, List.setIfInBounds_toArray, List.set_cons_zero, List.set_cons_succ])
              refine wpAnyH_take (i := 15) (v := undef) rfl (by kernel_rfl) (by kernel_rfl) (by kernel_rfl) (fun _ _ _ h => h) (Or.inr ⟨by rfl, rfl⟩) (by assumption) ?_
              (try simp only [Act.put, List.getElem_toArray, List.getElem_cons_zero, List.getElem_cons_succ, List.setIfInBounds_toArray, List.set_cons_zero, List.set_cons_succ])
              refine wpAnyH_take (i := 16) (v := undef) rfl (by kernel_rfl) (by kernel_rfl) (by kernel_rfl) (fun _ _ _ h => h) (Or.inr ⟨by rfl, rfl⟩) (by assumption) ?_
              (try simp only [Act.put, List.getElem_toArray, List.getElem_cons_zero, List.getElem_cons_succ, List.setIfInBounds_toArray, List.set_cons_zero, List.set_cons_succ])
              refine wpAnyH_take (i := 17) (v := undef) rfl (by kernel_rfl) (by kernel_rfl) (by kernel_rfl) (fun _ _ _ h => h) (Or.inr ⟨by rfl, rfl⟩) (by assumption) ?_
              (try simp only [Act.put, List.getElem_toArray, List.getElem_cons_zero, List.getElem_cons_succ, List.setIfInBounds_toArray, List.set_cons_zero, List.set_cons_succ])
              refine wpAnyH_take (i := 18) (v := undef) rfl (by kernel_rfl) (by kernel_rfl) (by kernel_rfl) (fun _ _ _ h => h) (Or.inr ⟨by rfl, rfl⟩) (by assumption) ?_
              (try simp only [Act.put, List.getElem_toArray, List.getElem_cons_zero, List.getElem_cons_succ, List.setIfInBounds_toArray, List.set_cons_zero, List.set_cons_succ])
              refine wpAnyH_take (i := 19) (v := .bool true) rfl (by kernel_rfl) (by kernel_rfl) (by kernel_rfl) (fun _ _ _ h => h) (Or.inl ⟨by rfl, ?_⟩) (by assumption) ?_
              · intro w' hSw; go_simp
              (try simp only [Act.put, List.getElem_toArray, List.getElem_cons_zero, List.getElem_cons_succ, List.setIfInBounds_toArray, List.set_cons_zero, List.set_cons_succ])
              refine wpAnyH_ready (rs := [20]) (by kernel_rfl) (by simp) (AllReadyH.cons rfl (fun K hK => ?_) AllReadyH.nil)
              go_simp
              have hset := flag_set true HSD.out HFD.out
              generalize D.setCell ⟨w4.heap.size + 1, 0, none⟩ (.bool true) = w7 at hset ⊢
              refine hK.out _ _ ((HS.out _ hset.1)) (fun hHeld => ?_)
              clear hK K
              rename_i hOld
              clear hOld
              (try simp only [Act.put, List.getElem_toArray, List.getElem_cons_zero, List.getElem_cons_succ, List.setIfInBounds_toArray, List.set_cons_zero, List.set_cons_succ])
              refine wpAnyH_done (by kernel_rfl) ?_ _
              exact ⟨_, _, _, _, _, _, _, _, _, _, _, _, _, _, _, _, _, _, _, _, by (simp only [List.setIfInBounds_toArray, List.set_cons_zero, List.set_cons_succ]; rfl), hset.1, true, hset.2, fun _ => rfl, fun _ => rfl⟩
            | false =>
              refine wpAnyH_take (i := 2) (v := .pointer (some ⟨w4.heap.size, 3, none⟩)) rfl (by kernel_rfl) (by kernel_rfl) (by kernel_rfl) (fun _ _ _ h => h) (Or.inl ⟨by rfl, ?_⟩) (by assumption) ?_
              · intro w' hSw; go_simp
              (try simp only [Act.put, List.getElem_toArray, List.getElem_cons_zero, List.getElem_cons_succ, List.setIfInBounds_toArray, List.set_cons_zero, List.set_cons_succ])
              refine wpAnyH_take (i := 3) (v := .slice (some ⟨g, 0, none⟩) n bc') rfl (by kernel_rfl) (by kernel_rfl) (by kernel_rfl) (fun _ _ _ h => h) (Or.inl ⟨by rfl, ?_⟩) (by assumption) ?_
              · intro w' hSw; obtain ⟨q0, q1, q2, q3⟩ := hSw; go_simp
              (try simp only [Act.put, List.getElem_toArray, List.getElem_cons_zero, List.getElem_cons_succ, List.setIfInBounds_toArray, List.set_cons_zero, List.set_cons_succ])
              refine wpAnyH_take (i := 4) (v := .int .i64 (j : Int)) rfl (by kernel_rfl) (by kernel_rfl) (by kernel_rfl) (fun _ _ _ h => h) (Or.inl ⟨by rfl, ?_⟩) (by assumption) ?_
              · intro w' hSw; go_simp
              (try simp only [Act.put, List.getElem_toArray, List.getElem_cons_zero, List.getElem_cons_succ, List.setIfInBounds_toArray, List.set_cons_zero, List.set_cons_succ])
              refine wpAnyH_take (i := 5) (v := .pointer (some ⟨g, j * 5, none⟩)) rfl (by kernel_rfl) (by kernel_rfl) (by kernel_rfl) (fun _ _ _ h => h) (Or.inl ⟨by rfl, ?_⟩) (by assumption) ?_
              · intro w' hSw; go_simp
              (try simp only [Act.put, List.getElem_toArray, List.getElem_cons_zero, List.getElem_cons_succ, List.setIfInBounds_toArray, List.set_cons_zero, List.set_cons_succ])
              refine wpAnyH_take (i := 6) (v := .pointer (some ⟨g, j * 5 + 1, none⟩)) rfl (by kernel_rfl) (by kernel_rfl) (by kernel_rfl) (fun _ _ _ h => h) (Or.inl ⟨by rfl, ?_⟩) (by assumption) ?_
              · intro w' hSw; go_simp
              (try simp only [Act.put, List.getElem_toArray, List.getElem_cons_zero, List.getElem_cons_succ, List.setIfInBounds_toArray, List.set_cons_zero, List.set_cons_succ])
              refine wpAnyH_take (i := 7) (v := .int .u8 b.kind) rfl (by kernel_rfl) (by kernel_rfl) (by kernel_rfl) (fun _ _ _ h => h) (Or.inl ⟨by rfl, ?_⟩) (by assumption) ?_
              · intro w' hSw; obtain ⟨q0, q1, q2, q3⟩ := hSw; go_simp
              (try simp only [Act.put, List.getElem_toArray, List.getElem_cons_zero, List.getElem_cons_succ, List.setIfInBounds_toArray, List.set_cons_zero, List.set_cons_succ])
              by_cases hkd : b.kind = 2
              · have e2 : (b.kind == 2) = true := by simp [hkd]
                refine wpAnyH_take (i := 8) (v := .bool true) rfl (by kernel_rfl) (by kernel_rfl) (by kernel_rfl) (fun _ _ _ h => h) (Or.inl ⟨by rfl, ?_⟩) (by assumption) ?_
                · intro w' hSw; go_simp
                (try simp only [Act.put, List.getElem_toArray, List.getElem_cons_zero, List.getElem_cons_succ, List.setIfInBounds_toArray, List.set_cons_zero, List.set_cons_succ])
                refine wpAnyH_take (i := 9) (v := .bool true) rfl (by kernel_rfl) (by kernel_rfl) (by kernel_rfl) (fun _ _ _ h => h) (Or.inl ⟨by rfl, ?_⟩) (by assumption) ?_
                · intro w' hSw; go_simp
                (try simp only [Act.put, List.getElem_toArray, List.getElem_cons_zero, List.getElem_cons_succ, List.setIfInBounds_toArray, List.set_cons_zero, List.set_cons_succ])
                refine wpAnyH_take (i := 10) (v := .pointer (some ⟨w4.heap.size, 3, none⟩)) rfl (by kernel_rfl) (by kernel_rfl) (by kernel_rfl) (fun _ _ _ h => h) (Or.inl ⟨by rfl, ?_⟩) (by assumption) ?_
                · intro w' hSw; go_simp
                (try simp only [Act.put, List.getElem_toArray, List.getElem_cons_zero, List.getElem_cons_succ, List.setIfInBounds_toArray, List.set_cons_zero, List.set_cons_succ])
                refine wpAnyH_take (i := 11) (v := .slice (some ⟨g, 0, none⟩) n bc') rfl (by kernel_rfl) (by kernel_rfl) (by kernel_rfl) (fun _ _ _ h => h) (Or.inl ⟨by rfl, ?_⟩) (by assumption) ?_
                · intro w' hSw; obtain ⟨q0, q1, q2, q3⟩ := hSw; go_simp
                (try simp only [Act.put, List.getElem_toArray, List.getElem_cons_zero, List.getElem_cons_succ, List.setIfInBounds_toArray, List.set_cons_zero, List.set_cons_succ])
                refine wpAnyH_take (i := 12) (v := .int .i64 (j : Int)) rfl (by kernel_rfl) (by kernel_rfl) (by kernel_rfl) (fun _ _ _ h => h) (Or.inl ⟨by rfl, ?_⟩) (by assumption) ?_
                · intro w' hSw; go_simp
                (try simp only [Act.put, List.getElem_toArray, List.getElem_cons_zero, List.getElem_cons_succ, List.setIfInBounds_toArray, List.set_cons_zero, List.set_cons_succ])
                refine wpAnyH_take (i := 13) (v := .pointer (some ⟨g, j * 5, none⟩)) rfl (by kernel_rfl) (by kernel_rfl) (by kernel_rfl) (fun _ _ _ h => h) (Or.inl ⟨by rfl, ?_⟩) (by assumption) ?_
                · intro w' hSw; go_simp
                (try simp only [Act.put, List.getElem_toArray, List.getElem_cons_zero, List.getElem_cons_succ, List.setIfInBounds_toArray, List.set_cons_zero, List.set_cons_succ])
                refine wpAnyH_take (i := 14) (v := .pointer (some ⟨g, j * 5 + 2, none⟩)) rfl (by kernel_rfl) (by kernel_rfl) (by kernel_rfl) (fun _ _ _ h => h) (Or.inl ⟨by rfl, ?_⟩) (by assumption) ?_
                · intro w' hSw; go_simp
                (try simp only [Act.put, List.getElem_toArray, List.getElem_cons_zero, List.getElem_cons_succ, List.setIfInBounds_toArray, List.set_cons_zero, List.set_cons_succ])
                refine wpAnyH_take (i := 15) (v := .int .i64 b.x) rfl (by kernel_rfl) (by kernel_rfl) (by kernel_rfl) (fun _ _ _ h => h) (Or.inl ⟨by rfl, ?_⟩) (by assumption) ?_
                · intro w' hSw; obtain ⟨q0, q1, q2, q3⟩ := hSw; go_simp
                (try simp only [Act.put, List.getElem_toArray, List.getElem_cons_zero, List.getElem_cons_succ, List.setIfInBounds_toArray, List.set_cons_zero, List.set_cons_succ])
                refine wpAnyH_take (i := 16) (v := .int .i64 (r : Int)) rfl (by kernel_rfl) (by kernel_rfl) (by kernel_rfl) (fun _ _ _ h => h) (Or.inl ⟨by rfl, ?_⟩) (by assumption) ?_
                · intro w' hSw; obtain ⟨q0, q1, q2, q3⟩ := hSw; go_simp
                (try simp only [Act.put, List.getElem_toArray, List.getElem_cons_zero, List.getElem_cons_succ, List.setIfInBounds_toArray, List.set_cons_zero, List.set_cons_succ])
                by_cases hxr : b.x = (r : Int)
                · have e3 : (b.x == (r : Int)) = true := by simp [hxr]
                  refine wpAnyH_take (i := 17) (v := .bool true) rfl (by kernel_rfl) (by kernel_rfl) (by kernel_rfl) (fun _ _ _ h => h) (Or.inl ⟨by rfl, ?_⟩) (by assumption) ?_
                  · intro w' hSw; go_simp
                  (try simp only [Act.put, List.getElem_toArray, List.getElem_cons_zero, List.getElem_cons_succ, List.setIfInBounds_toArray, List.set_cons_zero, List.set_cons_succ])
                  refine wpAnyH_take (i := 18) (v := .bool true) rfl (by kernel_rfl) (by kernel_rfl) (by kernel_rfl) (fun _ _ _ h => h) (Or.inl ⟨by rfl, ?_⟩) (by assumption) ?_
                  · intro w' hSw; go_simp
                  (try simp only [Act.put, List.getElem_toArray, List.getElem_cons_zero, List.getElem_cons_succ, List.setIfInBounds_toArray, List.set_cons_zero, List.set_cons_succ])
                  refine wpAnyH_take (i := 19) (v := .bool true) rfl (by kernel_rfl) (by kernel_rfl) (by kernel_rfl) (fun _ _ _ h => h) (Or.inl ⟨by rfl, ?_⟩) (by assumption) ?_
                  · intro w' hSw; go_simp
                  (try simp only [Act.put, List.getElem_toArray, List.getElem_cons_zero, List.getElem_cons_succ, List.setIfInBounds_toArray, List.set_cons_zero, List.set_cons_succ])
                  refine wpAnyH_ready (rs := [20]) (by kernel_rfl) (by simp) (AllReadyH.cons rfl (fun K hK => ?_) AllReadyH.nil)
                  go_simp
                  have hset := flag_set true HSD.out HFD.out
                  generalize D.setCell ⟨w4.heap.size + 1, 0, none⟩ (.bool true) = w7 at hset ⊢
                  refine hK.out _ _ ((HS.out _ hset.1)) (fun hHeld => ?_)
                  clear hK K
                  rename_i hOld
                  clear hOld
                  (try simp only [Act.put, List.getElem_toArray, List.getElem_cons_zero, List.getElem_cons_succ, List.setIfInBounds_toArray, List.set_cons_zero, List.set_cons_succ])
                  refine wpAnyH_done (by kernel_rfl) ?_ _
                  exact ⟨_, _, _, _, _, _, _, _, _, _, _, _, _, _, _, _, _, _, _, _, by (simp only [List.setIfInBounds_toArray, List.set_cons_zero, List.set_cons_succ]; rfl), hset.1, true, hset.2, fun _ => rfl, fun _ => rfl⟩
                · have e3 : (b.x == (r : Int)) = false := by simp [hxr]
                  refine wpAnyH_take (i := 17) (v := .bool false) rfl (by kernel_rfl) (by kernel_rfl) (by kernel_rfl) (fun _ _ _ h => h) (Or.inl ⟨by rfl, ?_⟩) (by assumption) ?_
                  · intro w' hSw; go_simp
                  (try simp only [Act.put, List.getElem_toArray, List.getElem_cons_zero, List.getElem_cons_succ, List.setIfInBounds_toArray, List.set_cons_zero, List.set_cons_succ])
                  refine wpAnyH_take (i := 18) (v := .bool false) rfl (by kernel_rfl) (by kernel_rfl) (by kernel_rfl) (fun _ _ _ h => h) (Or.inl ⟨by rfl, ?_⟩) (by assumption) ?_
                  · intro w' hSw; go_simp
                  (try simp only [Act.put, List.getElem_toArray, List.getElem_cons_zero, List.getElem_cons_succ, List.setIfInBounds_toArray, List.set_cons_zero, List.set_cons_succ])
                  refine wpAnyH_take (i := 19) (v := .bool false) rfl (by kernel_rfl) (by kernel_rfl) (by kernel_rfl) (fun _ _ _ h => h) (Or.inl ⟨by rfl, ?_⟩) (by assumption) ?_
                  · intro w' hSw; go_simp
                  (try simp only [Act.put, List.getElem_toArray, List.getElem_cons_zero, List.getElem_cons_succ, List.setIfInBounds_toArray, List.set_cons_zero, List.set_cons_succ])
                  refine wpAnyH_ready (rs := [20]) (by kernel_rfl) (by simp) (AllReadyH.cons rfl (fun K hK => ?_) AllReadyH.nil)
                  go_simp
                  have hset := flag_set false HSD.out HFD.out
                  generalize D.setCell ⟨w4.heap.size + 1, 0, none⟩ (.bool false) = w7 at hset ⊢
                  refine hK.out _ _ ((HS.out _ hset.1)) (fun hHeld => ?_)
                  clear hK K
                  rename_i hOld
                  clear hOld
                  (try simp only [Act.put, List.getElem_toArray, List.getElem_cons_zero, List.getElem_cons_succ, List.setIfInBounds_toArray, List.set_cons_zero, List.set_cons_succ])
                  refine wpAnyH_done (by kernel_rfl) ?_ _
                  exact ⟨_, _, _, _, _, _, _, _, _, _, _, _, _, _, _, _, _, _, _, _, by (simp only [List.setIfInBounds_toArray, List.set_cons_zero, List.set_cons_succ]; rfl), hset.1, false, hset.2, fun h => h, fun h => absurd h.2 hxr⟩
              · have e2 : (b.kind == 2) = false := by simp [hkd]
                refine wpAnyH_take (i := 8) (v := .bool false) rfl (by kernel_rfl) (by kernel_rfl) (by kernel_rfl) (fun _ _ _ h => h) (Or.inl ⟨by rfl, ?_⟩) (by assumption) ?_
                · intro w' hSw; go_simp
                (try simp only [Act.put, List.getElem_toArray, List.getElem_cons_zero, List.getElem_cons_succ, List.setIfInBounds_toArray, List.set_cons_zero, List.set_cons_succ])
                refine wpAnyH_take (i := 9) (v := .bool false) rfl (by kernel_rfl) (by kernel_rfl) (by kernel_rfl) (fun _ _ _ h => h) (Or.inl ⟨by rfl, ?_⟩) (by assumption) ?_
                · intro w' hSw; go_simp
                (try simp only [Act.put, List.getElem_toArray, List.getElem_cons_zero, List.getElem_cons_succ, List.setIfInBounds_toArray, List.set_cons_zero, List.set_cons_succ])
                refine wpAnyH_take (i := 10) (v := undef) rfl (by kernel_rfl) (by kernel_rfl) (by kernel_rfl) (fun _ _ _ h => h) (Or.inr ⟨by rfl, rfl⟩) (by assumption) ?_
                (try simp only [Act.put, List.getElem_toArray, List.getElem_cons_zero, List.getElem_cons_succ, List.setIfInBounds_toArray, List.set_cons_zero, List.set_cons_succ])
                refine wpAnyH_take (i := 12) (v := undef) rfl (by kernel_rfl) (by kernel_rfl) (by kernel_rfl) (fun _ _ _ h => h) (Or.inr ⟨by rfl, rfl⟩) (by assumption) ?_
                (try simp only [Act.put, List.getElem_toArray, List.getElem_cons_zero, List.getElem_cons_succ, List.setIfInBounds_toArray, List.set_cons_zero, List.set_cons_succ])
                refine wpAnyH_take (i := 11) (v := undef) rfl (by kernel_rfl) (by kernel_rfl) (by kernel_rfl) (fun _ _ _ h => h) (Or.inr ⟨by rfl, rfl⟩) (by assumption) ?_
                (try simp only [Act.put, List.getElem_toArray, List.getElem_cons_zero, List.getElem_cons_succ, List.setIfInBounds_toArray, List.set_cons_zero, List.set_cons_succ])
                refine wpAnyH_take (i := 13) (v := undef) rfl (by kernel_rfl) (by kernel_rfl) (by kernel_rfl) (fun _ _ _ h => h) (Or.inr ⟨by rfl, rfl⟩) (by assumption) ?_
                (try simp only [Act.put, List.getElem_toArray, List.getElem_cons_zero, List.getElem_cons_succ, List.setIfInBounds_toArray, List.set_cons_zero, List.set_cons_succ])
                refine wpAnyH_take (i := 14) (v := undef) rfl (by kernel_rfl) (by kernel_rfl) (by kernel_rfl) (fun _ _ _ h => h) (Or.inr ⟨by rfl, rfl⟩) (by assumption) ?_
                (try simp only [Act.put, List.getElem_toArray, List.getElem_cons_zero, List.getElem_cons_succ, List.setIfInBounds_toArray, List.set_cons_zero, List.set_cons_succ])
                refine wpAnyH_take (i := 15) (v := undef) rfl (by kernel_rfl) (by kernel_rfl) (by kernel_rfl) (fun _ _ _ h => h) (Or.inr ⟨by rfl, rfl⟩) (by assumption) ?_
                (try simp only [Act.put, List.getElem_toArray, List.getElem_cons_zero, List.getElem_cons_succ, List.setIfInBounds_toArray, List.set_cons_zero, List.set_cons_succ])
                refine wpAnyH_take (i := 16) (v := undef) rfl (by kernel_rfl) (by kernel_rfl) (by kernel_rfl) (fun _ _ _ h => h) (Or.inr ⟨by rfl, rfl⟩) (by assumption) ?_
                (try simp only [Act.put, List.getElem_toArray, List.getElem_cons_zero, List.getElem_cons_succ, List.setIfInBounds_toArray, List.set_cons_zero, List.set_cons_succ])
                refine wpAnyH_take (i := 17) (v := undef) rfl (by kernel_rfl) (by kernel_rfl) (by kernel_rfl) (fun _ _ _ h => h) (Or.inr ⟨by rfl, rfl⟩) (by assumption) ?_
                (try simp only [Act.put, List.getElem_toArray, List.getElem_cons_zero, List.getElem_cons_succ, List.setIfInBounds_toArray, List.set_cons_zero, List.set_cons_succ])
                refine wpAnyH_take (i := 18) (v := .bool false) rfl (by kernel_rfl) (by kernel_rfl) (by kernel_rfl) (fun _ _ _ h => h) (Or.inl ⟨by rfl, ?_⟩) (by assumption) ?_
                · intro w' hSw; go_simp
                (try simp only [Act.put, List.getElem_toArray, List.getElem_cons_zero, List.getElem_cons_succ, List.setIfInBounds_toArray, List.set_cons_zero, List.set_cons_succ])
                refine wpAnyH_take (i := 19) (v := .bool false) rfl (by kernel_rfl) (by kernel_rfl) (by kernel_rfl) (fun _ _ _ h => h) (Or.inl ⟨by rfl, ?_⟩) (by assumption) ?_
                · intro w' hSw; go_simp
                (try simp only [Act.put, List.getElem_toArray, List.getElem_cons_zero, List.getElem_cons_succ, List.setIfInBounds_toArray, List.set_cons_zero, List.set_cons_succ])
                refine wpAnyH_ready (rs := [20]) (by kernel_rfl) (by simp) (AllReadyH.cons rfl (fun K hK => ?_) AllReadyH.nil)
                go_simp
                have hset := flag_set false HSD.out HFD.out
                generalize D.setCell ⟨w4.heap.size + 1, 0, none⟩ (.bool false) = w7 at hset ⊢
                refine hK.out _ _ ((HS.out _ hset.1)) (fun hHeld => ?_)
                clear hK K
                rename_i hOld
                clear hOld
                (try simp only [Act.put, List.getElem_toArray, List.getElem_cons_zero, List.getElem_cons_succ, List.setIfInBounds_toArray, List.set_cons_zero, List.set_cons_succ])
                refine wpAnyH_done (by kernel_rfl) ?_ _
                exact ⟨_, _, _, _, _, _, _, _, _, _, _, _, _, _, _, _, _, _, _, _, by (simp only [List.setIfInBounds_toArray, List.set_cons_zero, List.set_cons_succ]; rfl), hset.1, false, hset.2, fun h => h, fun h => absurd h.1 hkd⟩
          · rintro a' Wb ⟨y48, y49, y50, y51, y52, y53, y54, y55, y56, y57, y58, y59, y60, y61, y62, y63, y64, y65, y66, y67, rfl, hst2, u2, hfl2, hmono2, hkx⟩
            simp only [List.setIfInBounds_toArray, List.set_cons_zero, List.set_cons_succ]
            have HST2 := Lib.hid hst2
            have HFL2 := Lib.hid hfl2
            have HUS2 : Hid (∀ (i : Nat) (b : Blk), i < j → f.blocks[i]? = some b → UsedBlk r b → u2 = true) := fun i b h1 h2 h3 => hmono2 (HUS.out i b h1 h2 h3)
            have HKX := Lib.hid hkx
            obtain ⟨g3, k0, _, _, _⟩ := BLK.out _ _ _ _ _ hst2 HP.out
            clear hst2 hfl2 hmono2 hkx HST HFL HUS u0 u1
            go_wp2_with fail
            clear g3 k0
            go_loopw [75] (fun iv wi => ∃ (m : Nat) (l : List BlkP) (u : Bool), m ≤ b.code.length ∧ iv = .int .i64 (m : Int) ∧ BndSt19 V3 w4.heap.size g n bc' #[.string f.name, .int .i64 (R : Int), .slice aa f.arrays.length ac, .slice (some ⟨g, 0, none⟩) n bc'] l wi ∧ wi.heap[w4.heap.size + 1]? = some (.cells #[.bool u] 4) ∧
                ZapL r f l j m ∧ l[j]? = some ⟨zapC r m b, pa, pc⟩ ∧ (∀ (i : Nat) (b : Blk), i < j → f.blocks[i]? = some b → UsedBlk r b → u = true) ∧ (b.kind = 2 ∧ b.x = (r : Int) → u = true) ∧ (∀ (i : Nat) (q : Ins), i < m → b.code[i]? = some q → (r : Int) ∈ q.uses → u = true)) (fun iv _ => b.code.length - (intOf iv).toNat)
            case atStart => exact ⟨0, l, u2, Nat.zero_le _, rfl, HST2.out, HFL2.out, HZL.out, by rw [zapC_none]; exact HP.out, HUS2.out, HKX.out, fun i q hi => absurd hi (by omega)⟩
            case round =>
              clear HST2 HFL2 HUS2 HKX HZL HP
              obtain ⟨m, l, u, hm, rfl, hst, hfl, hzl, hp, hus, hkx, hcu⟩ := hrel
              have HST := Lib.hid hst
              have HFL := Lib.hid hfl
              have HZL := Lib.hid hzl
              have HP := Lib.hid hp
              have HUS := Lib.hid hus
              have HKX := Lib.hid hkx
              have HCU := Lib.hid hcu
              have hm0 : (0 : Int) ≤ (m : Int) := by omega
              clear hst hfl hzl hp hus hkx hcu
              by_cases hml : m < b.code.length
              · have hml2 : (m : Int) < (b.code.length : Int) := by omega
                obtain ⟨i, hi⟩ : ∃ i, b.code[m]? = some i := ⟨_, List.getElem?_eq_getElem hml⟩
                have HI := Lib.hid hi
                have HGI : Hid ((zapC r m b).code[m]? = some i) := zapC_get hi
                have HROW := Lib.hid (HST.out.row.code _ (List.mem_of_getElem? HP.out))
                have hro := HROW.out
                unfold BlkP.code at hro
                rw [zapC_len] at hro
                obtain ⟨cb, rfl, hcbN, hcbl, _⟩ := own_some hro (by omega)
                have HCC : Hid (∀ (l : List BlkP) w', BndSt19 V3 w4.heap.size g n bc' #[.string f.name, .int .i64 (R : Int), .slice aa f.arrays.length ac, .slice (some ⟨g, 0, none⟩) n bc'] l w' → l[j]? = some ⟨zapC r m b, some ⟨cb, 0, none⟩, pc⟩ → w'.cell? ⟨cb, m * 6, none⟩ = some (.int .u8 i.op) ∧ w'.cell? ⟨cb, m * 6 + 1, none⟩ = some (.int .i64 i.dst) ∧ w'.cell? ⟨cb, m * 6 + 2, none⟩ = some (.int .i64 i.x) ∧ w'.cell? ⟨cb, m * 6 + 3, none⟩ = some (.int .i64 i.y) ∧ w'.cell? ⟨cb, m * 6 + 4, none⟩ = some (.int .i64 i.imm) ∧ w'.cell? ⟨cb, m * 6 + 5, none⟩ = some (.string i.sym) ∧ ∀ o, w'.frozen? ⟨cb, o, none⟩ = false) := fun l w' h hq => by
                  have h1 := h.row.code _ (List.mem_of_getElem? hq)
                  have hc : ∀ (o : Nat) (v : Value), o < 6 → i.cells[o]? = some v → w'.cell? ⟨cb, m * 6 + o, none⟩ = some v := fun o v ho hv => own_cell h1 ((flat_get Ins.cells_len HGI.out ho).trans hv)
                  exact ⟨hc 0 _ (by omega) rfl, hc 1 _ (by omega) rfl, hc 2 _ (by omega) rfl, hc 3 _ (by omega) rfl, hc 4 _ (by omega) rfl, hc 5 _ (by omega) rfl, fun o => row_free h1 o⟩
                obtain ⟨i0, i1, i2, i3, i4, i5, _⟩ := HCC.out _ _ HST.out HP.out
                obtain ⟨V1, hV1⟩ : ∃ V1 : World, wr.alloc (.cells #[.int .u8 i.op, .int .i64 i.dst, .int .i64 i.x, .int .i64 i.y, .int .i64 i.imm, .string i.sym] 54) = V1 := ⟨_, rfl⟩
                have HBV1 : Hid (Below wr.heap.size wr V1) := by show Below _ _ _; rw [← hV1]; exact (Below.refl _ _).alloc (Nat.le_refl _) _
                have HNB : Hid (V1.heap[wr.heap.size]? = some (.cells #[.int .u8 i.op, .int .i64 i.dst, .int .i64 i.x, .int .i64 i.y, .int .i64 i.imm, .string i.sym] 54)) := by show _ = _; rw [← hV1]; exact (MapKept.heap_alloc wr _).1
                have HV1S : Hid (V1.heap.size = wr.heap.size + 1) := by show _ = _; rw [← hV1]; simp
                have HST1 := Lib.hid (HST.out.keep HBV1.out)
                have HFL1 : Hid (V1.heap[w4.heap.size + 1]? = some (.cells #[.bool u] 4)) := (HBV1.out.block _ (lt_heap HFL.out)).trans HFL.out
                have QDE : Hid (∀ w', Calls Tryd.prog 23 #[.agg #[.int .u8 i.op, .int .i64 i.dst, .int .i64 i.x, .int .i64 i.y, .int .i64 i.imm, .string i.sym]] w' (DefOk i w')) := fun w' => defines_any i w'
                have QUS : Hid (∀ w', Calls Tryd.prog 24 #[.agg #[.int .u8 i.op, .int .i64 i.dst, .int .i64 i.x, .int .i64 i.y, .int .i64 i.imm, .string i.sym]] w' (IntsNew i.uses w')) := fun w' => uses_any i w'
                clear hi hro HST HROW
                go_wp2_with fail
                clear i0 i1 i2 i3 i4 i5 hV1
                have HGL : Hid (w4.heap.size + 1 < wr.heap.size) := by
                  exact lt_heap HFL.out
                have NS : Hid (∀ w', BndSt19 V3 w4.heap.size g n bc' #[.string f.name, .int .i64 (R : Int), .slice aa f.arrays.length ac, .slice (some ⟨g, 0, none⟩) n bc'] l w' → w'.heap[wr.heap.size]? = some (.cells #[.int .u8 i.op, .int .i64 i.dst, .int .i64 i.x, .int .i64 i.y, .int .i64 i.imm, .string i.sym] 54) → (w'.cell? ⟨wr.heap.size, 0, none⟩ = some (.int .u8 i.op) ∧ w'.cell? ⟨wr.heap.size, 1, none⟩ = some (.int .i64 i.dst) ∧ w'.cell? ⟨wr.heap.size, 2, none⟩ = some (.int .i64 i.x) ∧ w'.cell? ⟨wr.heap.size, 3, none⟩ = some (.int .i64 i.y) ∧ w'.cell? ⟨wr.heap.size, 4, none⟩ = some (.int .i64 i.imm) ∧ w'.cell? ⟨wr.heap.size, 5, none⟩ = some (.string i.sym) ∧ w'.cell? ⟨w2.heap.size, 0, none⟩ = some (.int .i64 (r : Int)))) := fun w' h1 h2 =>
                  ⟨cell_heap h2 0, cell_heap h2 1, cell_heap h2 2, cell_heap h2 3, cell_heap h2 4, cell_heap h2 5, (KEEP.out _ h1.low).2.2.1⟩
                refine cut_wp (R14 (fun w' => BndSt19 V3 w4.heap.size g n bc' #[.string f.name, .int .i64 (R : Int), .slice aa f.arrays.length ac, .slice (some ⟨g, 0, none⟩) n bc'] l w' ∧ w'.heap[wr.heap.size]? = some (.cells #[.int .u8 i.op, .int .i64 i.dst, .int .i64 i.x, .int .i64 i.y, .int .i64 i.imm, .string i.sym] 54) ∧ ∃ u' : Bool, w'.heap[w4.heap.size + 1]? = some (.cells #[.bool u'] 4) ∧ (u = true → u' = true) ∧ ((r : Int) ∈ i.uses → u' = true))) ?_ ?_
                · skip
                  have HSD := Lib.hid (HST1.out.keep (Below.refl V1.heap.size V1).drew)
                  have HFD : Hid (V1.drew.heap[w4.heap.size + 1]? = some (.cells #[.bool u] 4)) := HFL1.out
                  have HND : Hid (V1.drew.heap[wr.heap.size]? = some (.cells #[.int .u8 i.op, .int .i64 i.dst, .int .i64 i.x, .int .i64 i.y, .int .i64 i.imm, .string i.sym] 54)) := HNB.out
                  refine wp_region_held_drew (S := fun w' => (w'.cell? ⟨wr.heap.size, 0, none⟩ = some (.int .u8 i.op) ∧ w'.cell? ⟨wr.heap.size, 1, none⟩ = some (.int .i64 i.dst) ∧ w'.cell? ⟨wr.heap.size, 2, none⟩ = some (.int .i64 i.x) ∧ w'.cell? ⟨wr.heap.size, 3, none⟩ = some (.int .i64 i.y) ∧ w'.cell? ⟨wr.heap.size, 4, none⟩ = some (.int .i64 i.imm) ∧ w'.cell? ⟨wr.heap.size, 5, none⟩ = some (.string i.sym) ∧ w'.cell? ⟨w2.heap.size, 0, none⟩ = some (.int .i64 (r : Int)))) (by kernel_rfl) (NS.out _ HSD.out HND.out) (fun hHeld => ?_)
                  generalize hwd : V1.drew = D at hHeld HSD HFD HND ⊢
                  clear hwd
                  have u0 : D.cell? ⟨w4.heap.size + 1, 0, none⟩ = some (.bool u) := cell_heap HFD.out 0
                  have u1 : D.frozen? ⟨w4.heap.size + 1, 0, none⟩ = false := frozen_heap HFD.out 0
                  refine wpAnyH_ready (rs := [0]) (by kernel_rfl) (by simp) (AllReadyH.cons rfl (fun K hK => ?_) AllReadyH.nil)
                  go_simp
                  refine hK.out _ _ (hHeld) (fun hHeld => ?_)
                  clear hK K
                  rename_i hOld
                  clear hOld
                  (try simp only [Act.put, List.getElem_toArray, List.getElem_cons_zero, List.getElem_cons_succ, List.setIfInBounds_toArray, List.set_cons_zero, List.set_cons_succ])
                  refine wpAnyH_take (i := 1) (v := .bool u) rfl (by kernel_rfl) (by kernel_rfl) (by kernel_rfl) (fun _ _ _ h => h) (Or.inl ⟨by rfl, ?_⟩) (by assumption) ?_
                  · intro w' hSw; go_simp
                  (try simp only [Act.put, List.getElem_toArray, List.getElem_cons_zero, List.getElem_cons_succ, List.setIfInBounds_toArray, List.set_cons_zero, List.set_cons_succ])
                  cases u with
                  | true =>
                    refine wpAnyH_take (i := 2) (v := undef) rfl (by kernel_rfl) (by kernel_rfl) (by kernel_rfl) (fun _ _ _ h => h) (Or.inr ⟨by rfl, rfl⟩) (by assumption) ?_
                    (try simp only [Act.put, List.getElem_toArray, List.getElem_cons_zero, List.getElem_cons_succ, List.setIfInBounds_toArray, List.set_cons_zero, List.set_cons_succ])
                    refine wpAnyH_take (i := 4) (v := undef) rfl (by kernel_rfl) (by kernel_rfl) (by kernel_rfl) (fun _ _ _ h => h) (Or.inr ⟨by rfl, rfl⟩) (by assumption) ?_
                    (try simp only [Act.put, List.getElem_toArray, List.getElem_cons_zero, List.getElem_cons_succ, List.setIfInBounds_toArray, List.set_cons_zero, List.set_cons_succ])
                    refine wpAnyH_take (i := 3) (v := undef) rfl (by kernel_rfl) (by kernel_rfl) (by kernel_rfl) (fun _ _ _ h => h) (Or.inr ⟨by rfl, rfl⟩) (by assumption) ?_
                    (try simp only [Act.put, List.getElem_toArray, List.getElem_cons_zero, List.getElem_cons_succ, List.setIfInBounds_toArray, List.set_cons_zero, List.set_cons_succ])
                    refine wpAnyH_take (i := 5) (v := undef) rfl (by kernel_rfl) (by kernel_rfl) (by kernel_rfl) (fun _ _ _ h => h) (Or.inr ⟨by rfl, rfl⟩) (by assumption) ?_
                    (try simp only [Act.put, List.getElem_toArray, List.getElem_cons_zero, List.getElem_cons_succ, List.setIfInBounds_toArray, List.set_cons_zero, List.set_cons_succ])
                    refine wpAnyH_take (i := 6) (v := .bool true) rfl (by kernel_rfl) (by kernel_rfl) (by kernel_rfl) (fun _ _ _ h => h) (Or.inl ⟨by rfl, ?_⟩) (by assumption) ?_
                    · intro w' hSw; go_simp
                    (try simp only [Act.put, List.getElem_toArray, List.getElem_cons_zero, List.getElem_cons_succ, List.setIfInBounds_toArray, List.set_cons_zero, List.set_cons_succ])
                    refine wpAnyH_ready (rs := [7]) (by kernel_rfl) (by simp) (AllReadyH.cons rfl (fun K hK => ?_) AllReadyH.nil)
                    go_simp
                    have hset := flag_set true HSD.out HFD.out
                    have hnb9 : (D.setCell ⟨w4.heap.size + 1, 0, none⟩ (.bool true)).heap[wr.heap.size]? = some (.cells #[.int .u8 i.op, .int .i64 i.dst, .int .i64 i.x, .int .i64 i.y, .int .i64 i.imm, .string i.sym] 54) := (Below.heap_setCell _ _ _ _ (by have := HGL.out; show wr.heap.size ≠ w4.heap.size + 1; omega)).trans HND.out
                    generalize D.setCell ⟨w4.heap.size + 1, 0, none⟩ (.bool true) = w8 at hset hnb9 ⊢
                    refine hK.out _ _ ((NS.out _ hset.1 hnb9)) (fun hHeld => ?_)
                    clear hK K
                    rename_i hOld
                    clear hOld
                    (try simp only [Act.put, List.getElem_toArray, List.getElem_cons_zero, List.getElem_cons_succ, List.setIfInBounds_toArray, List.set_cons_zero, List.set_cons_succ])
                    refine wpAnyH_done (by kernel_rfl) ?_ _
                    exact ⟨_, _, _, _, _, _, _, by (simp only [List.setIfInBounds_toArray, List.set_cons_zero, List.set_cons_succ]; rfl), hset.1, hnb9, true, hset.2, fun _ => rfl, fun _ => rfl⟩
                  | false =>
                    refine wpAnyH_take (i := 2) (v := .agg #[.int .u8 i.op, .int .i64 i.dst, .int .i64 i.x, .int .i64 i.y, .int .i64 i.imm, .string i.sym]) rfl (by kernel_rfl) (by kernel_rfl) (by kernel_rfl) (fun _ _ _ h => h) (Or.inl ⟨by rfl, ?_⟩) (by assumption) ?_
                    · intro w' hSw; obtain ⟨q0, q1, q2, q3, q4, q5, q6⟩ := hSw; go_simp
                    (try simp only [Act.put, List.getElem_toArray, List.getElem_cons_zero, List.getElem_cons_succ, List.setIfInBounds_toArray, List.set_cons_zero, List.set_cons_succ])
                    refine wpAnyH_take (i := 4) (v := .int .i64 (r : Int)) rfl (by kernel_rfl) (by kernel_rfl) (by kernel_rfl) (fun _ _ _ h => h) (Or.inl ⟨by rfl, ?_⟩) (by assumption) ?_
                    · intro w' hSw; obtain ⟨q0, q1, q2, q3, q4, q5, q6⟩ := hSw; go_simp
                    (try simp only [Act.put, List.getElem_toArray, List.getElem_cons_zero, List.getElem_cons_succ, List.setIfInBounds_toArray, List.set_cons_zero, List.set_cons_succ])
                    clear u0 u1
                    refine wpAnyH_ready (rs := [3]) (by kernel_rfl) (by simp) (AllReadyH.cons rfl (fun K hK => ?_) AllReadyH.nil)
                    go_simp
                    refine (QUS.out _).mono ?_
                    rintro e w6 ⟨v6, rfl, hi6, hB6⟩
                    have HS6 := Lib.hid (HSD.out.keep hB6)
                    have HF6 : Hid (w6.heap[w4.heap.size + 1]? = some (.cells #[.bool false] 4)) := (hB6.block _ (lt_heap HFD.out)).trans HFD.out
                    have HN6 : Hid (w6.heap[wr.heap.size]? = some (.cells #[.int .u8 i.op, .int .i64 i.dst, .int .i64 i.x, .int .i64 i.y, .int .i64 i.imm, .string i.sym] 54)) := (hB6.block _ (lt_heap HND.out)).trans HND.out
                    have HI6 := Lib.hid hi6.at_
                    clear hi6 hB6
                    refine hK.out _ _ ((NS.out _ HS6.out HN6.out)) (fun hHeld => ?_)
                    clear hK K
                    rename_i hOld
                    clear hOld
                    (try simp only [Act.put, List.getElem_toArray, List.getElem_cons_zero, List.getElem_cons_succ, List.setIfInBounds_toArray, List.set_cons_zero, List.set_cons_succ])
                    refine wpAnyH_ready (rs := [5]) (by kernel_rfl) (by simp) (AllReadyH.cons rfl (fun K hK => ?_) AllReadyH.nil)
                    go_simp
                    refine (ints_has i.uses (r : Int) _ _ HI6.out (by have := usesI_len i; omega)).mono ?_
                    rintro e w7 ⟨rfl, hB7⟩
                    have HS7 := Lib.hid (HS6.out.keep hB7)
                    have HF7 : Hid (w7.heap[w4.heap.size + 1]? = some (.cells #[.bool false] 4)) := (hB7.block _ (lt_heap HF6.out)).trans HF6.out
                    have HN7 : Hid (w7.heap[wr.heap.size]? = some (.cells #[.int .u8 i.op, .int .i64 i.dst, .int .i64 i.x, .int .i64 i.y, .int .i64 i.imm, .string i.sym] 54)) := (hB7.block _ (lt_heap HN6.out)).trans HN6.out
                    clear hB7
                    have hin2 : ∀ ub : Bool, decide ((r : Int) ∈ i.uses) = ub → ((r : Int) ∈ i.uses → ub = true) := fun ub h1 h2 => by rw [← h1]; exact decide_eq_true h2
                    have HIN2 := Lib.hid hin2
                    obtain ⟨ub, hub⟩ : ∃ ub, decide ((r : Int) ∈ i.uses) = ub := ⟨_, rfl⟩
                    have HUB := Lib.hid hub
                    simp only [hub]
                    clear hub hin2
                    refine hK.out _ _ ((NS.out _ HS7.out HN7.out)) (fun hHeld => ?_)
                    clear hK K
                    rename_i hOld
                    clear hOld
                    (try simp only [Act.put, List.getElem_toArray, List.getElem_cons_zero, List.getElem_cons_succ, List.setIfInBounds_toArray, List.set_cons_zero, List.set_cons_succ])
                    refine wpAnyH_take (i := 6) (v := .bool ub) rfl (by kernel_rfl) (by kernel_rfl) (by kernel_rfl) (fun _ _ _ h => h) (Or.inl ⟨by rfl, ?_⟩) (by assumption) ?_
                    · intro w' hSw; go_simp
                    (try simp only [Act.put, List.getElem_toArray, List.getElem_cons_zero, List.getElem_cons_succ, List.setIfInBounds_toArray, List.set_cons_zero, List.set_cons_succ])
                    have u0 : w7.cell? ⟨w4.heap.size + 1, 0, none⟩ = some (.bool false) := cell_heap HF7.out 0
                    have u1 : w7.frozen? ⟨w4.heap.size + 1, 0, none⟩ = false := frozen_heap HF7.out 0
                    refine wpAnyH_ready (rs := [7]) (by kernel_rfl) (by simp) (AllReadyH.cons rfl (fun K hK => ?_) AllReadyH.nil)
                    go_simp
                    have hset := flag_set ub HS7.out HF7.out
                    have hnb9 : (w7.setCell ⟨w4.heap.size + 1, 0, none⟩ (.bool ub)).heap[wr.heap.size]? = some (.cells #[.int .u8 i.op, .int .i64 i.dst, .int .i64 i.x, .int .i64 i.y, .int .i64 i.imm, .string i.sym] 54) := (Below.heap_setCell _ _ _ _ (by have := HGL.out; show wr.heap.size ≠ w4.heap.size + 1; omega)).trans HN7.out
                    generalize w7.setCell ⟨w4.heap.size + 1, 0, none⟩ (.bool ub) = w8 at hset hnb9 ⊢
                    refine hK.out _ _ ((NS.out _ hset.1 hnb9)) (fun hHeld => ?_)
                    clear hK K
                    rename_i hOld
                    clear hOld
                    (try simp only [Act.put, List.getElem_toArray, List.getElem_cons_zero, List.getElem_cons_succ, List.setIfInBounds_toArray, List.set_cons_zero, List.set_cons_succ])
                    refine wpAnyH_done (by kernel_rfl) ?_ _
                    exact ⟨_, _, _, _, _, _, _, by (simp only [List.setIfInBounds_toArray, List.set_cons_zero, List.set_cons_succ]; rfl), hset.1, hnb9, ub, hset.2, fun h => absurd h (by decide), HIN2.out _ HUB.out⟩
                · rintro a' Wc ⟨z80, z81, z82, z83, z84, z85, z86, rfl, hst3, hnb3, u3, hfl3, hmono3, huse3⟩
                  simp only [List.setIfInBounds_toArray, List.set_cons_zero, List.set_cons_succ]
                  have HST3 := Lib.hid hst3
                  have HNB3 := Lib.hid hnb3
                  have HFL3 := Lib.hid hfl3
                  have HUS3 : Hid (∀ (i : Nat) (b : Blk), i < j → f.blocks[i]? = some b → UsedBlk r b → u3 = true) := fun i b h1 h2 h3 => hmono3 (HUS.out i b h1 h2 h3)
                  have HKX3 : Hid (b.kind = 2 ∧ b.x = (r : Int) → u3 = true) := fun h => hmono3 (HKX.out h)
                  have HCU3 : Hid (∀ (i : Nat) (q : Ins), i < m + 1 → b.code[i]? = some q → (r : Int) ∈ q.uses → u3 = true) := fun k q h1 h2 h3 => by
                    by_cases hk : k < m
                    · exact hmono3 (HCU.out k q hk h2 h3)
                    · obtain rfl : k = m := by omega
                      rw [HI.out] at h2
                      injection h2 with h2
                      exact huse3 (by rw [h2]; exact h3)
                  obtain ⟨n0, n1, n2, n3, n4, n5, r0⟩ := NS.out _ hst3 hnb3
                  clear hst3 hnb3 hfl3 hmono3 huse3 HUS HKX HCU HST1 HFL1 HNB
                  go_wp2_with fail
                  clear n0 n1 n2 n3 n4 n5 r0
                  refine (QDE.out _).mono ?_
                  rintro e w5 ⟨rfl, hB5⟩
                  have HST5 := Lib.hid (HST3.out.keep hB5)
                  have HFL5 : Hid (w5.heap[w4.heap.size + 1]? = some (.cells #[.bool u3] 4)) := (hB5.block _ (lt_heap HFL3.out)).trans HFL3.out
                  have HNB5 : Hid (w5.heap[wr.heap.size]? = some (.cells #[.int .u8 i.op, .int .i64 i.dst, .int .i64 i.x, .int .i64 i.y, .int .i64 i.imm, .string i.sym] 54)) := (hB5.block _ (lt_heap HNB3.out)).trans HNB3.out
                  obtain ⟨dv, hdv⟩ : ∃ d, i.defines = d := ⟨_, rfl⟩
                  have HDV := Lib.hid hdv
                  rw [hdv]
                  obtain ⟨n0, n1, n2, n3, n4, n5, r0⟩ := NS.out _ HST5.out HNB5.out
                  clear hB5 hdv HST3 HFL3 HNB3
                  cases dv with
                  | none =>
                    have HZI : Hid (zapI r i = i) := by show _ = _; unfold zapI; rw [HDV.out, if_neg (fun h => by cases h.1)]
                    have HSTE := HST5
                    have HFLE := HFL5
                    go_wp2_with fail
                    exact ⟨⟨m + 1, l, u3, by omega, by go_num, HSTE.out, HFLE.out, HZL.out.kept HB.out HI.out HZI.out, by rw [zapC_same HI.out HZI.out]; exact HP.out, HUS3.out, HKX3.out, HCU3.out⟩, by simp [intOf]; omega⟩
                  | some d =>
                    by_cases hd : d = (r : Int)
                    · subst hd
                      go_wp2_with fail
                      clear n0 n1 n2 n3 n4 n5 r0
                      refine (QUS.out _).mono ?_
                      rintro e w6 ⟨v6, rfl, hi6, hB6⟩
                      have HST6 := Lib.hid (HST5.out.keep hB6)
                      have HFL6 : Hid (w6.heap[w4.heap.size + 1]? = some (.cells #[.bool u3] 4)) := (hB6.block _ (lt_heap HFL5.out)).trans HFL5.out
                      obtain ⟨lu, hlu⟩ : ∃ l, i.uses = l := ⟨_, rfl⟩
                      have HLU := Lib.hid hlu
                      have hi7 := hi6.at_
                      rw [hlu] at hi7
                      obtain ⟨va, vc, rfl, _⟩ := hi7
                      clear hi6 hB6 hlu HST5 HFL5 HNB5
                      cases lu with
                      | cons y ys =>
                        have HZI : Hid (zapI r i = i) := by show _ = _; unfold zapI; rw [HLU.out, if_neg (fun h => by cases h.2)]
                        have HSTE := HST6
                        have HFLE := HFL6
                        have hle : (((y :: ys).length : Int) == 0) = false := by simp; omega
                        go_wp2_with fail
                        exact ⟨⟨m + 1, l, u3, by omega, by go_num, HSTE.out, HFLE.out, HZL.out.kept HB.out HI.out HZI.out, by rw [zapC_same HI.out HZI.out]; exact HP.out, HUS3.out, HKX3.out, HCU3.out⟩, by simp [intOf]; omega⟩
                      | nil =>
                        have HZI : Hid (zapI r i = zeroI) := by show _ = _; unfold zapI; rw [if_pos ⟨HDV.out, HLU.out⟩]
                        obtain ⟨g3, k0, _, _, _⟩ := BLK.out _ _ _ _ _ HST6.out HP.out
                        rw [zapC_len] at k0
                        go_wp2_with fail
                        have S17 : Hid (∀ (l : List BlkP) (q : Blk) w', BndSt19 V3 w4.heap.size g n bc' #[.string f.name, .int .i64 (R : Int), .slice aa f.arrays.length ac, .slice (some ⟨g, 0, none⟩) n bc'] l w' → l[j]? = some ⟨q, some ⟨cb, 0, none⟩, pc⟩ → q.code.length = b.code.length → (w'.cell? ⟨w4.heap.size, 3, none⟩ = some (.slice (some ⟨g, 0, none⟩) n bc') ∧ w'.cell? ⟨g, j * 5, none⟩ = some (.slice (some ⟨cb, 0, none⟩) b.code.length pc))) := fun l q w' h hq hl => by
                          obtain ⟨a0, a1, _⟩ := BLK.out _ _ _ _ _ h hq
                          rw [hl] at a1
                          exact ⟨a0, a1⟩
                        have HSD := Lib.hid (HST6.out.keep (Below.refl w6.heap.size w6).drew)
                        have HFD : Hid (w6.drew.heap[w4.heap.size + 1]? = some (.cells #[.bool u3] 4)) := HFL6.out
                        refine wp_region_held_drew (S := fun w' => (w'.cell? ⟨w4.heap.size, 3, none⟩ = some (.slice (some ⟨g, 0, none⟩) n bc') ∧ w'.cell? ⟨g, j * 5, none⟩ = some (.slice (some ⟨cb, 0, none⟩) b.code.length pc))) (by kernel_rfl) (S17.out _ _ _ HSD.out HP.out (zapC_len _ _ _)) (fun hHeld => ?_)
                        clear g3 k0
                        generalize hwd : w6.drew = D at hHeld HSD HFD ⊢
                        clear hwd
                        refine wpAnyH_take (i := 0) (v := .pointer (some ⟨w4.heap.size, 3, none⟩)) rfl (by kernel_rfl) (by kernel_rfl) (by kernel_rfl) (fun _ _ _ h => h) (Or.inl ⟨by rfl, ?_⟩) (by assumption) ?_
                        · intro w' hSw; go_simp
                        (try simp only [Act.put, List.getElem_toArray, List.getElem_cons_zero, List.setIfInBounds_toArray, List.set_cons_zero, List.set_cons_succ])
                        refine wpAnyH_take (i := 1) (v := .slice (some ⟨g, 0, none⟩) n bc') rfl (by kernel_rfl) (by kernel_rfl) (by kernel_rfl) (fun _ _ _ h => h) (Or.inl ⟨by rfl, ?_⟩) (by assumption) ?_
                        · intro w' hSw; obtain ⟨q0, q1⟩ := hSw; go_simp
                        (try simp only [Act.put, List.getElem_toArray, List.getElem_cons_zero, List.getElem_cons_succ, List.setIfInBounds_toArray, List.set_cons_zero, List.set_cons_succ])
                        refine wpAnyH_take (i := 2) (v := .int .i64 (j : Int)) rfl (by kernel_rfl) (by kernel_rfl) (by kernel_rfl) (fun _ _ _ h => h) (Or.inl ⟨by rfl, ?_⟩) (by assumption) ?_
                        · intro w' hSw; go_simp
                        (try simp only [Act.put, List.getElem_toArray, List.getElem_cons_zero, List.getElem_cons_succ, List.setIfInBounds_toArray, List.set_cons_zero, List.set_cons_succ])
                        refine wpAnyH_take (i := 3) (v := .pointer (some ⟨g, j * 5, none⟩)) rfl (by kernel_rfl) (by kernel_rfl) (by kernel_rfl) (fun _ _ _ h => h) (Or.inl ⟨by rfl, ?_⟩) (by assumption) ?_
                        · intro w' hSw; go_simp
                        (try simp only [Act.put, List.getElem_toArray, List.getElem_cons_zero, List.getElem_cons_succ, List.setIfInBounds_toArray, List.set_cons_zero, List.set_cons_succ])
                        refine wpAnyH_take (i := 4) (v := .pointer (some ⟨g, j * 5, none⟩)) rfl (by kernel_rfl) (by kernel_rfl) (by kernel_rfl) (fun _ _ _ h => h) (Or.inl ⟨by rfl, ?_⟩) (by assumption) ?_
                        · intro w' hSw; go_simp
                        (try simp only [Act.put, List.getElem_toArray, List.getElem_cons_zero, List.getElem_cons_succ, List.setIfInBounds_toArray, List.set_cons_zero, List.set_cons_succ])
                        refine wpAnyH_take (i := 5) (v := .slice (some ⟨cb, 0, none⟩) b.code.length pc) rfl (by kernel_rfl) (by kernel_rfl) (by kernel_rfl) (fun _ _ _ h => h) (Or.inl ⟨by rfl, ?_⟩) (by assumption) ?_
                        · intro w' hSw; obtain ⟨q0, q1⟩ := hSw; go_simp
                        (try simp only [Act.put, List.getElem_toArray, List.getElem_cons_zero, List.getElem_cons_succ, List.setIfInBounds_toArray, List.set_cons_zero, List.set_cons_succ])
                        refine wpAnyH_take (i := 6) (v := .int .i64 (m : Int)) rfl (by kernel_rfl) (by kernel_rfl) (by kernel_rfl) (fun _ _ _ h => h) (Or.inl ⟨by rfl, ?_⟩) (by assumption) ?_
                        · intro w' hSw; go_simp
                        (try simp only [Act.put, List.getElem_toArray, List.getElem_cons_zero, List.getElem_cons_succ, List.setIfInBounds_toArray, List.set_cons_zero, List.set_cons_succ])
                        refine wpAnyH_ready (rs := [7]) (by kernel_rfl) (by simp) (AllReadyH.cons rfl (fun K hK => ?_) AllReadyH.nil)
                        go_simp
                        refine (ins_any 13 0 0 0 0 _).mono ?_
                        rintro e w9 ⟨rfl, hB9⟩
                        have HS9 := Lib.hid (HSD.out.keep hB9)
                        have HF9 : Hid (w9.heap[w4.heap.size + 1]? = some (.cells #[.bool u3] 4)) := (hB9.block _ (lt_heap HFD.out)).trans HFD.out
                        clear hB9
                        refine hK.out _ _ ((S17.out _ _ _ HS9.out HP.out (zapC_len _ _ _))) (fun hHeld => ?_)
                        clear hK K
                        rename_i hOld
                        clear hOld
                        (try simp only [Act.put, List.getElem_toArray, List.getElem_cons_zero, List.getElem_cons_succ, List.setIfInBounds_toArray, List.set_cons_zero, List.set_cons_succ])
                        refine wpAnyH_take (i := 8) (v := .pointer (some ⟨cb, m * 6, none⟩)) rfl (by kernel_rfl) (by kernel_rfl) (by kernel_rfl) (fun _ _ _ h => h) (Or.inl ⟨by rfl, ?_⟩) (by assumption) ?_
                        · intro w' hSw; go_simp
                        (try simp only [Act.put, List.getElem_toArray, List.getElem_cons_zero, List.getElem_cons_succ, List.setIfInBounds_toArray, List.set_cons_zero, List.set_cons_succ])
                        obtain ⟨i0, i1, i2, i3, i4, i5, hfz⟩ := HCC.out _ _ HS9.out HP.out
                        have z0 := hfz (m * 6)
                        have z1 := hfz (m * 6 + 1)
                        have z2 := hfz (m * 6 + 2)
                        have z3 := hfz (m * 6 + 3)
                        have z4 := hfz (m * 6 + 4)
                        have z5 := hfz (m * 6 + 5)
                        clear hfz
                        refine wpAnyH_ready (rs := [9]) (by kernel_rfl) (by simp) (AllReadyH.cons rfl (fun K hK => ?_) AllReadyH.nil)
                        go_simp
                        have hwf : i.Wf := HST6.out.row.iwf _ (List.mem_of_getElem? HP.out) i (List.mem_of_getElem? HGI.out)
                        have HSE := Lib.hid (HS9.out.setWhole (j := zeroI) (by decide) HP.out HGI.out zeroI_wf hwf rfl)
                        have hcbne : cb ≠ w4.heap.size + 1 := by
                          have h9 := HS9.out.row.code _ (List.mem_of_getElem? HP.out)
                          intro e
                          exact ownsRow_ne h9 HF9.out (by decide) (by rw [← e]; rfl)
                        have HFE : Hid (((((((w9.setCell ⟨cb, m * 6, none⟩ (.int .u8 zeroI.op)).setCell ⟨cb, m * 6 + 1, none⟩ (.int .i64 zeroI.dst)).setCell ⟨cb, m * 6 + 2, none⟩ (.int .i64 zeroI.x)).setCell ⟨cb, m * 6 + 3, none⟩ (.int .i64 zeroI.y)).setCell ⟨cb, m * 6 + 4, none⟩ (.int .i64 zeroI.imm)).setCell ⟨cb, m * 6 + 5, none⟩ (.string zeroI.sym)).heap[w4.heap.size + 1]? = some (.cells #[.bool u3] 4)) := by
                          show _ = _
                          rw [Below.heap_setCell _ _ _ _ (by exact fun e => hcbne e.symm), Below.heap_setCell _ _ _ _ (by exact fun e => hcbne e.symm), Below.heap_setCell _ _ _ _ (by exact fun e => hcbne e.symm), Below.heap_setCell _ _ _ _ (by exact fun e => hcbne e.symm), Below.heap_setCell _ _ _ _ (by exact fun e => hcbne e.symm), Below.heap_setCell _ _ _ _ (by exact fun e => hcbne e.symm)]
                          exact HF9.out
                        have HZE := Lib.hid (HZL.out.struck HB.out HI.out HP.out HZI.out)
                        have HPE : Hid ((l.set j ⟨{ zapC r m b with code := (zapC r m b).code.set m zeroI }, some ⟨cb, 0, none⟩, pc⟩)[j]? = some ⟨zapC r (m + 1) b, some ⟨cb, 0, none⟩, pc⟩) := by
                          show _ = _
                          rw [List.getElem?_set_self (List.getElem?_eq_some_iff.1 HP.out).1, zapC_step HI.out, HZI.out]
                        simp only [zeroI] at HSE HFE HZE HPE
                        clear i0 i1 i2 i3 i4 i5 z0 z1 z2 z3 z4 z5
                        generalize World.setCell _ _ _ = wE at HSE HFE ⊢
                        refine hK.out _ _ ((S17.out _ _ _ HSE.out HPE.out (zapC_len _ _ _))) (fun hHeld => ?_)
                        clear hK K
                        rename_i hOld
                        clear hOld
                        (try simp only [Act.put, List.getElem_toArray, List.getElem_cons_zero, List.getElem_cons_succ, List.setIfInBounds_toArray, List.set_cons_zero, List.set_cons_succ])
                        refine wpAnyH_done (by kernel_rfl) ?_ _
                        go_wp2_with fail
                        exact ⟨⟨m + 1, _, u3, by omega, by go_num, HSE.out, HFE.out, HZE.out, HPE.out, HUS3.out, HKX3.out, HCU3.out⟩, by simp [intOf]; omega⟩
                    · have e3 : (d == (r : Int)) = false := by simp [hd]
                      have HZI : Hid (zapI r i = i) := by show _ = _; unfold zapI; rw [HDV.out, if_neg (fun h => hd (Option.some.inj h.1))]
                      have HSTE := HST5
                      have HFLE := HFL5
                      go_wp2_with fail
                      exact ⟨⟨m + 1, l, u3, by omega, by go_num, HSTE.out, HFLE.out, HZL.out.kept HB.out HI.out HZI.out, by rw [zapC_same HI.out HZI.out]; exact HP.out, HUS3.out, HKX3.out, HCU3.out⟩, by simp [intOf]; omega⟩
              · obtain rfl : m = b.code.length := by omega
                have HUE : Hid (∀ (i : Nat) (c : Blk), i < j + 1 → f.blocks[i]? = some c → UsedBlk r c → u = true) := fun i c h1 h2 h3 => by
                  by_cases hij : i < j
                  · exact HUS.out i c hij h2 h3
                  · obtain rfl : i = j := by omega
                    rw [HB.out] at h2
                    injection h2 with h2
                    subst h2
                    rcases h3 with h3 | ⟨q, hq, h3⟩
                    · exact HKX.out h3
                    · obtain ⟨k, hk⟩ := List.getElem?_of_mem hq
                      exact HCU.out k q (List.getElem?_eq_some_iff.1 hk).1 hk h3
                go_wp2_with fail
                exact ⟨⟨j + 1, l, u, by omega, by go_num, HST.out, HFL.out, HZL.out.next HB.out, HUE.out⟩, by simp [intOf]; omega⟩
        · obtain rfl : j = n := by omega
          have HZD : Hid (l.map (·.blk) = (zapF r f).blocks) := by
            have h9 := HZL.out
            rw [← HN.out] at h9
            exact h9.done
          have HZLEN : Hid ((zapF r f).blocks.length = j) := by show _ = _; rw [zap_len, HN.out]
          have HGFN : Hid (FnAt wr (zapF r f) aa (some ⟨g, 0, none⟩)) := by
            have hll : l.length = j := by have := HZL.out.len; rw [HN.out] at this; exact this
            obtain ⟨a9, c9, e9, hb9, _⟩ := HST.out.row.toRow.blks (by rw [hll]; omega)
            injection e9 with e9
            subst e9
            rw [HZD.out] at hb9
            have hf9 := (KEEP.out wr HST.out.low).2.2.2.2.1
            exact ⟨hf9.arrays, hb9, hf9.regs, hf9.name⟩
          have HZF : Hid (FormF (zapF r f)) := zapF_form HFM.out
          have HZR : Hid (FormR (zapF r f) R) := by
            have h9 := HZF.out.small (by show f.regs ≤ 12; exact HSM.out.rg)
            rw [show (zapF r f).regs = (R : Int) from HREG.out, Int.toNat_natCast] at h9
            exact h9
          have HZC : Hid (∀ b ∈ (zapF r f).blocks, b.code.length ≤ 1000000) := by
            intro b hb
            obtain ⟨b', hb', rfl⟩ := List.mem_map.1 hb
            show (b'.code.map (zapI r)).length ≤ _
            rw [List.length_map]
            exact HFIT.out.2 b' hb'
          have QO2 : Hid (Calls Tryd.prog 12 #[.agg #[.string f.name, .int .i64 (R : Int), .slice aa f.arrays.length ac, .slice (some ⟨g, 0, none⟩) j bc']] wr (OfEnd (zapF r f) R wr)) := by
            have h9 := of_any (zapF r f) R aa (some ⟨g, 0, none⟩) ac bc' wr HGFN.out HZF.out HREG.out HR12.out (by rw [HZLEN.out]; exact hnb) HZC.out (tab_keep HT.out (KEEP.out wr HST.out.low).2.2.2.1)
            rw [show (zapF r f).regs = (R : Int) from HREG.out, HZLEN.out] at h9
            exact h9
          have g0 := cell_heap HST.out.gx 0
          have g1 := cell_heap HST.out.gx 1
          have g2 := cell_heap HST.out.gx 2
          have g3 := cell_heap HST.out.gx 3
          simp only [List.getElem?_toArray, List.getElem?_cons_zero, List.getElem?_cons_succ] at g0 g1 g2 g3
          go_wp2_with fail
          clear g0 g1 g2 g3
          refine QO2.out.mono ?_
          rintro e w5 ⟨iv', ov', rin', rout', ins', outs', rfl, hri', hro', hsol', hm1', hm2', hB5⟩
          have HSOL' := Lib.hid hsol'
          have HM2' := Lib.hid hm2'
          have HLN' : Hid (rin'.length = j ∧ rout'.length = j ∧ outs'.length = j) := by
            have e1 : ins'.length = j := by rw [hsol'.li, HZLEN.out]
            have e2 : outs'.length = j := by rw [hsol'.lo, HZLEN.out]
            have e3 := congrArg List.length hm1'
            have e4 := congrArg List.length hm2'
            simp only [List.length_map] at e3 e4
            exact ⟨by omega, by omega, e2⟩
          obtain ⟨iva', ivc', rfl⟩ : ∃ a c, iv' = .slice a j c := by
            obtain ⟨a, c, h9⟩ := hri'.val
            exact ⟨a, c, by rw [h9, HLN'.out.1]⟩
          obtain ⟨ova', ovc', rfl⟩ : ∃ a c, ov' = .slice a j c := by
            obtain ⟨a, c, h9⟩ := hro'.val
            exact ⟨a, c, by rw [h9, HLN'.out.2.1]⟩
          obtain ⟨V5, hV5⟩ : ∃ V5 : World, w5.alloc (.cells #[.slice iva' j ivc', .slice ova' j ovc'] 30) = V5 := ⟨_, rfl⟩
          have HBV5 : Hid (Below w5.heap.size w5 V5) := by show Below _ _ _; rw [← hV5]; exact (Below.refl _ _).alloc (Nat.le_refl _) _
          have HS5 : Hid (V5.heap[w5.heap.size]? = some (.cells #[.slice iva' j ivc', .slice ova' j ovc'] 30)) := by show _ = _; rw [← hV5]; exact (MapKept.heap_alloc w5 _).1
          have HB5 : Hid (Below wr.heap.size wr V5) := below_step hB5 HBV5.out
          have HRO5 := Lib.hid (hro'.keep HBV5.out)
          have BC : Hid (∀ w', Below V5.heap.size V5 w' → BCells w.heap.size w3.heap.size w2.heap.size (w4.heap.size + 1) w4.heap.size w5.heap.size f.name R r aa ba (some ⟨g, 0, none⟩) iva ova iva' ova' f.arrays.length ac j bc bc' ivc ovc ivc' ovc' u w' ∧ Below w.heap.size w w' ∧ FnAt w' f aa ba ∧ IRows V2.heap.size w' (.slice ova j ovc) rout ∧ FnAt w' (zapF r f) aa (some ⟨g, 0, none⟩) ∧ IRows wr.heap.size w' (.slice ova' j ovc') rout') := fun w' h => by
            have h1 := below_step HB5.out h
            have hst' := HST.out.keep h1
            have hfl' : w'.heap[w4.heap.size + 1]? = some (.cells #[.bool u] 4) := (h1.block _ (lt_heap HFL.out)).trans HFL.out
            obtain ⟨hx, hs, hr9, hbw, hfw, hio⟩ := KEEP.out w' hst'.low
            have hs5 := (h.block _ (lt_heap HS5.out)).trans HS5.out
            exact ⟨⟨hx, hs, hr9, cell_heap hfl' 0, ⟨cell_heap hst'.gx 0, cell_heap hst'.gx 1, cell_heap hst'.gx 2, cell_heap hst'.gx 3⟩, two_cells hs5⟩, hbw, hfw, hio, HGFN.out.below h1, HRO5.out.keep h⟩
          obtain ⟨⟨⟨x0, x1, x2, x3⟩, _⟩, _, hfw5, _⟩ := BC.out V5 (Below.refl _ _)
          have HFW5 := Lib.hid hfw5
          clear hri' hro' hsol' hm1' hm2' hB5 hfw5
          go_wp2_with fail
          clear hV5 x0 x1 x2 x3
          refine (points_bounds f aa ba ac bc R j w.heap.size w3.heap.size w2.heap.size (w4.heap.size + 1) w4.heap.size w5.heap.size V5 HFW5.out HREG.out HN.out HFIT.out.2 (fun k at_ b w' hB hb hat => ?_)).mono ?_
          · have hkj : k < j := by have := (List.getElem?_eq_some_iff.1 hb).1; have := HN.out; omega
            obtain ⟨uo, huo⟩ := row_get (j := k) HM2.out (by rw [HLN.out.2.2.2]; exact hkj)
            obtain ⟨uo', huo'⟩ := row_get (j := k) HM2'.out (by rw [HLN'.out.2.2]; exact hkj)
            refine bounds1_any _ _ _ _ _ _ f.name R r k at_ aa ba (some ⟨g, 0, none⟩) iva ova iva' ova' f.arrays.length ac j bc bc' ivc ovc ivc' ovc' u (listB (blkB b at_ (outs.getD k 0))) (listB (blkB (zapB r b) at_ (outs'.getD k 0))) w' (fun w'' h => (BC.out w'' (below_step hB h)).1) (fun w'' h => ?_) (fun w'' h => ?_) (by have := list_len (blkB b at_ (outs.getD k 0)); omega) (by have := list_len (blkB (zapB r b) at_ (outs'.getD k 0)); omega) (fun hin => ?_)
            · obtain ⟨_, hbw, hfw, hio, _, _⟩ := BC.out w'' (below_step hB h)
              have h9 := before_any f R aa ba ac bc (.slice iva j ivc) (.slice ova j ovc) V2.heap.size (outs.getD k 0) k at_ b rout uo w'' hfw HFM.out HREG.out HR12.out HFIT.out.1 HFIT.out.2 (tab_keep HT.out hbw) ⟨_, _, _, rfl⟩ hio (by rw [HLN.out.2.1, HN.out]) hb hat huo (HSOL.out.bo k)
              rw [HREG.out, HN.out] at h9
              exact h9.mono fun e w9 ⟨v, h1, h2, h3⟩ => ⟨v, h1, h2.at_, h3⟩
            · obtain ⟨_, hbw, _, _, hgf, hio⟩ := BC.out w'' (below_step hB h)
              have h9 := before_any (zapF r f) R aa (some ⟨g, 0, none⟩) ac bc' (.slice iva' j ivc') (.slice ova' j ovc') wr.heap.size (outs'.getD k 0) k at_ (zapB r b) rout' uo' w'' hgf HZF.out HREG.out HR12.out (by rw [HZLEN.out]; exact hnb) HZC.out (tab_keep HT.out hbw) ⟨_, _, _, rfl⟩ hio (by rw [HLN'.out.2.1, HZLEN.out]) (zap_get hb) (by show at_ ≤ (b.code.map (zapI r)).length; rw [List.length_map]; exact hat) huo' (HSOL'.out.bo k)
              rw [show (zapF r f).regs = (R : Int) from HREG.out, HZLEN.out] at h9
              exact h9.mono fun e w9 ⟨v, h1, h2, h3⟩ => ⟨v, h1, h2.at_, h3⟩
            · have b12 : ∀ s, s < 2 ^ R → s < 4096 := fun s hs => Nat.lt_of_lt_of_le hs (Nat.pow_le_pow_right (n := 2) (by omega) HR12.out)
              have hbr := HFR.out.blk _ (List.mem_of_getElem? hb)
              have hbr' := HZR.out.blk _ (List.mem_of_getElem? (zap_get (r := r) hb))
              have hj := (mem_list (b12 _ (blkB_lt hbr (HSOL.out.bo k)))).1 hin
              obtain ⟨⟨c, hc, huc⟩, hj'⟩ := bounds_plain HFR.out HZR.out HSOL.out HSOL'.out HRR.out hb hj
              refine ⟨?_, (mem_list (b12 _ (blkB_lt hbr' (HSOL'.out.bo k)))).2 hj'⟩
              obtain ⟨q, hq⟩ := List.getElem?_of_mem hc
              exact HUS.out q c (by have := (List.getElem?_eq_some_iff.1 hq).1; have := HN.out; omega) hq huc
          · rintro e w8 ⟨rfl, hB8⟩
            have HB8 : Hid (Below w.heap.size w w8) := (BC.out w8 hB8).2.1
            clear hB8
            go_wp2_with fail
            go_ret
            exact ⟨rfl, HB8.out⟩
end Go.Proofs.YteknhnnlhhgppaaDoor
